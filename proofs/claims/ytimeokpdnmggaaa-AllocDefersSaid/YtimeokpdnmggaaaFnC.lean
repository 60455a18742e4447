/- What the Alloc functions compute: with. -/
import Derived.Test.YtimeokpdnmggaaaFnB
set_option linter.unusedVariables false
set_option linter.unusedSimpArgs false
set_option maxRecDepth 20000
namespace Go.Ev
open Go Go.Proofs

theorem en_mk (n : Nat) (z : AV) (hn : n ≤ 2 ^ 40) : evN (.mkslice 1 1 [z]) [.lit (.int .i64 (n : Int)), .lit (.int .i64 (n : Int))] = some (List.replicate n z, fun o => .ref o 0 n 1 (some n)) := by
  have hz : zcells [z] (n * 1) = List.replicate n z := by
    unfold zcells
    apply List.ext_getElem
    · simp
    · intro i h1 h2
      simp [Nat.mod_one]
  simp only [evN, natOf, Int.natCast_nonneg, if_true, Int.toNat_natCast]
  rw [if_pos ⟨Nat.le_refl _, by omega, by omega, rfl⟩, hz]
theorem ew_copy {h : Heap} {o n : Nat} {c c' : Option Nat} {b : Bool} {cs xs : List AV} (hl : look h o = some cs) (hc : cs.length = n) (hx : xs.length = n) :
    evW h (.copy 1) [.ref o 0 n 1 c, .sl b n c' xs] = some (.lit (.int .i64 n), h.set o (some xs)) := by
  have h1 : slC (look h) 1 (.ref o 0 n 1 c) = some (n, cs) := by
    simp only [slC, rdM, hl, if_true]
    rw [if_pos (by omega)]
    simp only [List.drop_zero]
    rw [List.take_of_length_le (by omega)]
    rfl
  have h2 : slC (look h) 1 (.sl b n c' xs) = some (n, xs) := by
    simp only [slC]
    rw [if_pos (by omega)]
  simp only [evW, h1, h2, hl]
  have hm : Nat.min n n = n := Nat.min_self n
  rw [hm, List.take_of_length_le (by omega), spl_all xs cs 0 (by omega)]
  rfl
theorem look_at (h t : Heap) (k : Nat) : look (h ++ t) (h.length + k) = look t k := by
  unfold look
  rw [List.getElem?_append_right (by omega), Nat.add_sub_cancel_left]
theorem look_at0 (h t : Heap) : look (h ++ t) h.length = look t 0 := look_at h t 0
theorem set_at (h t : Heap) (k : Nat) (x : Option (List AV)) : (h ++ t).set (h.length + k) x = h ++ t.set k x := by
  rw [List.set_append_right _ _ (by omega), Nat.add_sub_cancel_left]
theorem set_at0 (h t : Heap) (x : Option (List AV)) : (h ++ t).set h.length x = h ++ t.set 0 x := set_at h t 0 x

/-- A list of cells, as it is handed over. -/
def CA (h : Heap) (C : AV) (l : List Int) : Prop := ∀ t : Heap, evR (look (h ++ t)) (.len false) [C] = some (iv l.length) ∧ ∀ (i : Nat) (n : Int), l[i]? = some n → ∃ p, evR (look (h ++ t)) (.iaddr none 1) [C, iv i] = some p ∧ evR (look (h ++ t)) (.load false 1) [p] = some (iv n)
def setAll (u : List Bool) (l : List Int) (b : Bool) : List Bool := l.foldl (fun u a => u.set a.toNat b) u
theorem setAll_length (b : Bool) : ∀ (l : List Int) (u : List Bool), (setAll u l b).length = u.length
  | [], u => rfl
  | a :: l, u => by simp only [setAll, List.foldl_cons]; exact (setAll_length b l _).trans (by simp)
theorem setAll_take {u : List Bool} {l : List Int} {b : Bool} {i : Nat} {n : Int} (hi : l[i]? = some n) : setAll u (l.take (i + 1)) b = (setAll u (l.take i) b).set n.toNat b := by
  obtain ⟨h1, h2⟩ := List.getElem?_eq_some_iff.1 hi
  rw [List.take_succ_eq_append_getElem h1, h2]
  simp [setAll]

theorem c37 {h : Heap} {C : AV} {l : List Int} (hC : CA h C l) {u : List Bool} (nu : Bool) (cu : Option Nat) (L K : AV) (b : Bool) (hu : u.length ≤ 4096) (hl : ∀ x ∈ l, 0 ≤ x ∧ x < u.length) (hln : l.length < 9223372036854775807) :
    ∃ r h', ((∃ x y, h' = h ++ [x, y, some ((setAll u l b).map bv)]) ∧ r = .agg [.ref (h.length + 2) 0 u.length 1 (some u.length), L, K]) ∧ Cl tab 37 [.agg [.sl nu u.length cu (u.map bv), L, K], C, bv b] h r h' := by
  refine sh3 (fun r h' => (∃ x y, h' = h ++ [x, y, some ((setAll u l b).map bv)]) ∧ r = .agg [.ref (h.length + 2) 0 u.length 1 (some u.length), L, K]) tab37 rfl (by decide) fun fr hfl h0 h1 h2 => ?_
  have hl' : fr.length = 32 := hfl
  have hmk := en_mk u.length (.lit (.bool false)) (by omega)
  have hcp := @ew_copy (h ++ [some [.sl nu u.length cu (u.map bv), L, K], some [.sl true 0 (some 0) [], .sl true 0 (some 0) [], iv 0], some (List.replicate u.length (bv false))]) (h.length + 2) u.length (some u.length) cu nu (List.replicate u.length (bv false)) (u.map bv) (look_at _ _ 2) (by simp) (by simp)
  have hlen := (hC [some [.sl nu u.length cu (u.map bv), L, K], some [.sl true 0 (some 0) [], .sl true 0 (some 0) [], iv 0], some (u.map bv)]).1
  simp only [A37, wk_skip, wk_reg, wk_dreg, wk_frz, wk_seq, wk_cond, wk_block, wk_loop, wk_exit, wk_scope, wk_ret, pk_nil, pk_seqN, pk_seqE, pk_seqR, pk_blkN, pk_blkE, pk_blkR, pk_invN, pk_invE, pk_invR, wo_nil, wo_cons, wd_nil, wd_cons, want_n, want_s, put_s, put_n, I.cls, List.map, opv_t, opv_i, opv_b, opv_n, opv_f, opv_s, ev_mv, ev_pick, ev_len, ev_lenR, ev_bin, ev_beqF, ev_beqT, ev_not, ev_conv, ev_ext, ev_mkfn, ev_faddr, ev_faddrF, ev_fieldF, ev_fieldT, ev_max, ev_min, ev_snilS, ev_snilR, ev_load1F, sb_lss, sb_leq, sb_gtr, sb_geq, sb_eql, sb_neq, sb_add, sb_sub, sb_mul, map_s, en_new, en_boxA, leaf_i, leaf_b, leaf_sl, leaf_ref, List.getElem?_set, List.length_set, List.length_map, List.length_append, List.getElem?_map, Option.map_some, Option.getD_some, ↓reduceIte, Nat.reduceLT, Nat.reduceEqDiff, Nat.zero_add, Nat.add_zero, decide_true, decide_false, Int.ofNat_lt, List.getElem?_cons_zero, List.getElem?_cons_succ, List.length_cons, List.length_nil, Nat.reduceAdd, Bool.not_true, Bool.not_false, Option.some.injEq, and_true, true_and, Bool.false_eq_true, Int.toNat_natCast, out_r, out_nm, pout_r, pout_nm, rs_n, rs_t, rs_c, one1, one2, one3, Option.bind_some, exists_eq_left', deep_eq, fz_lit, fz_sl, fz_fn0, fz_agg, fz_tup, mm_n, mm_c, ev_l1, ev_la, ew_1, ew_a, lk_0, lk_s, st_0, st_s, List.nil_append, List.cons_append, List.append_nil, List.drop_zero, List.drop_succ_cons, List.take_succ_cons, List.take_zero, List.take_nil, and_self, Nat.reduceLeDiff, Nat.le_refl, hd_n, hd_c, mw_n, mw_s, Option.map_none, rep_s, rep_0, bt_tf, bt_ff, bt_tt, bt_ft, ev_build, fp_0, fp_1, fp_a, spl_0, spl_s, Nat.mul_one, Nat.zero_mul, Nat.reduceMul, ev_iaddrPk, Int.reduceEq, true_or, or_true, or_self, hl', h0, h1, h2, look_at, look_at0, set_at, set_at0, List.append_assoc, hmk, hcp, hlen]
  refine wl_of (fun n fr h' => h' = h ++ [some [.sl nu u.length cu (u.map bv), L, K], some [.sl true 0 (some 0) [], .sl true 0 (some 0) [], iv 0], some ((setAll u (l.take (l.length - n)) b).map bv)] ∧ n ≤ l.length ∧ fr.length = 32 ∧ fr[2]? = some (bv b) ∧ fr[3]? = some (.ptr h.length 0) ∧ fr[6]? = some (.ptr (h.length + 1) 0) ∧
      fr[7]? = some (.ref (h.length + 2) 0 u.length 1 (some u.length)) ∧ fr[18]? = some C ∧ fr[19]? = some (iv l.length) ∧ fr[20]? = some (iv (l.length - n : Nat))) l.length ?_ ?_
  · simp only [wk_skip, wk_reg, wk_dreg, wk_frz, wk_seq, wk_cond, wk_block, wk_loop, wk_exit, wk_scope, wk_ret, pk_nil, pk_seqN, pk_seqE, pk_seqR, pk_blkN, pk_blkE, pk_blkR, pk_invN, pk_invE, pk_invR, wo_nil, wo_cons, wd_nil, wd_cons, want_n, want_s, put_s, put_n, I.cls, List.map, opv_t, opv_i, opv_b, opv_n, opv_f, opv_s, ev_mv, ev_pick, ev_len, ev_lenR, ev_bin, ev_beqF, ev_beqT, ev_not, ev_conv, ev_ext, ev_mkfn, ev_faddr, ev_faddrF, ev_fieldF, ev_fieldT, ev_max, ev_min, ev_snilS, ev_snilR, ev_load1F, sb_lss, sb_leq, sb_gtr, sb_geq, sb_eql, sb_neq, sb_add, sb_sub, sb_mul, map_s, en_new, en_boxA, leaf_i, leaf_b, leaf_sl, leaf_ref, List.getElem?_set, List.length_set, List.length_map, List.length_append, List.getElem?_map, Option.map_some, Option.getD_some, ↓reduceIte, Nat.reduceLT, Nat.reduceEqDiff, Nat.zero_add, Nat.add_zero, decide_true, decide_false, Int.ofNat_lt, List.getElem?_cons_zero, List.getElem?_cons_succ, List.length_cons, List.length_nil, Nat.reduceAdd, Bool.not_true, Bool.not_false, Option.some.injEq, and_true, true_and, Bool.false_eq_true, Int.toNat_natCast, out_r, out_nm, pout_r, pout_nm, rs_n, rs_t, rs_c, one1, one2, one3, Option.bind_some, exists_eq_left', deep_eq, fz_lit, fz_sl, fz_fn0, fz_agg, fz_tup, mm_n, mm_c, ev_l1, ev_la, ew_1, ew_a, lk_0, lk_s, st_0, st_s, List.nil_append, List.cons_append, List.append_nil, List.drop_zero, List.drop_succ_cons, List.take_succ_cons, List.take_zero, List.take_nil, and_self, Nat.reduceLeDiff, Nat.le_refl, hd_n, hd_c, mw_n, mw_s, Option.map_none, rep_s, rep_0, bt_tf, bt_ff, bt_tt, bt_ft, ev_build, fp_0, fp_1, fp_a, spl_0, spl_s, Nat.mul_one, Nat.zero_mul, Nat.reduceMul, ev_iaddrPk, Int.reduceEq, true_or, or_true, or_self, hl', h0, h1, h2, Nat.sub_self, List.take_zero]
    exact ⟨rfl, rfl⟩
  · rintro n fr _ ⟨rfl, hn, hfl, h2, h3, h6, h7, h18, h19, h20⟩
    generalize hi : l.length - n = i at h20
    by_cases hlt : i < l.length
    · have hx := getE hlt
      have hw := wrapS hlt hln
      obtain ⟨m, hm⟩ : ∃ m : Nat, l[i] = (m : Int) := ⟨l[i].toNat, (Int.toNat_of_nonneg (hl _ (List.getElem_mem hlt)).1).symm⟩
      have hmu : m < u.length := by have := (hl _ (List.getElem_mem hlt)).2; omega
      rw [hm] at hx
      obtain ⟨p, e1, e2⟩ := (hC [some [.sl nu u.length cu (u.map bv), L, K], some [.sl true 0 (some 0) [], .sl true 0 (some 0) [], iv 0], some ((setAll u (l.take i) b).map bv)]).2 i m hx
      have hset : ((setAll u (l.take i) b).map bv).set m (bv b) = (setAll u (l.take (i + 1)) b).map bv := by
        rw [setAll_take hx, List.map_set]; rfl
      have hst : evW (h ++ [some [.sl nu u.length cu (u.map bv), L, K], some [.sl true 0 (some 0) [], .sl true 0 (some 0) [], iv 0], some ((setAll u (l.take i) b).map bv)]) (.store 1) [.ptr (h.length + 2) m, bv b] = some (.lit undef, h ++ [some [.sl nu u.length cu (u.map bv), L, K], some [.sl true 0 (some 0) [], .sl true 0 (some 0) [], iv 0], some ((setAll u (l.take (i + 1)) b).map bv)]) := by
        rw [ew_1 _ _ _ rfl, look_at]
        simp only [lk_s, lk_0, Option.bind_some]
        rw [if_pos (by simpa [setAll_length] using hmu), hset, set_at]
        rfl
      simp only [wk_skip, wk_reg, wk_dreg, wk_frz, wk_seq, wk_cond, wk_block, wk_loop, wk_exit, wk_scope, wk_ret, pk_nil, pk_seqN, pk_seqE, pk_seqR, pk_blkN, pk_blkE, pk_blkR, pk_invN, pk_invE, pk_invR, wo_nil, wo_cons, wd_nil, wd_cons, want_n, want_s, put_s, put_n, I.cls, List.map, opv_t, opv_i, opv_b, opv_n, opv_f, opv_s, ev_mv, ev_pick, ev_len, ev_lenR, ev_bin, ev_beqF, ev_beqT, ev_not, ev_conv, ev_ext, ev_mkfn, ev_faddr, ev_faddrF, ev_fieldF, ev_fieldT, ev_max, ev_min, ev_snilS, ev_snilR, ev_load1F, sb_lss, sb_leq, sb_gtr, sb_geq, sb_eql, sb_neq, sb_add, sb_sub, sb_mul, map_s, en_new, en_boxA, leaf_i, leaf_b, leaf_sl, leaf_ref, List.getElem?_set, List.length_set, List.length_map, List.length_append, List.getElem?_map, Option.map_some, Option.getD_some, ↓reduceIte, Nat.reduceLT, Nat.reduceEqDiff, Nat.zero_add, Nat.add_zero, decide_true, decide_false, Int.ofNat_lt, List.getElem?_cons_zero, List.getElem?_cons_succ, List.length_cons, List.length_nil, Nat.reduceAdd, Bool.not_true, Bool.not_false, Option.some.injEq, and_true, true_and, Bool.false_eq_true, Int.toNat_natCast, out_r, out_nm, pout_r, pout_nm, rs_n, rs_t, rs_c, one1, one2, one3, Option.bind_some, exists_eq_left', deep_eq, fz_lit, fz_sl, fz_fn0, fz_agg, fz_tup, mm_n, mm_c, ev_l1, ev_la, ew_1, ew_a, lk_0, lk_s, st_0, st_s, List.nil_append, List.cons_append, List.append_nil, List.drop_zero, List.drop_succ_cons, List.take_succ_cons, List.take_zero, List.take_nil, and_self, Nat.reduceLeDiff, Nat.le_refl, hd_n, hd_c, mw_n, mw_s, Option.map_none, rep_s, rep_0, bt_tf, bt_ff, bt_tt, bt_ft, ev_build, fp_0, fp_1, fp_a, spl_0, spl_s, Nat.mul_one, Nat.zero_mul, Nat.reduceMul, ev_iaddrPk, Int.reduceEq, true_or, or_true, or_self, hi, hfl, h2, h3, h6, h7, h18, h19, h20, hlt, e1, e2, hst, hw, ev_iaddrR, hmu, look_at, look_at0, set_at, set_at0, Nat.mul_one, setAll_length, hset]
      exact ⟨n - 1, by omega, by rw [show l.length - (n - 1) = i + 1 by omega], by omega, by rw [show l.length - (n - 1) = i + 1 by omega]⟩
    · have : l.take i = l := List.take_of_length_le (by omega)
      simp only [wk_skip, wk_reg, wk_dreg, wk_frz, wk_seq, wk_cond, wk_block, wk_loop, wk_exit, wk_scope, wk_ret, pk_nil, pk_seqN, pk_seqE, pk_seqR, pk_blkN, pk_blkE, pk_blkR, pk_invN, pk_invE, pk_invR, wo_nil, wo_cons, wd_nil, wd_cons, want_n, want_s, put_s, put_n, I.cls, List.map, opv_t, opv_i, opv_b, opv_n, opv_f, opv_s, ev_mv, ev_pick, ev_len, ev_lenR, ev_bin, ev_beqF, ev_beqT, ev_not, ev_conv, ev_ext, ev_mkfn, ev_faddr, ev_faddrF, ev_fieldF, ev_fieldT, ev_max, ev_min, ev_snilS, ev_snilR, ev_load1F, sb_lss, sb_leq, sb_gtr, sb_geq, sb_eql, sb_neq, sb_add, sb_sub, sb_mul, map_s, en_new, en_boxA, leaf_i, leaf_b, leaf_sl, leaf_ref, List.getElem?_set, List.length_set, List.length_map, List.length_append, List.getElem?_map, Option.map_some, Option.getD_some, ↓reduceIte, Nat.reduceLT, Nat.reduceEqDiff, Nat.zero_add, Nat.add_zero, decide_true, decide_false, Int.ofNat_lt, List.getElem?_cons_zero, List.getElem?_cons_succ, List.length_cons, List.length_nil, Nat.reduceAdd, Bool.not_true, Bool.not_false, Option.some.injEq, and_true, true_and, Bool.false_eq_true, Int.toNat_natCast, out_r, out_nm, pout_r, pout_nm, rs_n, rs_t, rs_c, one1, one2, one3, Option.bind_some, exists_eq_left', deep_eq, fz_lit, fz_sl, fz_fn0, fz_agg, fz_tup, mm_n, mm_c, ev_l1, ev_la, ew_1, ew_a, lk_0, lk_s, st_0, st_s, List.nil_append, List.cons_append, List.append_nil, List.drop_zero, List.drop_succ_cons, List.take_succ_cons, List.take_zero, List.take_nil, and_self, Nat.reduceLeDiff, Nat.le_refl, hd_n, hd_c, mw_n, mw_s, Option.map_none, rep_s, rep_0, bt_tf, bt_ff, bt_tt, bt_ft, ev_build, fp_0, fp_1, fp_a, spl_0, spl_s, Nat.mul_one, Nat.zero_mul, Nat.reduceMul, ev_iaddrPk, Int.reduceEq, true_or, or_true, or_self, hi, hfl, h2, h3, h6, h7, h18, h19, h20, hlt, this, look_at, look_at0, set_at, set_at0]
      exact ⟨_, _, rfl⟩
end Go.Ev
