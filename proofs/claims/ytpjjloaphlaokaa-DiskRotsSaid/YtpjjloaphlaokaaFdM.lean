/- What the disk's functions compute: the fates of writes. -/
import Derived.Test.YtpjjloaphlaokaaFdK
import Derived.Test.YtpjjloaphlaokaaPlA
set_option linter.unusedVariables false
set_option linter.unusedSimpArgs false
set_option maxRecDepth 20000
namespace Go.Ev
open Go Go.Proofs

theorem spl_front : ∀ (ys cs : List AV) (k : Nat), k + ys.length ≤ cs.length → spl cs k ys = cs.take k ++ ys ++ cs.drop (k + ys.length)
  | [], cs, k, h => by simp [spl]
  | y :: ys, cs, k, h => by
    simp only [List.length_cons] at h
    have hk : k < cs.length := by omega
    rw [spl, spl_front ys (cs.set k y) (k + 1) (by simp; omega)]
    rw [List.take_succ_eq_append_getElem (by simpa using hk)]
    simp only [List.take_set_of_le (Nat.le_refl k), List.getElem_set_self, List.append_assoc, List.cons_append, List.nil_append, List.length_cons]
    rw [List.drop_set_of_lt (by omega), show k + 1 + ys.length = k + (ys.length + 1) by omega]
theorem spl_zero (ys cs : List AV) (h : ys.length ≤ cs.length) : spl cs 0 ys = ys ++ cs.drop ys.length := by
  have := spl_front ys cs 0 (by omega)
  simpa using this
theorem ew_copy {h : Heap} {o n k : Nat} {c : Option Nat} {cs ys : List AV} {x : AV} (hl : look h o = some cs) (hn : cs.length = n) (hx : slC (look h) 1 x = some (k, ys)) (hy : ys.length = k) (hk : k ≤ n) :
    evW h (.copy 1) [.ref o 0 n 1 c, x] = some (.lit (.int .i64 (k : Int)), h.set o (some (ys ++ cs.drop k))) := by
  simp only [evW, slC_refN _ 1 o n c hl (by omega), hx, hl]
  have hmin : k.min n = k := Nat.min_eq_left hk
  rw [hmin, Nat.mul_one, List.take_of_length_le (by omega), spl_zero _ _ (by omega), hy]
theorem en_mkb (n : Nat) (hn : n ≤ 2 ^ 40) : evN (.mkslice 1 1 [.lit (.int .u8 0)]) [.lit (.int .i64 (n : Int)), .lit (.int .i64 (n : Int))] = some (List.replicate n (.lit (.int .u8 0)), fun o => .ref o 0 n 1 (some n)) := by
  have hz : zcells [.lit (.int .u8 0)] (n * 1) = List.replicate n (.lit (.int .u8 0)) := by
    unfold zcells
    apply List.ext_getElem
    · simp
    · intro i h1 h2
      simp [Nat.mod_one]
  simp only [evN, natOf, Int.natCast_nonneg, if_true, Int.toNat_natCast]
  rw [if_pos ⟨Nat.le_refl _, by omega, by omega, rfl⟩, hz]

/-- What a cell of the row being made holds. -/
def Hld (g : Look) (e : By) (x : AV) : Prop := Same e x ∨ ∃ o c, x = .ref o 0 e.length 1 c ∧ g o = some (e.map uv)
theorem Hld.slC {g : Look} {e : By} {x : AV} (h : Hld g e x) : slC g 1 x = some (e.length, e.map uv) := by
  rcases h with ⟨nl, c, _, rfl⟩ | ⟨o, c, rfl, hg⟩
  · exact slC_slN _ 1 _ _ _ _ (by simp)
  · exact slC_refN _ 1 _ _ _ hg (by simp)
theorem Hld.len {g g' : Look} {e : By} {x : AV} (h : Hld g e x) : evR g' (.len false) [x] = some (.lit (.int .i64 (e.length : Int))) := by
  rcases h with ⟨nl, c, _, rfl⟩ | ⟨o, c, rfl, hg⟩
  · exact ev_len _ _ _ _
  · exact ev_lenR _ _ _ _ _
theorem Hld.mono {g g' : Look} {e : By} {x : AV} (h : Hld g e x) (hg : ∀ o cs, g o = some cs → g' o = some cs) : Hld g' e x := by
  rcases h with h | ⟨o, c, rfl, h⟩
  · exact .inl h
  · exact .inr ⟨o, c, rfl, hg _ _ h⟩

/-- A write that is lost. -/
theorem c42 (h : Heap) (o n : Nat) (cap : Option Nat) (x1 x2 x3 : AV) (k : Int) : Cl tab 42 [.ref o 0 n 1 cap, .agg [x1, x2, x3], iv k] h (.tup []) (h ++ [some [x1, x2, x3]]) := by
  obtain ⟨r, h', ⟨rfl, rfl⟩, hc⟩ : ∃ r h', (r = .tup [] ∧ h' = h ++ [some [x1, x2, x3]]) ∧ Cl tab 42 [.ref o 0 n 1 cap, .agg [x1, x2, x3], iv k] h r h' := by
    refine sh3 (fun r h' => r = .tup [] ∧ h' = h ++ [some [x1, x2, x3]]) tab42 rfl (by decide) fun fr hfl h0 h1 h2 => ?_
    have hl' : fr.length = 6 := hfl
    simp only [A42, wk_skip, wk_reg, wk_dreg, wk_frz, wk_seq, wk_cond, wk_block, wk_loop, wk_exit, wk_scope, wk_ret, pk_nil, pk_seqN, pk_seqE, pk_seqR, pk_blkN, pk_blkE, pk_blkR, pk_invN, pk_invE, pk_invR, wo_nil, wo_cons, wd_nil, wd_cons, want_n, want_s, put_s, put_n, I.cls, List.map, opv_t, opv_i, opv_b, opv_n, opv_f, opv_s, ev_mv, ev_pick, ev_len, ev_lenR, ev_bin, ev_beqF, ev_beqT, ev_not, ev_conv, ev_ext, ev_mkfn, ev_faddr, ev_faddrF, ev_fieldF, ev_fieldT, ev_max, ev_min, ev_snilS, ev_snilR, ev_load1F, sb_lss, sb_leq, sb_gtr, sb_geq, sb_eql, sb_neq, sb_add, sb_sub, sb_mul, map_s, en_new, en_boxA, leaf_i, leaf_b, leaf_sl, leaf_ref, List.getElem?_set, List.length_set, List.length_map, List.length_append, List.getElem?_map, Option.map_some, Option.getD_some, ↓reduceIte, Nat.reduceLT, Nat.reduceEqDiff, Nat.zero_add, Nat.add_zero, decide_true, decide_false, Int.ofNat_lt, List.getElem?_cons_zero, List.getElem?_cons_succ, List.length_cons, List.length_nil, Nat.reduceAdd, Bool.not_true, Bool.not_false, Option.some.injEq, and_true, true_and, Bool.false_eq_true, Int.toNat_natCast, out_r, out_nm, pout_r, pout_nm, rs_n, rs_t, rs_c, one1, one2, one3, Option.bind_some, exists_eq_left', deep_eq, fz_lit, fz_sl, fz_fn0, fz_agg, fz_tup, mm_n, mm_c, ev_l1, ev_la, ew_1, ew_a, lk_0, lk_s, st_0, st_s, List.nil_append, List.cons_append, List.append_nil, List.drop_zero, List.drop_succ_cons, List.take_succ_cons, List.take_zero, List.take_nil, and_self, Nat.reduceLeDiff, Nat.le_refl, hd_n, hd_c, e3_n, e3_s, e3_a, mw_s, Option.map_none, rep_s, rep_0, bt_tf, bt_ff, bt_tt, bt_ft, ev_build, fp_0, fp_1, fp_a, spl_0, spl_s, Nat.mul_one, Nat.zero_mul, Nat.reduceMul, ev_iaddrPk, Int.reduceEq, true_or, or_true, or_self, hl', h0, h1, h2]
    rfl
  exact hc
/-- A write that goes astray. -/
theorem c44 (h : Heap) (o n : Nat) (cap : Option Nat) (row : List AV) (t : Int) (i : Bool) (dn : Nat) (dc : Option Nat) (dx : List AV) (k : Int) (b : Bool) (hl : look h o = some row) (hr : row.length = n) :
    ∃ Z, Cl tab 44 [.ref o 0 n 1 cap, .agg [.lit (.bool b), iv t, .sl i dn dc dx], iv k] h (.tup []) (h.set o (some (if 0 ≤ k ∧ k < n then row.set k.toNat (.sl i dn dc dx) else row)) ++ Z) := by
  obtain ⟨r, h', ⟨rfl, Z, rfl⟩, hc⟩ : ∃ r h', (r = .tup [] ∧ ∃ Z, h' = h.set o (some (if 0 ≤ k ∧ k < n then row.set k.toNat (.sl i dn dc dx) else row)) ++ Z) ∧ Cl tab 44 [.ref o 0 n 1 cap, .agg [.lit (.bool b), iv t, .sl i dn dc dx], iv k] h r h' := by
    refine sh3 (fun r h' => r = .tup [] ∧ ∃ Z, h' = h.set o (some (if 0 ≤ k ∧ k < n then row.set k.toNat (.sl i dn dc dx) else row)) ++ Z) tab44 rfl (by decide) fun fr hfl h0 h1 h2 => ?_
    have hl' : fr.length = 19 := hfl
    have ho := look_lt hl
    have hl2 : look (h ++ [some [.lit (.bool b), iv t, .sl i dn dc dx]]) o = some row := by rw [look_app_lt ho]; exact hl
    have hsame : h.set o (some row) = h := by
      have : h[o]? = some (some row) := by
        unfold look at hl
        cases hx : h[o]? with
        | none => rw [hx] at hl; cases hl
        | some y => rw [hx] at hl; simp at hl; rw [hl]
      obtain ⟨hl9, he9⟩ := List.getElem?_eq_some_iff.1 this
      have := List.set_getElem_self hl9
      rw [he9] at this
      exact this
    by_cases hk : 0 ≤ k
    · have d0 := decT hk
      by_cases hk2 : k < n
      · obtain ⟨kn, rfl⟩ : ∃ kn : Nat, k = kn := ⟨k.toNat, by omega⟩
        have hkn : kn < n := by omega
        have d1 := decT hkn
        have hw := @ew_one (h ++ [some [.lit (.bool b), iv t, .sl i dn dc dx]]) o kn row (.sl i dn dc dx) hl2 (leaf_sl _ _ _ _) (by omega)
        simp only [A44, wk_skip, wk_reg, wk_dreg, wk_frz, wk_seq, wk_cond, wk_block, wk_loop, wk_exit, wk_scope, wk_ret, pk_nil, pk_seqN, pk_seqE, pk_seqR, pk_blkN, pk_blkE, pk_blkR, pk_invN, pk_invE, pk_invR, wo_nil, wo_cons, wd_nil, wd_cons, want_n, want_s, put_s, put_n, I.cls, List.map, opv_t, opv_i, opv_b, opv_n, opv_f, opv_s, ev_mv, ev_pick, ev_len, ev_lenR, ev_bin, ev_beqF, ev_beqT, ev_not, ev_conv, ev_ext, ev_mkfn, ev_faddr, ev_faddrF, ev_fieldF, ev_fieldT, ev_max, ev_min, ev_snilS, ev_snilR, ev_load1F, sb_lss, sb_leq, sb_gtr, sb_geq, sb_eql, sb_neq, sb_add, sb_sub, sb_mul, map_s, en_new, en_boxA, leaf_i, leaf_b, leaf_sl, leaf_ref, List.getElem?_set, List.length_set, List.length_map, List.length_append, List.getElem?_map, Option.map_some, Option.getD_some, ↓reduceIte, Nat.reduceLT, Nat.reduceEqDiff, Nat.zero_add, Nat.add_zero, decide_true, decide_false, Int.ofNat_lt, List.getElem?_cons_zero, List.getElem?_cons_succ, List.length_cons, List.length_nil, Nat.reduceAdd, Bool.not_true, Bool.not_false, Option.some.injEq, and_true, true_and, Bool.false_eq_true, Int.toNat_natCast, out_r, out_nm, pout_r, pout_nm, rs_n, rs_t, rs_c, one1, one2, one3, Option.bind_some, exists_eq_left', deep_eq, fz_lit, fz_sl, fz_fn0, fz_agg, fz_tup, mm_n, mm_c, ev_l1, ev_la, ew_1, ew_a, lk_0, lk_s, st_0, st_s, List.nil_append, List.cons_append, List.append_nil, List.drop_zero, List.drop_succ_cons, List.take_succ_cons, List.take_zero, List.take_nil, and_self, Nat.reduceLeDiff, Nat.le_refl, hd_n, hd_c, e3_n, e3_s, e3_a, mw_s, Option.map_none, rep_s, rep_0, bt_tf, bt_ff, bt_tt, bt_ft, ev_build, fp_0, fp_1, fp_a, spl_0, spl_s, Nat.mul_one, Nat.zero_mul, Nat.reduceMul, ev_iaddrPk, Int.reduceEq, true_or, or_true, or_self, hl', h0, h1, h2, look_at, look_at0, set_at, set_at0, ev_iaddrR, hkn, hw, d0, d1]
        rw [if_pos hk]
        exact ⟨rfl, _, List.set_append_left _ _ ho⟩
      · have d1 := decF hk2
        simp only [A44, wk_skip, wk_reg, wk_dreg, wk_frz, wk_seq, wk_cond, wk_block, wk_loop, wk_exit, wk_scope, wk_ret, pk_nil, pk_seqN, pk_seqE, pk_seqR, pk_blkN, pk_blkE, pk_blkR, pk_invN, pk_invE, pk_invR, wo_nil, wo_cons, wd_nil, wd_cons, want_n, want_s, put_s, put_n, I.cls, List.map, opv_t, opv_i, opv_b, opv_n, opv_f, opv_s, ev_mv, ev_pick, ev_len, ev_lenR, ev_bin, ev_beqF, ev_beqT, ev_not, ev_conv, ev_ext, ev_mkfn, ev_faddr, ev_faddrF, ev_fieldF, ev_fieldT, ev_max, ev_min, ev_snilS, ev_snilR, ev_load1F, sb_lss, sb_leq, sb_gtr, sb_geq, sb_eql, sb_neq, sb_add, sb_sub, sb_mul, map_s, en_new, en_boxA, leaf_i, leaf_b, leaf_sl, leaf_ref, List.getElem?_set, List.length_set, List.length_map, List.length_append, List.getElem?_map, Option.map_some, Option.getD_some, ↓reduceIte, Nat.reduceLT, Nat.reduceEqDiff, Nat.zero_add, Nat.add_zero, decide_true, decide_false, Int.ofNat_lt, List.getElem?_cons_zero, List.getElem?_cons_succ, List.length_cons, List.length_nil, Nat.reduceAdd, Bool.not_true, Bool.not_false, Option.some.injEq, and_true, true_and, Bool.false_eq_true, Int.toNat_natCast, out_r, out_nm, pout_r, pout_nm, rs_n, rs_t, rs_c, one1, one2, one3, Option.bind_some, exists_eq_left', deep_eq, fz_lit, fz_sl, fz_fn0, fz_agg, fz_tup, mm_n, mm_c, ev_l1, ev_la, ew_1, ew_a, lk_0, lk_s, st_0, st_s, List.nil_append, List.cons_append, List.append_nil, List.drop_zero, List.drop_succ_cons, List.take_succ_cons, List.take_zero, List.take_nil, and_self, Nat.reduceLeDiff, Nat.le_refl, hd_n, hd_c, e3_n, e3_s, e3_a, mw_s, Option.map_none, rep_s, rep_0, bt_tf, bt_ff, bt_tt, bt_ft, ev_build, fp_0, fp_1, fp_a, spl_0, spl_s, Nat.mul_one, Nat.zero_mul, Nat.reduceMul, ev_iaddrPk, Int.reduceEq, true_or, or_true, or_self, hl', h0, h1, h2, look_at, look_at0, set_at, set_at0, d0, d1]
        rw [if_neg (fun e => hk2 e.2), hsame]
        exact ⟨rfl, _, rfl⟩
    · have d0 := decF hk
      simp only [A44, wk_skip, wk_reg, wk_dreg, wk_frz, wk_seq, wk_cond, wk_block, wk_loop, wk_exit, wk_scope, wk_ret, pk_nil, pk_seqN, pk_seqE, pk_seqR, pk_blkN, pk_blkE, pk_blkR, pk_invN, pk_invE, pk_invR, wo_nil, wo_cons, wd_nil, wd_cons, want_n, want_s, put_s, put_n, I.cls, List.map, opv_t, opv_i, opv_b, opv_n, opv_f, opv_s, ev_mv, ev_pick, ev_len, ev_lenR, ev_bin, ev_beqF, ev_beqT, ev_not, ev_conv, ev_ext, ev_mkfn, ev_faddr, ev_faddrF, ev_fieldF, ev_fieldT, ev_max, ev_min, ev_snilS, ev_snilR, ev_load1F, sb_lss, sb_leq, sb_gtr, sb_geq, sb_eql, sb_neq, sb_add, sb_sub, sb_mul, map_s, en_new, en_boxA, leaf_i, leaf_b, leaf_sl, leaf_ref, List.getElem?_set, List.length_set, List.length_map, List.length_append, List.getElem?_map, Option.map_some, Option.getD_some, ↓reduceIte, Nat.reduceLT, Nat.reduceEqDiff, Nat.zero_add, Nat.add_zero, decide_true, decide_false, Int.ofNat_lt, List.getElem?_cons_zero, List.getElem?_cons_succ, List.length_cons, List.length_nil, Nat.reduceAdd, Bool.not_true, Bool.not_false, Option.some.injEq, and_true, true_and, Bool.false_eq_true, Int.toNat_natCast, out_r, out_nm, pout_r, pout_nm, rs_n, rs_t, rs_c, one1, one2, one3, Option.bind_some, exists_eq_left', deep_eq, fz_lit, fz_sl, fz_fn0, fz_agg, fz_tup, mm_n, mm_c, ev_l1, ev_la, ew_1, ew_a, lk_0, lk_s, st_0, st_s, List.nil_append, List.cons_append, List.append_nil, List.drop_zero, List.drop_succ_cons, List.take_succ_cons, List.take_zero, List.take_nil, and_self, Nat.reduceLeDiff, Nat.le_refl, hd_n, hd_c, e3_n, e3_s, e3_a, mw_s, Option.map_none, rep_s, rep_0, bt_tf, bt_ff, bt_tt, bt_ft, ev_build, fp_0, fp_1, fp_a, spl_0, spl_s, Nat.mul_one, Nat.zero_mul, Nat.reduceMul, ev_iaddrPk, Int.reduceEq, true_or, or_true, or_self, hl', h0, h1, h2, look_at, look_at0, set_at, set_at0, d0]
      rw [if_neg (fun e => hk e.1), hsame]
      exact ⟨rfl, _, rfl⟩
  exact ⟨Z, hc⟩

theorem clamp_int (N : Int) (m : Nat) : (if (m : Int) < (if N < 0 then 0 else N) then (m : Int) else (if N < 0 then 0 else N)) = ((clampN N m : Nat) : Int) := by
  unfold clampN
  split <;> split at * <;> omega
/-- A write that is torn. -/
theorem c43 (h : Heap) (o n : Nat) (cap : Option Nat) (row : List AV) (t : Nat) (i : Bool) (dc : Option Nat) (d e : By) (N : Int) (b : Bool) (x : AV) (hl : look h o = some row) (hr : row.length = n) (hx : row[t]? = some x) (he : Hld (look h) e x) (hd : d.length ≤ 2 ^ 30) (hel : e.length ≤ 2 ^ 30) :
    ∃ Z, Cl tab 43 [.ref o 0 n 1 cap, .agg [.lit (.bool b), iv t, .sl i d.length dc (d.map uv)], iv N] h (.tup [])
      (h.set o (some (row.set t (.ref (h.length + 1) 0 (tornB d e N).length 1 (some (tornB d e N).length)))) ++ (some [.lit (.bool b), iv t, .sl i d.length dc (d.map uv)] :: some ((tornB d e N).map uv) :: Z)) := by
  obtain ⟨r, h', ⟨rfl, Z, rfl⟩, hc⟩ : ∃ r h', (r = .tup [] ∧ ∃ Z, h' = (h.set o (some (row.set t (.ref (h.length + 1) 0 (tornB d e N).length 1 (some (tornB d e N).length)))) ++ (some [.lit (.bool b), iv t, .sl i d.length dc (d.map uv)] :: some ((tornB d e N).map uv) :: Z))) ∧
      Cl tab 43 [.ref o 0 n 1 cap, .agg [.lit (.bool b), iv t, .sl i d.length dc (d.map uv)], iv N] h r h' := by
    refine sh3 _ tab43 rfl (by decide) fun fr hfl h0 h1 h2 => ?_
    have hl' : fr.length = 38 := hfl
    have ho := look_lt hl
    have htn : t < n := by have := (List.getElem?_eq_some_iff.1 hx).1; omega
    have hl2 := look_pre hl
    have hcl := clamp_int N d.length
    generalize hcn : clampN N d.length = c at hcl
    have hcd : c ≤ d.length := by rw [← hcn]; exact Nat.min_le_right _ _
    have htorn : tornB d e N = d.take c ++ e.drop c := by rw [tornB, hcn]
    have hmx : (if c < e.length then (e.length : Int) else (c : Int)) = ((max c e.length : Nat) : Int) := by split <;> omega
    have hml : max c e.length = (tornB d e N).length := by rw [htorn]; simp; omega
    rw [hml] at hmx
    have hmle : (tornB d e N).length ≤ 2 ^ 30 := by omega
    have hel2 : e.length ≤ (tornB d e N).length := by omega
    have hcl2 : c ≤ (tornB d e N).length := by omega
    generalize hm : (tornB d e N).length = m at *
    have hmk := en_mkb m (by omega)
    obtain ⟨A, hA⟩ : ∃ A : Option (List AV), A = some [.lit (.bool b), iv t, .sl i d.length dc (d.map uv)] := ⟨_, rfl⟩
    obtain ⟨z, hz⟩ : ∃ z : List AV, z = List.replicate m (.lit (.int .u8 0)) := ⟨_, rfl⟩
    have hzl : z.length = m := by rw [hz]; simp
    have hc1 : evW (h ++ [some [.lit (.bool b), iv t, .sl i d.length dc (d.map uv)], some (List.replicate m (.lit (.int .u8 0)))]) (.copy 1) [.ref (h.length + 1) 0 m 1 (some m), x] = some (.lit (.int .i64 (e.length : Int)), h ++ [some [.lit (.bool b), iv t, .sl i d.length dc (d.map uv)], some (e.map uv ++ z.drop e.length)]) := by
      rw [← hA, ← hz, ew_copy (look_at h [A, some z] 1) hzl (he.mono fun o cs e => look_pre e _).slC (by simp) hel2, set_at]
      rfl
    have hsl := fun g => ev_sliceH (g := g) (nl := i) (n := d.length) (b := c) (c := dc) (xs := d.map uv) hcd (by simp)
    have hfin : (d.map uv).take c ++ (e.map uv ++ z.drop e.length).drop c = (tornB d e N).map uv := by
      rw [htorn, List.map_append, List.map_take]
      congr 1
      rw [List.drop_append]
      simp only [List.length_map, List.drop_drop, List.map_drop]
      have : z.drop (e.length + (c - e.length)) = [] := List.drop_eq_nil_of_le (by omega)
      rw [this, List.append_nil]
    have hc2 : evW (h ++ [some [.lit (.bool b), iv t, .sl i d.length dc (d.map uv)], some (e.map uv ++ z.drop e.length)]) (.copy 1) [.ref (h.length + 1) 0 m 1 (some m), .sl i c (capCut dc 0 none) ((d.map uv).take c)] = some (.lit (.int .i64 (c : Int)), h ++ [some [.lit (.bool b), iv t, .sl i d.length dc (d.map uv)], some ((tornB d e N).map uv)]) := by
      rw [← hA, ew_copy (look_at h [A, _] 1) (by simp [hzl]; omega) (slC_slN _ 1 i c _ ((d.map uv).take c) (by simp; omega)) (by simp; omega) hcl2, set_at, hfin]
      rfl
    have hw : evW (h ++ [some [.lit (.bool b), iv t, .sl i d.length dc (d.map uv)], some ((tornB d e N).map uv)]) (.store 1) [.ptr o t, .ref (h.length + 1) 0 m 1 (some m)] = some (.lit undef, (h ++ [some [.lit (.bool b), iv t, .sl i d.length dc (d.map uv)], some ((tornB d e N).map uv)]).set o (some (row.set t (.ref (h.length + 1) 0 m 1 (some m))))) :=
      ew_one o t _ (hl2 _) rfl (by omega)
    simp only [A43, wk_skip, wk_reg, wk_dreg, wk_frz, wk_seq, wk_cond, wk_block, wk_loop, wk_exit, wk_scope, wk_ret, pk_nil, pk_seqN, pk_seqE, pk_seqR, pk_blkN, pk_blkE, pk_blkR, pk_invN, pk_invE, pk_invR, wo_nil, wo_cons, wd_nil, wd_cons, want_n, want_s, put_s, put_n, I.cls, List.map, opv_t, opv_i, opv_b, opv_n, opv_f, opv_s, ev_mv, ev_pick, ev_len, ev_lenR, ev_bin, ev_beqF, ev_beqT, ev_not, ev_conv, ev_ext, ev_mkfn, ev_faddr, ev_faddrF, ev_fieldF, ev_fieldT, ev_max, ev_min, ev_snilS, ev_snilR, ev_load1F, sb_lss, sb_leq, sb_gtr, sb_geq, sb_eql, sb_neq, sb_add, sb_sub, sb_mul, map_s, en_new, en_boxA, leaf_i, leaf_b, leaf_sl, leaf_ref, List.getElem?_set, List.length_set, List.length_map, List.length_append, List.getElem?_map, Option.map_some, Option.getD_some, ↓reduceIte, Nat.reduceLT, Nat.reduceEqDiff, Nat.zero_add, Nat.add_zero, decide_true, decide_false, Int.ofNat_lt, List.getElem?_cons_zero, List.getElem?_cons_succ, List.length_cons, List.length_nil, Nat.reduceAdd, Bool.not_true, Bool.not_false, Option.some.injEq, and_true, true_and, Bool.false_eq_true, Int.toNat_natCast, out_r, out_nm, pout_r, pout_nm, rs_n, rs_t, rs_c, one1, one2, one3, Option.bind_some, exists_eq_left', deep_eq, fz_lit, fz_sl, fz_fn0, fz_agg, fz_tup, mm_n, mm_c, ev_l1, ev_la, ew_1, ew_a, lk_0, lk_s, st_0, st_s, List.nil_append, List.cons_append, List.append_nil, List.drop_zero, List.drop_succ_cons, List.take_succ_cons, List.take_zero, List.take_nil, and_self, Nat.reduceLeDiff, Nat.le_refl, hd_n, hd_c, e3_n, e3_s, e3_a, mw_s, Option.map_none, rep_s, rep_0, bt_tf, bt_ff, bt_tt, bt_ft, ev_build, fp_0, fp_1, fp_a, spl_0, spl_s, Nat.mul_one, Nat.zero_mul, Nat.reduceMul, ev_iaddrPk, Int.reduceEq, true_or, or_true, or_self, hl', h0, h1, h2, look_at, look_at0, set_at, set_at0, ev_iaddrR, htn, hl2, hx, he.len, hcl, hmx, hmk, List.append_assoc, hc1, hc2, hsl, hw]
    exact ⟨rfl, [], List.set_append_left _ _ ho⟩
  exact ⟨Z, hc⟩
end Go.Ev
/- What the disk's functions compute: finish, whatever the fates. -/
namespace Go.Ev
open Go Go.Proofs

/-- The bytes of a row. -/
def bs : AV → By
  | .sl _ _ _ xs => (xs.mapM byteOf).getD []
  | _ => []
theorem bs_same {d : By} {x : AV} (h : Same d x) : bs x = d := by
  obtain ⟨_, _, _, rfl⟩ := h
  simp only [bs, bytes_of]
  rfl
theorem Dat.same {sz : Nat} {x : AV} (h : Dat sz x) : Same (bs x) x ∧ (bs x).length ≤ sz := by
  obtain ⟨nl, cap, d, h1, h2, rfl⟩ := h
  have : Same d (.sl nl d.length cap (d.map uv)) := ⟨nl, cap, h1, rfl⟩
  rw [bs_same this]
  exact ⟨this, h2⟩
def pw (x : T3) : PW := (x.1, x.2.1.toNat, bs x.2.2)
/-- Cells that are held in objects other than the row's own, from place 5 on. -/
def Hl5 (h0 T : Heap) (e : By) (x : AV) : Prop := Same e x ∨ ∃ o c, 5 ≤ o ∧ x = .ref (h0.length + o) 0 e.length 1 c ∧ look T o = some (e.map uv)
theorem Hl5.hld {h0 T : Heap} {e : By} {x : AV} (h : Hl5 h0 T e x) : Hld (look (h0 ++ T)) e x := by
  rcases h with h | ⟨o, c, _, rfl, h⟩
  · exact .inl h
  · exact .inr ⟨_, c, rfl, by rw [look_at]; exact h⟩
theorem Hl5.pre {h0 T : Heap} {e : By} {x : AV} (h : Hl5 h0 T e x) (X : Heap) : Hl5 h0 (T ++ X) e x := by
  rcases h with h | ⟨o, c, h1, rfl, h⟩
  · exact .inl h
  · exact .inr ⟨o, c, h1, rfl, look_pre h X⟩
theorem Hl5.set3 {h0 T : Heap} {e : By} {x : AV} (h : Hl5 h0 T e x) (y : Option (List AV)) : Hl5 h0 (T.set 3 y) e x := by
  rcases h with h | ⟨o, c, h1, rfl, h⟩
  · exact .inl h
  · exact .inr ⟨o, c, h1, rfl, (look_set_ne (by omega)).trans h⟩
def Row5 (h0 T : Heap) (hrow : List AV) (row : List By) : Prop := hrow.length = row.length ∧ ∀ (i : Nat) (x : AV) (e : By), hrow[i]? = some x → row[i]? = some e → Hl5 h0 T e x
theorem Row5.pre {h0 T : Heap} {hrow : List AV} {row : List By} (h : Row5 h0 T hrow row) (X : Heap) : Row5 h0 (T ++ X) hrow row := ⟨h.1, fun i x e h1 h2 => (h.2 i x e h1 h2).pre X⟩
theorem Row5.set3 {h0 T : Heap} {hrow : List AV} {row : List By} (h : Row5 h0 T hrow row) (y : Option (List AV)) : Row5 h0 (T.set 3 y) hrow row := ⟨h.1, fun i x e h1 h2 => (h.2 i x e h1 h2).set3 y⟩
theorem Row5.set {h0 T : Heap} {hrow : List AV} {row : List By} (h : Row5 h0 T hrow row) (t : Nat) {x : AV} {e : By} (hx : Hl5 h0 T e x) : Row5 h0 T (hrow.set t x) (row.set t e) := by
  refine ⟨by simp [h.1], fun i y f h1 h2 => ?_⟩
  rw [List.getElem?_set] at h1 h2
  by_cases hi : t = i
  · subst hi
    simp only [if_true] at h1 h2
    split at h1
    · split at h2
      · cases h1; cases h2; exact hx
      · cases h2
    · cases h1
  · rw [if_neg hi] at h1 h2
    exact h.2 i y f h1 h2
theorem set_same {T : Heap} {k : Nat} {x : List AV} (h : look T k = some x) : T.set k (some x) = T := by
  have : T[k]? = some (some x) := by
    unfold look at h
    cases hx : T[k]? with
    | none => rw [hx] at h; cases h
    | some y => rw [hx] at h; simp at h; rw [h]
  obtain ⟨hl9, he9⟩ := List.getElem?_eq_some_iff.1 this
  have := List.set_getElem_self hl9
  rw [he9] at this
  exact this

theorem Hl5.setk {h0 T : Heap} {e : By} {x : AV} (h : Hl5 h0 T e x) (k : Nat) (hk : k < 5) (y : Option (List AV)) : Hl5 h0 (T.set k y) e x := by
  rcases h with h | ⟨o, c, h1, rfl, h⟩
  · exact .inl h
  · exact .inr ⟨o, c, h1, rfl, (look_set_ne (by omega)).trans h⟩
theorem Row5.setk {h0 T : Heap} {hrow : List AV} {row : List By} (h : Row5 h0 T hrow row) (k : Nat) (hk : k < 5) (y : Option (List AV)) : Row5 h0 (T.set k y) hrow row := ⟨h.1, fun i x e h1 h2 => (h.2 i x e h1 h2).setk k hk y⟩
/-- A fate, carried out on the row that is being made. -/
theorem cact (h0 W : Heap) (n : Nat) (hrow : List AV) (row : List By) (kk : Nat) (hk : kk < 4) (N : Int) (t : Nat) (i : Bool) (dc : Option Nat) (d : By) (h3 : look W 3 = some hrow) (h5 : 5 ≤ W.length) (hr : Row5 h0 W hrow row) (hn : hrow.length = n) (ht : t < n) (hi : i = true → d = []) (hd : d.length ≤ 2 ^ 30) (hrb : ∀ e ∈ row, e.length ≤ 2 ^ 30) :
    ∃ (hrow' : List AV) (Z : Heap), Cl tab (41 + kk) [.ref (h0.length + 3) 0 n 1 none, .agg [.lit (.bool false), iv t, .sl i d.length dc (d.map uv)], iv N] (h0 ++ W) (.tup []) (h0 ++ (W.set 3 (some hrow') ++ Z)) ∧ hrow'.length = n ∧ Row5 h0 (W.set 3 (some hrow') ++ Z) hrow' (actP kk N t d row) := by
  have hl : look (h0 ++ W) (h0.length + 3) = some hrow := by rw [look_at]; exact h3
  have hs : Same d (.sl i d.length dc (d.map uv)) := ⟨i, dc, hi, rfl⟩
  match kk, hk with
  | 0, _ =>
    obtain ⟨Z, hc⟩ := c41 (h0 ++ W) (h0.length + 3) n none hrow t i d.length dc (d.map uv) N false hl hn ht
    rw [set_at, List.append_assoc] at hc
    refine ⟨_, Z, hc, by simpa using hn, ?_⟩
    have := ((hr.set3 (some (hrow.set t (.sl i d.length dc (d.map uv))))).pre Z).set t (.inl hs)
    simpa [actP] using this
  | 1, _ =>
    have hc := c42 (h0 ++ W) (h0.length + 3) n none (.lit (.bool false)) (iv t) (.sl i d.length dc (d.map uv)) N
    rw [List.append_assoc] at hc
    refine ⟨hrow, [some [.lit (.bool false), iv t, .sl i d.length dc (d.map uv)]], by rw [set_same h3]; exact hc, hn, ?_⟩
    have := (hr.set3 (some hrow)).pre [some [.lit (.bool false), iv t, .sl i d.length dc (d.map uv)]]
    simpa [actP] using this
  | 2, _ =>
    have htr : t < row.length := by rw [← hr.1]; omega
    have hx := List.getElem?_eq_getElem (show t < hrow.length by omega)
    have he := List.getElem?_eq_getElem htr
    have hh := hr.2 t _ _ hx he
    obtain ⟨Z, hc⟩ := c43 (h0 ++ W) (h0.length + 3) n none hrow t i dc d row[t] N false _ hl hn hx hh.hld hd (hrb _ (List.getElem_mem htr))
    rw [set_at, List.append_assoc] at hc
    refine ⟨_, _, hc, by simpa using hn, ?_⟩
    have hnew : Hl5 h0 (W.set 3 (some (hrow.set t (.ref ((h0 ++ W).length + 1) 0 (tornB d row[t] N).length 1 (some (tornB d row[t] N).length)))) ++ (some [.lit (.bool false), iv t, .sl i d.length dc (d.map uv)] :: some ((tornB d row[t] N).map uv) :: Z)) (tornB d row[t] N) (.ref ((h0 ++ W).length + 1) 0 (tornB d row[t] N).length 1 (some (tornB d row[t] N).length)) := by
      refine .inr ⟨W.length + 1, _, by omega, by rw [List.length_append, Nat.add_assoc], ?_⟩
      have := look_at (W.set 3 (some (hrow.set t (.ref ((h0 ++ W).length + 1) 0 (tornB d row[t] N).length 1 (some (tornB d row[t] N).length))))) (some [.lit (.bool false), iv t, .sl i d.length dc (d.map uv)] :: some ((tornB d row[t] N).map uv) :: Z) 1
      rw [List.length_set] at this
      exact this
    have := ((hr.set3 _).pre _).set t hnew
    have hact : actP ((2 : Nat) : Int) N t d row = row.set t (tornB d row[t] N) := by
      have hg : row.getD t [] = row[t] := by simp only [List.getD, he, Option.getD_some]
      simp only [actP, hg]
      rw [if_neg (by decide), if_pos (by decide)]
    rw [hact]
    exact this
  | 3, _ =>
    obtain ⟨Z, hc⟩ := c44 (h0 ++ W) (h0.length + 3) n none hrow t i d.length dc (d.map uv) N false hl hn
    rw [set_at, List.append_assoc] at hc
    refine ⟨_, Z, hc, by split <;> simpa using hn, ?_⟩
    have hnl : n = row.length := by rw [← hr.1]; exact hn.symm
    by_cases hN : 0 ≤ N ∧ N < (n : Int)
    · rw [if_pos hN]
      have := ((hr.set3 (some (hrow.set N.toNat (.sl i d.length dc (d.map uv))))).pre Z).set N.toNat (.inl hs)
      rw [hnl] at hN
      simpa [actP, hN] using this
    · rw [if_neg hN]
      have := (hr.set3 (some hrow)).pre Z
      rw [hnl] at hN
      have hact : actP ((3 : Nat) : Int) N t d row = row := by
        simp only [actP]
        rw [if_neg (by decide), if_neg (by decide), if_pos (by decide), if_neg hN]
      rw [hact]
      exact this
end Go.Ev
