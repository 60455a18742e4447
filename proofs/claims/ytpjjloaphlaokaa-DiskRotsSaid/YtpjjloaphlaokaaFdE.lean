/- What the disk's functions compute: finish, all writes done. -/
import Derived.Test.YtpjjloaphlaokaaFdA
set_option linter.unusedVariables false
set_option linter.unusedSimpArgs false
set_option maxRecDepth 20000
namespace Go.Ev
open Go Go.Proofs

theorem look_pre {t : Heap} {o : Nat} {cs : List AV} (h : look t o = some cs) (X : Heap) : look (t ++ X) o = some cs := by
  rw [← h]; unfold look; rw [List.getElem?_append_left (look_lt h)]
theorem flat_at : ∀ (ts : List T3) (i : Nat) (h : i < ts.length), ((flat ts).drop (i * 3)).take 3 = [.lit (.bool ts[i].1), .lit (.int .i64 ts[i].2.1), ts[i].2.2]
  | [], i, h => absurd h (by simp)
  | x :: r, 0, h => by simp [flat]
  | x :: r, i + 1, h => by
    have e : (i + 1) * 3 = i * 3 + 3 := by omega
    have := flat_at r i (by simpa using h)
    simp only [flat] at this
    simp only [flat, List.flatMap_cons, e, List.cons_append, List.nil_append, List.drop_succ_cons, List.getElem_cons_succ]
    exact this
theorem flat_load {g : Look} {ts : List T3} {i : Nat} (h : i < ts.length) : evR g (.load true 3) [.fptr ((flat ts).drop (i * 3))] = some (.agg [.lit (.bool ts[i].1), .lit (.int .i64 ts[i].2.1), ts[i].2.2]) := by
  have h1 : 3 ≤ ((flat ts).drop (i * 3)).length := by rw [List.length_drop, flat_len]; omega
  simp only [evR, rdM]
  rw [if_pos h1, flat_at ts i h]
  rfl
theorem flat_iaddr {g : Look} (b : Bool) {ts : List T3} (c : Option Nat) {i : Nat} (h : i < ts.length) : evR g (.iaddr none 3) [.sl b ts.length c (flat ts), .lit (.int .i64 (i : Int))] = some (.fptr ((flat ts).drop (i * 3))) :=
  ev_iaddrN b ts.length i 3 c (flat ts) (by omega) h (flat_len ts)

theorem wc_ex {tab : FuncId → Option AFn} {ks : List It} {Q : Ex → List AV → Heap → Prop} {fr : List AV} {h : Heap} {α : Type} {F : α → Heap} {f : FuncId} {args : List AV} {d : Option Nat} {l : List AOp} {v : AV} (hc : ∃ Z, Cl tab f args h v (F Z)) (hw : ∀ Z, WO tab l ks Q (putA fr d v) (F Z)) : WC tab f args d l ks Q fr h := by
  obtain ⟨Z, hz⟩ := hc
  exact wc_of hz (hw Z)
def doneRow (ts : List T3) (row : List AV) : List AV := ts.foldl (fun row x => if x.1 then row else row.set x.2.1.toNat x.2.2) row
theorem doneRow_len (ts : List T3) : ∀ row : List AV, (doneRow ts row).length = row.length := by
  induction ts with
  | nil => intro row; rfl
  | cons x r ih =>
    intro row
    obtain ⟨f, n, d⟩ := x
    show (doneRow r _).length = _
    rw [ih]
    cases f <;> simp
theorem doneRow_snoc (ts : List T3) (x : T3) (row : List AV) : doneRow (ts ++ [x]) row = if x.1 then doneRow ts row else (doneRow ts row).set x.2.1.toNat x.2.2 := by
  simp [doneRow, List.foldl_append]
set_option maxHeartbeats 1600000 in
theorem c29s (h0 : Heap) {D : Dsk} (hok : DOk D) (cc : Option Nat) (nq : Bool) (cq : Option Nat) (fF : Nat) (caps : List AV) (N : Nat → Int)
    (hfate : ∀ (n : Nat) (T : Heap), ∃ Z, Cl tab fF (iv n :: caps) (h0 ++ T) (.agg [iv 0, iv (N n)]) (h0 ++ (T ++ Z))) :
    ∃ r h', (∃ (p : Nat) (T : Heap), r = .agg [iv D.sz, .ref (h0.length + p) 0 D.cells.length 1 none, .sl true 0 (some 0) []] ∧ h' = h0 ++ T ∧ look T p = some (doneRow D.ts D.cells)) ∧
      Cl tab 29 [.agg [iv D.sz, .sl false D.cells.length cc D.cells, .sl nq D.ts.length cq (flat D.ts)], .fn fF caps] h0 r h' := by
  obtain ⟨sz, cells, ts⟩ := D
  have hc1 := hok.c1
  have hc0 := hok.c0
  have hq1 := hok.q1
  have hts := hok.ts
  simp only at hc1 hc0 hq1 hts ⊢
  refine sh2 _ tab29 rfl (by decide) fun fr hfl h0' h1 => ?_
  have hl' : fr.length = 61 := hfl
  simp only [A29, wk_skip, wk_reg, wk_dreg, wk_frz, wk_seq, wk_cond, wk_block, wk_loop, wk_exit, wk_scope, wk_ret, pk_nil, pk_seqN, pk_seqE, pk_seqR, pk_blkN, pk_blkE, pk_blkR, pk_invN, pk_invE, pk_invR, wo_nil, wo_cons, wd_nil, wd_cons, want_n, want_s, put_s, put_n, I.cls, List.map, opv_t, opv_i, opv_b, opv_n, opv_f, opv_s, ev_mv, ev_pick, ev_len, ev_lenR, ev_bin, ev_beqF, ev_beqT, ev_not, ev_conv, ev_ext, ev_mkfn, ev_faddr, ev_faddrF, ev_fieldF, ev_fieldT, ev_max, ev_min, ev_snilS, ev_snilR, ev_load1F, sb_lss, sb_leq, sb_gtr, sb_geq, sb_eql, sb_neq, sb_add, sb_sub, sb_mul, map_s, en_new, en_boxA, leaf_i, leaf_b, leaf_sl, leaf_ref, List.getElem?_set, List.length_set, List.length_map, List.length_append, List.getElem?_map, Option.map_some, Option.getD_some, ↓reduceIte, Nat.reduceLT, Nat.reduceEqDiff, Nat.zero_add, Nat.add_zero, decide_true, decide_false, Int.ofNat_lt, List.getElem?_cons_zero, List.getElem?_cons_succ, List.length_cons, List.length_nil, Nat.reduceAdd, Bool.not_true, Bool.not_false, Option.some.injEq, and_true, true_and, Bool.false_eq_true, Int.toNat_natCast, out_r, out_nm, pout_r, pout_nm, rs_n, rs_t, rs_c, one1, one2, one3, Option.bind_some, exists_eq_left', deep_eq, fz_lit, fz_sl, fz_fn0, fz_agg, fz_tup, mm_n, mm_c, ev_l1, ev_la, ew_1, ew_a, lk_0, lk_s, st_0, st_s, List.nil_append, List.cons_append, List.append_nil, List.drop_zero, List.drop_succ_cons, List.take_succ_cons, List.take_zero, List.take_nil, and_self, Nat.reduceLeDiff, Nat.le_refl, hd_n, hd_c, e3_n, e3_s, e3_a, mw_s, Option.map_none, rep_s, rep_0, bt_tf, bt_ff, bt_tt, bt_ft, ev_build, fp_0, fp_1, fp_a, spl_0, spl_s, Nat.mul_one, Nat.zero_mul, Nat.reduceMul, ev_iaddrPk, Int.reduceEq, true_or, or_true, or_self, hl', h0', h1, look_at, look_at0, set_at, set_at0, List.append_assoc]
  refine wc_of (c37 _ cc cells (by intro e; rw [e] at hc0; simp at hc0) hc1) ?_
  simp only [wk_skip, wk_reg, wk_dreg, wk_frz, wk_seq, wk_cond, wk_block, wk_loop, wk_exit, wk_scope, wk_ret, pk_nil, pk_seqN, pk_seqE, pk_seqR, pk_blkN, pk_blkE, pk_blkR, pk_invN, pk_invE, pk_invR, wo_nil, wo_cons, wd_nil, wd_cons, want_n, want_s, put_s, put_n, I.cls, List.map, opv_t, opv_i, opv_b, opv_n, opv_f, opv_s, ev_mv, ev_pick, ev_len, ev_lenR, ev_bin, ev_beqF, ev_beqT, ev_not, ev_conv, ev_ext, ev_mkfn, ev_faddr, ev_faddrF, ev_fieldF, ev_fieldT, ev_max, ev_min, ev_snilS, ev_snilR, ev_load1F, sb_lss, sb_leq, sb_gtr, sb_geq, sb_eql, sb_neq, sb_add, sb_sub, sb_mul, map_s, en_new, en_boxA, leaf_i, leaf_b, leaf_sl, leaf_ref, List.getElem?_set, List.length_set, List.length_map, List.length_append, List.getElem?_map, Option.map_some, Option.getD_some, ↓reduceIte, Nat.reduceLT, Nat.reduceEqDiff, Nat.zero_add, Nat.add_zero, decide_true, decide_false, Int.ofNat_lt, List.getElem?_cons_zero, List.getElem?_cons_succ, List.length_cons, List.length_nil, Nat.reduceAdd, Bool.not_true, Bool.not_false, Option.some.injEq, and_true, true_and, Bool.false_eq_true, Int.toNat_natCast, out_r, out_nm, pout_r, pout_nm, rs_n, rs_t, rs_c, one1, one2, one3, Option.bind_some, exists_eq_left', deep_eq, fz_lit, fz_sl, fz_fn0, fz_agg, fz_tup, mm_n, mm_c, ev_l1, ev_la, ew_1, ew_a, lk_0, lk_s, st_0, st_s, List.nil_append, List.cons_append, List.append_nil, List.drop_zero, List.drop_succ_cons, List.take_succ_cons, List.take_zero, List.take_nil, and_self, Nat.reduceLeDiff, Nat.le_refl, hd_n, hd_c, e3_n, e3_s, e3_a, mw_s, Option.map_none, rep_s, rep_0, bt_tf, bt_ff, bt_tt, bt_ft, ev_build, fp_0, fp_1, fp_a, spl_0, spl_s, Nat.mul_one, Nat.zero_mul, Nat.reduceMul, ev_iaddrPk, Int.reduceEq, true_or, or_true, or_self, hl', h0', h1, look_at, look_at0, set_at, set_at0, List.append_assoc]
  refine wc_pu p39 rfl ?_
  rintro w rfl
  simp only [wk_skip, wk_reg, wk_dreg, wk_frz, wk_seq, wk_cond, wk_block, wk_loop, wk_exit, wk_scope, wk_ret, pk_nil, pk_seqN, pk_seqE, pk_seqR, pk_blkN, pk_blkE, pk_blkR, pk_invN, pk_invE, pk_invR, wo_nil, wo_cons, wd_nil, wd_cons, want_n, want_s, put_s, put_n, I.cls, List.map, opv_t, opv_i, opv_b, opv_n, opv_f, opv_s, ev_mv, ev_pick, ev_len, ev_lenR, ev_bin, ev_beqF, ev_beqT, ev_not, ev_conv, ev_ext, ev_mkfn, ev_faddr, ev_faddrF, ev_fieldF, ev_fieldT, ev_max, ev_min, ev_snilS, ev_snilR, ev_load1F, sb_lss, sb_leq, sb_gtr, sb_geq, sb_eql, sb_neq, sb_add, sb_sub, sb_mul, map_s, en_new, en_boxA, leaf_i, leaf_b, leaf_sl, leaf_ref, List.getElem?_set, List.length_set, List.length_map, List.length_append, List.getElem?_map, Option.map_some, Option.getD_some, ↓reduceIte, Nat.reduceLT, Nat.reduceEqDiff, Nat.zero_add, Nat.add_zero, decide_true, decide_false, Int.ofNat_lt, List.getElem?_cons_zero, List.getElem?_cons_succ, List.length_cons, List.length_nil, Nat.reduceAdd, Bool.not_true, Bool.not_false, Option.some.injEq, and_true, true_and, Bool.false_eq_true, Int.toNat_natCast, out_r, out_nm, pout_r, pout_nm, rs_n, rs_t, rs_c, one1, one2, one3, Option.bind_some, exists_eq_left', deep_eq, fz_lit, fz_sl, fz_fn0, fz_agg, fz_tup, mm_n, mm_c, ev_l1, ev_la, ew_1, ew_a, lk_0, lk_s, st_0, st_s, List.nil_append, List.cons_append, List.append_nil, List.drop_zero, List.drop_succ_cons, List.take_succ_cons, List.take_zero, List.take_nil, and_self, Nat.reduceLeDiff, Nat.le_refl, hd_n, hd_c, e3_n, e3_s, e3_a, mw_s, Option.map_none, rep_s, rep_0, bt_tf, bt_ff, bt_tt, bt_ft, ev_build, fp_0, fp_1, fp_a, spl_0, spl_s, Nat.mul_one, Nat.zero_mul, Nat.reduceMul, ev_iaddrPk, Int.reduceEq, true_or, or_true, or_self, hl', h0', h1, look_at, look_at0, set_at, set_at0, List.append_assoc]
  have hn : cells.length < 9223372036854775807 := by omega
  refine wl_of (fun k fr h' => fr.length = 61 ∧ k ≤ ts.length ∧ fr[1]? = some (.fn fF caps) ∧ fr[2]? = some (.ptr h0.length 0) ∧ fr[4]? = some (.ptr (h0.length + 1) 0) ∧ fr[5]? = some (.ref (h0.length + 3) 0 cells.length 1 none) ∧ fr[6]? = some (.ptr (h0.length + 4) 0) ∧
      (∃ c : Nat, fr[7]? = some (iv c) ∧ c ≤ ts.length - k) ∧ fr[8]? = some (bv true) ∧ fr[17]? = some (.sl nq ts.length cq (flat ts)) ∧ fr[18]? = some (iv ts.length) ∧ fr[19]? = some (iv (ts.length - k : Nat)) ∧
      ∃ T : Heap, h' = h0 ++ T ∧ look T 0 = some [iv sz, .sl false cells.length cc cells, .sl nq ts.length cq (flat ts)] ∧ look T 1 = some [iv 0, .sl true 0 (some 0) [], .sl true 0 (some 0) []] ∧
        look T 3 = some (doneRow (ts.take (ts.length - k)) cells) ∧ look T 4 = some [.fn 41 [], .fn 42 [], .fn 43 [], .fn 44 []]) ts.length ?_ ?_
  · simp only [wk_skip, wk_reg, wk_dreg, wk_frz, wk_seq, wk_cond, wk_block, wk_loop, wk_exit, wk_scope, wk_ret, pk_nil, pk_seqN, pk_seqE, pk_seqR, pk_blkN, pk_blkE, pk_blkR, pk_invN, pk_invE, pk_invR, wo_nil, wo_cons, wd_nil, wd_cons, want_n, want_s, put_s, put_n, I.cls, List.map, opv_t, opv_i, opv_b, opv_n, opv_f, opv_s, ev_mv, ev_pick, ev_len, ev_lenR, ev_bin, ev_beqF, ev_beqT, ev_not, ev_conv, ev_ext, ev_mkfn, ev_faddr, ev_faddrF, ev_fieldF, ev_fieldT, ev_max, ev_min, ev_snilS, ev_snilR, ev_load1F, sb_lss, sb_leq, sb_gtr, sb_geq, sb_eql, sb_neq, sb_add, sb_sub, sb_mul, map_s, en_new, en_boxA, leaf_i, leaf_b, leaf_sl, leaf_ref, List.getElem?_set, List.length_set, List.length_map, List.length_append, List.getElem?_map, Option.map_some, Option.getD_some, ↓reduceIte, Nat.reduceLT, Nat.reduceEqDiff, Nat.zero_add, Nat.add_zero, decide_true, decide_false, Int.ofNat_lt, List.getElem?_cons_zero, List.getElem?_cons_succ, List.length_cons, List.length_nil, Nat.reduceAdd, Bool.not_true, Bool.not_false, Option.some.injEq, and_true, true_and, Bool.false_eq_true, Int.toNat_natCast, out_r, out_nm, pout_r, pout_nm, rs_n, rs_t, rs_c, one1, one2, one3, Option.bind_some, exists_eq_left', deep_eq, fz_lit, fz_sl, fz_fn0, fz_agg, fz_tup, mm_n, mm_c, ev_l1, ev_la, ew_1, ew_a, lk_0, lk_s, st_0, st_s, List.nil_append, List.cons_append, List.append_nil, List.drop_zero, List.drop_succ_cons, List.take_succ_cons, List.take_zero, List.take_nil, and_self, Nat.reduceLeDiff, Nat.le_refl, hd_n, hd_c, e3_n, e3_s, e3_a, mw_s, Option.map_none, rep_s, rep_0, bt_tf, bt_ff, bt_tt, bt_ft, ev_build, fp_0, fp_1, fp_a, spl_0, spl_s, Nat.mul_one, Nat.zero_mul, Nat.reduceMul, ev_iaddrPk, Int.reduceEq, true_or, or_true, or_self, hl', h1, Nat.sub_self]
    exact ⟨⟨0, rfl, Nat.le_refl _⟩, rfl, _, rfl, rfl, rfl, rfl, rfl⟩
  · rintro k fr _ ⟨hfl, hk, h1, h2, h4, h5, h6, ⟨c, h7, hc⟩, h8, h17, h18, h19, T, rfl, t0, t1, t3, t4⟩
    generalize hi : ts.length - k = i at *
    have p0 := fun X => look_pre t0 X
    have p4 := fun X => look_pre t4 X
    have p1 := fun X => look_pre t1 X
    have p3 := fun X => look_pre t3 X
    by_cases hlt : i < ts.length
    · have hfa := fun g b c => @flat_iaddr g b ts c i hlt
      have hfl2 := fun g => @flat_load g ts i hlt
      have hw := wrapS hlt (by omega)
      have hd := decT hlt
      have hsn : ts.take (i + 1) = ts.take i ++ [ts[i]] := List.take_succ_eq_append_getElem hlt
      have hm := hts ts[i] (List.getElem_mem hlt)
      obtain ⟨x, hx⟩ : ∃ x, ts[i] = x := ⟨_, rfl⟩
      obtain ⟨f, t, d⟩ := x
      rw [hx] at hsn hm
      simp only at hm
      obtain ⟨⟨nl, cap, bs, _, _, rfl⟩, hr⟩ := hm
      cases f with
      | true =>
        simp only [wk_skip, wk_reg, wk_dreg, wk_frz, wk_seq, wk_cond, wk_block, wk_loop, wk_exit, wk_scope, wk_ret, pk_nil, pk_seqN, pk_seqE, pk_seqR, pk_blkN, pk_blkE, pk_blkR, pk_invN, pk_invE, pk_invR, wo_nil, wo_cons, wd_nil, wd_cons, want_n, want_s, put_s, put_n, I.cls, List.map, opv_t, opv_i, opv_b, opv_n, opv_f, opv_s, ev_mv, ev_pick, ev_len, ev_lenR, ev_bin, ev_beqF, ev_beqT, ev_not, ev_conv, ev_ext, ev_mkfn, ev_faddr, ev_faddrF, ev_fieldF, ev_fieldT, ev_max, ev_min, ev_snilS, ev_snilR, ev_load1F, sb_lss, sb_leq, sb_gtr, sb_geq, sb_eql, sb_neq, sb_add, sb_sub, sb_mul, map_s, en_new, en_boxA, leaf_i, leaf_b, leaf_sl, leaf_ref, List.getElem?_set, List.length_set, List.length_map, List.length_append, List.getElem?_map, Option.map_some, Option.getD_some, ↓reduceIte, Nat.reduceLT, Nat.reduceEqDiff, Nat.zero_add, Nat.add_zero, decide_true, decide_false, Int.ofNat_lt, List.getElem?_cons_zero, List.getElem?_cons_succ, List.length_cons, List.length_nil, Nat.reduceAdd, Bool.not_true, Bool.not_false, Option.some.injEq, and_true, true_and, Bool.false_eq_true, Int.toNat_natCast, out_r, out_nm, pout_r, pout_nm, rs_n, rs_t, rs_c, one1, one2, one3, Option.bind_some, exists_eq_left', deep_eq, fz_lit, fz_sl, fz_fn0, fz_agg, fz_tup, mm_n, mm_c, ev_l1, ev_la, ew_1, ew_a, lk_0, lk_s, st_0, st_s, List.nil_append, List.cons_append, List.append_nil, List.drop_zero, List.drop_succ_cons, List.take_succ_cons, List.take_zero, List.take_nil, and_self, Nat.reduceLeDiff, Nat.le_refl, hd_n, hd_c, e3_n, e3_s, e3_a, mw_s, Option.map_none, bt_tf, bt_ff, bt_tt, bt_ft, ev_build, fp_0, fp_1, fp_a, spl_0, spl_s, Nat.mul_one, Nat.zero_mul, Nat.reduceMul, ev_iaddrPk, Int.reduceEq, true_or, or_true, or_self, hfl, h1, h2, h4, h5, h6, h7, h8, h17, h18, h19, hd, hlt, hfa, hfl2, hx, hw, look_at, look_at0, set_at, set_at0, List.append_assoc]
        refine ⟨k - 1, by omega, by omega, ⟨c, rfl, by omega⟩, by rw [show ts.length - (k - 1) = i + 1 by omega], _, rfl, p0 _, p1 _, ?_, p4 _⟩
        rw [show ts.length - (k - 1) = i + 1 by omega, hsn, doneRow_snoc]
        exact p3 _
      | false =>
        obtain ⟨hr0, hr1⟩ := hr rfl
        obtain ⟨tn, rfl⟩ : ∃ tn : Nat, t = tn := ⟨t.toNat, by omega⟩
        have htn : tn < cells.length := by omega
        simp only [wk_skip, wk_reg, wk_dreg, wk_frz, wk_seq, wk_cond, wk_block, wk_loop, wk_exit, wk_scope, wk_ret, pk_nil, pk_seqN, pk_seqE, pk_seqR, pk_blkN, pk_blkE, pk_blkR, pk_invN, pk_invE, pk_invR, wo_nil, wo_cons, wd_nil, wd_cons, want_n, want_s, put_s, put_n, I.cls, List.map, opv_t, opv_i, opv_b, opv_n, opv_f, opv_s, ev_mv, ev_pick, ev_len, ev_lenR, ev_bin, ev_beqF, ev_beqT, ev_not, ev_conv, ev_ext, ev_mkfn, ev_faddr, ev_faddrF, ev_fieldF, ev_fieldT, ev_max, ev_min, ev_snilS, ev_snilR, ev_load1F, sb_lss, sb_leq, sb_gtr, sb_geq, sb_eql, sb_neq, sb_add, sb_sub, sb_mul, map_s, en_new, en_boxA, leaf_i, leaf_b, leaf_sl, leaf_ref, List.getElem?_set, List.length_set, List.length_map, List.length_append, List.getElem?_map, Option.map_some, Option.getD_some, ↓reduceIte, Nat.reduceLT, Nat.reduceEqDiff, Nat.zero_add, Nat.add_zero, decide_true, decide_false, Int.ofNat_lt, List.getElem?_cons_zero, List.getElem?_cons_succ, List.length_cons, List.length_nil, Nat.reduceAdd, Bool.not_true, Bool.not_false, Option.some.injEq, and_true, true_and, Bool.false_eq_true, Int.toNat_natCast, out_r, out_nm, pout_r, pout_nm, rs_n, rs_t, rs_c, one1, one2, one3, Option.bind_some, exists_eq_left', deep_eq, fz_lit, fz_sl, fz_fn0, fz_agg, fz_tup, mm_n, mm_c, ev_l1, ev_la, ew_1, ew_a, lk_0, lk_s, st_0, st_s, List.nil_append, List.cons_append, List.append_nil, List.drop_zero, List.drop_succ_cons, List.take_succ_cons, List.take_zero, List.take_nil, and_self, Nat.reduceLeDiff, Nat.le_refl, hd_n, hd_c, e3_n, e3_s, e3_a, mw_s, Option.map_none, bt_tf, bt_ff, bt_tt, bt_ft, ev_build, fp_0, fp_1, fp_a, spl_0, spl_s, Nat.mul_one, Nat.zero_mul, Nat.reduceMul, ev_iaddrPk, Int.reduceEq, true_or, or_true, or_self, hfl, h1, h2, h4, h5, h6, h7, h8, h17, h18, h19, hd, hlt, hfa, hfl2, hx, hw, look_at, look_at0, set_at, set_at0, List.append_assoc]
        obtain ⟨Z, hZ⟩ := hfate c (T ++ [some [.lit (.bool false), .lit (.int .i64 tn), .sl nl bs.length cap (bs.map uv)]])
        refine wc_of hZ ?_
        have hwc := wrapS (i := c) (n := 1000001) (by omega) (by omega)
        have q0 := fun X => look_pre (look_pre (look_pre t0 [some [.lit (.bool false), .lit (.int .i64 tn), .sl nl bs.length cap (bs.map uv)]]) Z) X
        have d0 : decide ((0 : Int) < 0) = false := rfl
        have d4 : decide ((4 : Int) ≤ 0) = false := rfl
        have d1 : decide ((0 : Int) = 0) = true := rfl
        simp only [wk_skip, wk_reg, wk_dreg, wk_frz, wk_seq, wk_cond, wk_block, wk_loop, wk_exit, wk_scope, wk_ret, pk_nil, pk_seqN, pk_seqE, pk_seqR, pk_blkN, pk_blkE, pk_blkR, pk_invN, pk_invE, pk_invR, wo_nil, wo_cons, wd_nil, wd_cons, want_n, want_s, put_s, put_n, I.cls, List.map, opv_t, opv_i, opv_b, opv_n, opv_f, opv_s, ev_mv, ev_pick, ev_len, ev_lenR, ev_bin, ev_beqF, ev_beqT, ev_not, ev_conv, ev_ext, ev_mkfn, ev_faddr, ev_faddrF, ev_fieldF, ev_fieldT, ev_max, ev_min, ev_snilS, ev_snilR, ev_load1F, sb_lss, sb_leq, sb_gtr, sb_geq, sb_eql, sb_neq, sb_add, sb_sub, sb_mul, map_s, en_new, en_boxA, leaf_i, leaf_b, leaf_sl, leaf_ref, List.getElem?_set, List.length_set, List.length_map, List.length_append, List.getElem?_map, Option.map_some, Option.getD_some, ↓reduceIte, Nat.reduceLT, Nat.reduceEqDiff, Nat.zero_add, Nat.add_zero, decide_true, decide_false, Int.ofNat_lt, List.getElem?_cons_zero, List.getElem?_cons_succ, List.length_cons, List.length_nil, Nat.reduceAdd, Bool.not_true, Bool.not_false, Option.some.injEq, and_true, true_and, Bool.false_eq_true, Int.toNat_natCast, out_r, out_nm, pout_r, pout_nm, rs_n, rs_t, rs_c, one1, one2, one3, Option.bind_some, exists_eq_left', deep_eq, fz_lit, fz_sl, fz_fn0, fz_agg, fz_tup, mm_n, mm_c, ev_l1, ev_la, ew_1, ew_a, lk_0, lk_s, st_0, st_s, List.nil_append, List.cons_append, List.append_nil, List.drop_zero, List.drop_succ_cons, List.take_succ_cons, List.take_zero, List.take_nil, and_self, Nat.reduceLeDiff, Nat.le_refl, hd_n, hd_c, e3_n, e3_s, e3_a, mw_s, Option.map_none, bt_tf, bt_ff, bt_tt, bt_ft, ev_build, fp_0, fp_1, fp_a, spl_0, spl_s, Nat.mul_one, Nat.zero_mul, Nat.reduceMul, ev_iaddrPk, Int.reduceEq, true_or, or_true, or_self, hfl, h1, h2, h4, h5, h6, h7, h8, h17, h18, h19, hd, hwc, d0, d1, d4, p0, p4, look_at, look_at0, set_at, set_at0, List.append_assoc]
        have key : ∀ W : Heap, ∃ Z' : Heap, Cl tab 41 [.ref (h0.length + 3) 0 cells.length 1 none, .agg [.lit (.bool false), iv tn, .sl nl bs.length cap (bs.map uv)], iv (N c)] (h0 ++ (T ++ W)) (.tup []) (h0 ++ ((T ++ W).set 3 (some ((doneRow (ts.take i) cells).set tn (.sl nl bs.length cap (bs.map uv)))) ++ Z')) := by
          intro W
          obtain ⟨Z', hc⟩ := c41 (h0 ++ (T ++ W)) (h0.length + 3) cells.length none (doneRow (ts.take i) cells) tn nl bs.length cap (bs.map uv) (N c) false (by rw [look_at]; exact p3 W) (doneRow_len _ _) htn
          rw [set_at, List.append_assoc] at hc
          exact ⟨Z', hc⟩
        refine wc_ex (key _) fun Z' => ?_
        simp only [wk_skip, wk_reg, wk_dreg, wk_frz, wk_seq, wk_cond, wk_block, wk_loop, wk_exit, wk_scope, wk_ret, pk_nil, pk_seqN, pk_seqE, pk_seqR, pk_blkN, pk_blkE, pk_blkR, pk_invN, pk_invE, pk_invR, wo_nil, wo_cons, wd_nil, wd_cons, want_n, want_s, put_s, put_n, I.cls, List.map, opv_t, opv_i, opv_b, opv_n, opv_f, opv_s, ev_mv, ev_pick, ev_len, ev_lenR, ev_bin, ev_beqF, ev_beqT, ev_not, ev_conv, ev_ext, ev_mkfn, ev_faddr, ev_faddrF, ev_fieldF, ev_fieldT, ev_max, ev_min, ev_snilS, ev_snilR, ev_load1F, sb_lss, sb_leq, sb_gtr, sb_geq, sb_eql, sb_neq, sb_add, sb_sub, sb_mul, map_s, en_new, en_boxA, leaf_i, leaf_b, leaf_sl, leaf_ref, List.getElem?_set, List.length_set, List.length_map, List.length_append, List.getElem?_map, Option.map_some, Option.getD_some, ↓reduceIte, Nat.reduceLT, Nat.reduceEqDiff, Nat.zero_add, Nat.add_zero, decide_true, decide_false, Int.ofNat_lt, List.getElem?_cons_zero, List.getElem?_cons_succ, List.length_cons, List.length_nil, Nat.reduceAdd, Bool.not_true, Bool.not_false, Option.some.injEq, and_true, true_and, Bool.false_eq_true, Int.toNat_natCast, out_r, out_nm, pout_r, pout_nm, rs_n, rs_t, rs_c, one1, one2, one3, Option.bind_some, exists_eq_left', deep_eq, fz_lit, fz_sl, fz_fn0, fz_agg, fz_tup, mm_n, mm_c, ev_l1, ev_la, ew_1, ew_a, lk_0, lk_s, st_0, st_s, List.nil_append, List.cons_append, List.append_nil, List.drop_zero, List.drop_succ_cons, List.take_succ_cons, List.take_zero, List.take_nil, and_self, Nat.reduceLeDiff, Nat.le_refl, hd_n, hd_c, e3_n, e3_s, e3_a, mw_s, Option.map_none, bt_tf, bt_ff, bt_tt, bt_ft, ev_build, fp_0, fp_1, fp_a, spl_0, spl_s, Nat.mul_one, Nat.zero_mul, Nat.reduceMul, ev_iaddrPk, Int.reduceEq, true_or, or_true, or_self, hfl, h1, h2, h4, h5, h6, h7, h8, h17, h18, h19, hw]
        refine ⟨k - 1, by omega, by omega, ⟨c + 1, rfl, by omega⟩, by rw [show ts.length - (k - 1) = i + 1 by omega], _, rfl, look_pre ((look_set_ne (by omega)).trans (p0 _)) _, look_pre ((look_set_ne (by omega)).trans (p1 _)) _, look_pre ?_ _, look_pre ((look_set_ne (by omega)).trans (p4 _)) _⟩
        rw [show ts.length - (k - 1) = i + 1 by omega, hsn, doneRow_snoc]
        exact look_set_eq (look_lt (p3 _))
    · have hie : i = ts.length := by omega
      have hd := decF hlt
      rw [hie, List.take_length] at t3
      simp only [wk_skip, wk_reg, wk_dreg, wk_frz, wk_seq, wk_cond, wk_block, wk_loop, wk_exit, wk_scope, wk_ret, pk_nil, pk_seqN, pk_seqE, pk_seqR, pk_blkN, pk_blkE, pk_blkR, pk_invN, pk_invE, pk_invR, wo_nil, wo_cons, wd_nil, wd_cons, want_n, want_s, put_s, put_n, I.cls, List.map, opv_t, opv_i, opv_b, opv_n, opv_f, opv_s, ev_mv, ev_pick, ev_len, ev_lenR, ev_bin, ev_beqF, ev_beqT, ev_not, ev_conv, ev_ext, ev_mkfn, ev_faddr, ev_faddrF, ev_fieldF, ev_fieldT, ev_max, ev_min, ev_snilS, ev_snilR, ev_load1F, sb_lss, sb_leq, sb_gtr, sb_geq, sb_eql, sb_neq, sb_add, sb_sub, sb_mul, map_s, en_new, en_boxA, leaf_i, leaf_b, leaf_sl, leaf_ref, List.getElem?_set, List.length_set, List.length_map, List.length_append, List.getElem?_map, Option.map_some, Option.getD_some, ↓reduceIte, Nat.reduceLT, Nat.reduceEqDiff, Nat.zero_add, Nat.add_zero, decide_true, decide_false, Int.ofNat_lt, List.getElem?_cons_zero, List.getElem?_cons_succ, List.length_cons, List.length_nil, Nat.reduceAdd, Bool.not_true, Bool.not_false, Option.some.injEq, and_true, true_and, Bool.false_eq_true, Int.toNat_natCast, out_r, out_nm, pout_r, pout_nm, rs_n, rs_t, rs_c, one1, one2, one3, Option.bind_some, exists_eq_left', deep_eq, fz_lit, fz_sl, fz_fn0, fz_agg, fz_tup, mm_n, mm_c, ev_l1, ev_la, ew_1, ew_a, lk_0, lk_s, st_0, st_s, List.nil_append, List.cons_append, List.append_nil, List.drop_zero, List.drop_succ_cons, List.take_succ_cons, List.take_zero, List.take_nil, and_self, Nat.reduceLeDiff, Nat.le_refl, hd_n, hd_c, e3_n, e3_s, e3_a, mw_s, Option.map_none, bt_tf, bt_ff, bt_tt, bt_ft, ev_build, fp_0, fp_1, fp_a, spl_0, spl_s, Nat.mul_one, Nat.zero_mul, Nat.reduceMul, ev_iaddrPk, Int.reduceEq, true_or, or_true, or_self, hfl, h1, h2, h4, h5, h6, h7, h8, h17, h18, h19, hd, t0, t1, look_at, look_at0, set_at, set_at0, List.append_assoc]
      rw [look_set_eq (look_lt t1)]
      refine ⟨_, rfl, 3, _, rfl, rfl, ?_⟩
      rw [look_set_ne (by omega)]
      exact t3

theorem doneRow_dat {sz : Nat} : ∀ (ts : List T3) (row : List AV), (∀ x ∈ row, Dat sz x) → (∀ x ∈ ts, Dat sz x.2.2) → ∀ x ∈ doneRow ts row, Dat sz x
  | [], row, h, _ => h
  | y :: r, row, h, ht => by
    obtain ⟨f, n, d⟩ := y
    refine doneRow_dat r _ ?_ fun x hx => ht x (List.mem_cons_of_mem _ hx)
    intro x hx
    cases f with
    | true => exact h x hx
    | false =>
      rcases List.mem_or_eq_of_mem_set hx with h' | rfl
      · exact h x h'
      · exact ht _ List.mem_cons_self
theorem Dat.fz {sz : Nat} {x : AV} (h : Dat sz x) (g : Look) (n : Nat) : fz g (n + 1) x = some x := by
  obtain ⟨nl, cap, d, _, _, rfl⟩ := h
  rfl
/-- Sync: all writes are done. -/
theorem p12 {D : Dsk} (hok : DOk D) {v : AV} (hv : DR D v) : Pu tab 12 [v] (DR ⟨D.sz, doneRow D.ts D.cells, []⟩) := by
  obtain ⟨nc, cc, nq, cq, h1, h2, rfl⟩ := hv
  have hc0 := hok.c0
  have hnc : nc = false := by
    cases nc with
    | false => rfl
    | true => rw [h1 rfl] at hc0; simp at hc0
  subst hnc
  refine pu1 _ tab12 rfl (by decide) fun fr hfl h0 => ?_
  have hl' : fr.length = 5 := hfl
  simp only [A12, wk_skip, wk_reg, wk_dreg, wk_frz, wk_seq, wk_cond, wk_block, wk_loop, wk_exit, wk_scope, wk_ret, pk_nil, pk_seqN, pk_seqE, pk_seqR, pk_blkN, pk_blkE, pk_blkR, pk_invN, pk_invE, pk_invR, wo_nil, wo_cons, wd_nil, wd_cons, want_n, want_s, put_s, put_n, I.cls, List.map, opv_t, opv_i, opv_b, opv_n, opv_f, opv_s, ev_mv, ev_pick, ev_len, ev_lenR, ev_bin, ev_beqF, ev_beqT, ev_not, ev_conv, ev_ext, ev_mkfn, ev_faddr, ev_faddrF, ev_fieldF, ev_fieldT, ev_max, ev_min, ev_snilS, ev_snilR, ev_load1F, sb_lss, sb_leq, sb_gtr, sb_geq, sb_eql, sb_neq, sb_add, sb_sub, sb_mul, map_s, en_new, en_boxA, leaf_i, leaf_b, leaf_sl, leaf_ref, List.getElem?_set, List.length_set, List.length_map, List.length_append, List.getElem?_map, Option.map_some, Option.getD_some, ↓reduceIte, Nat.reduceLT, Nat.reduceEqDiff, Nat.zero_add, Nat.add_zero, decide_true, decide_false, Int.ofNat_lt, List.getElem?_cons_zero, List.getElem?_cons_succ, List.length_cons, List.length_nil, Nat.reduceAdd, Bool.not_true, Bool.not_false, Option.some.injEq, and_true, true_and, Bool.false_eq_true, Int.toNat_natCast, out_r, out_nm, pout_r, pout_nm, rs_n, rs_t, rs_c, one1, one2, one3, Option.bind_some, exists_eq_left', deep_eq, fz_lit, fz_sl, fz_fn0, fz_agg, fz_tup, mm_n, mm_c, ev_l1, ev_la, ew_1, ew_a, lk_0, lk_s, st_0, st_s, List.nil_append, List.cons_append, List.append_nil, List.drop_zero, List.drop_succ_cons, List.take_succ_cons, List.take_zero, List.take_nil, and_self, Nat.reduceLeDiff, Nat.le_refl, hd_n, hd_c, e3_n, e3_s, e3_a, mw_s, Option.map_none, rep_s, rep_0, bt_tf, bt_ff, bt_tt, bt_ft, ev_build, fp_0, fp_1, fp_a, spl_0, spl_s, Nat.mul_one, Nat.zero_mul, Nat.reduceMul, ev_iaddrPk, Int.reduceEq, true_or, or_true, or_self, hl', h0]
  obtain ⟨r, h', ⟨o, T, rfl, rfl, hT⟩, hc⟩ := c29s [some [iv D.sz, .sl false D.cells.length cc D.cells, .sl nq D.ts.length cq (flat D.ts)], some [iv 0, .sl true 0 (some 0) [], .sl true 0 (some 0) []]] hok cc nq cq 30 [] (fun _ => 0) (fun n T => by
    obtain ⟨w, rfl, hw⟩ := (p30 (n : Int)).use rfl ([some [iv D.sz, .sl false D.cells.length cc D.cells, .sl nq D.ts.length cq (flat D.ts)], some [iv 0, .sl true 0 (some 0) [], .sl true 0 (some 0) []]] ++ T)
    exact ⟨[], by rw [List.append_nil]; exact hw⟩)
  refine wc_of hc ?_
  simp only [wk_skip, wk_reg, wk_dreg, wk_frz, wk_seq, wk_cond, wk_block, wk_loop, wk_exit, wk_scope, wk_ret, pk_nil, pk_seqN, pk_seqE, pk_seqR, pk_blkN, pk_blkE, pk_blkR, pk_invN, pk_invE, pk_invR, wo_nil, wo_cons, wd_nil, wd_cons, want_n, want_s, put_s, put_n, I.cls, List.map, opv_t, opv_i, opv_b, opv_n, opv_f, opv_s, ev_mv, ev_pick, ev_len, ev_lenR, ev_bin, ev_beqF, ev_beqT, ev_not, ev_conv, ev_ext, ev_mkfn, ev_faddr, ev_faddrF, ev_fieldF, ev_fieldT, ev_max, ev_min, ev_snilS, ev_snilR, ev_load1F, sb_lss, sb_leq, sb_gtr, sb_geq, sb_eql, sb_neq, sb_add, sb_sub, sb_mul, map_s, en_new, en_boxA, leaf_i, leaf_b, leaf_sl, leaf_ref, List.getElem?_set, List.length_set, List.length_map, List.length_append, List.getElem?_map, Option.map_some, Option.getD_some, ↓reduceIte, Nat.reduceLT, Nat.reduceEqDiff, Nat.zero_add, Nat.add_zero, decide_true, decide_false, Int.ofNat_lt, List.getElem?_cons_zero, List.getElem?_cons_succ, List.length_cons, List.length_nil, Nat.reduceAdd, Bool.not_true, Bool.not_false, Option.some.injEq, and_true, true_and, Bool.false_eq_true, Int.toNat_natCast, out_r, out_nm, pout_r, pout_nm, rs_n, rs_t, rs_c, one1, one2, one3, Option.bind_some, exists_eq_left', deep_eq, fz_lit, fz_sl, fz_fn0, fz_agg, fz_tup, mm_n, mm_c, ev_l1, ev_la, ew_1, ew_a, lk_0, lk_s, st_0, st_s, List.nil_append, List.cons_append, List.append_nil, List.drop_zero, List.drop_succ_cons, List.take_succ_cons, List.take_zero, List.take_nil, and_self, Nat.reduceLeDiff, Nat.le_refl, hd_n, hd_c, e3_n, e3_s, e3_a, mw_s, Option.map_none, rep_s, rep_0, bt_tf, bt_ff, bt_tt, bt_ft, ev_build, fp_0, fp_1, fp_a, spl_0, spl_s, Nat.mul_one, Nat.zero_mul, Nat.reduceMul, ev_iaddrPk, Int.reduceEq, true_or, or_true, or_self, hl', h0]
  have hz := fun x y => fz_refN (g := look (x :: y :: T)) 8 (2 + o) D.cells.length 1 none ((look_at [x, y] T o).trans hT) (by rw [doneRow_len]; omega) fun x hx => (doneRow_dat D.ts D.cells hok.cells (fun y hy => (hok.ts y hy).1) x hx).fz _ _
  try simp only [List.length_cons, List.length_nil, Nat.zero_add, Nat.reduceAdd]
  rw [hz]
  exact ⟨_, rfl, false, none, true, some 0, fun h => (by cases h), fun _ => rfl, by simp [flat, doneRow_len]⟩
end Go.Ev
