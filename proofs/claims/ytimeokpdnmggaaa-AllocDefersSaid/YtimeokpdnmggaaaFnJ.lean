/- What the Alloc functions compute: Valid, step. -/
import Derived.Test.YtimeokpdnmggaaaFnI
set_option linter.unusedVariables false
set_option linter.unusedSimpArgs false
set_option maxRecDepth 20000
namespace Go.Ev
open Go Go.Proofs

/-- A valid allocator. -/
structure Vd (s : S) : Prop where
  u0 : 1 ≤ s.u.length
  u1 : s.u.length ≤ 4096
  k0 : 0 ≤ s.k
  k1 : s.k ≤ cnt s.u
  l1 : s.l.length ≤ 4096
  ok : ∀ (i : Nat) (n : Int), s.l[i]? = some n → 0 ≤ n ∧ s.u[n.toNat]? = some true ∧ ¬ n ∈ s.l.take i
theorem Vd.bd {s : S} (h : Vd s) : Bd s := ⟨h.u1, h.l1, h.k0, by have := h.k1; have := cnt_le s.u; have := h.u1; omega⟩
theorem Vd.ne {s : S} (h : Vd s) : s.u.length ≠ 0 := by have := h.u0; omega
theorem Vd.rng {s : S} (h : Vd s) : ∀ y ∈ s.l, 0 ≤ y ∧ y < s.u.length := by
  intro y hy
  obtain ⟨i, hi⟩ := List.getElem?_of_mem hy
  obtain ⟨h1, h2, _⟩ := h.ok i y hi
  have := (List.getElem?_eq_some_iff.1 h2).1
  omega

theorem ev_slice (g : Look) (b : Bool) (n i : Nat) (c : Option Nat) (xs : List AV) (hi : i ≤ n) (hx : xs.length = n) : evR g (.slice 1 false true false) [.sl b n c xs, .lit (.int .i64 (i : Int))] = some (.sl b i c (xs.take i)) := by
  have h1 : bounds3 n false true false [.lit (.int .i64 (i : Int))] = some (0, i, none) := by
    simp [bounds3, pickOpt, boundOf, natOf]
  simp only [evR, h1]
  rw [if_pos ⟨hi, by omega, rfl⟩]
  simp only [Nat.zero_mul, List.drop_zero, Nat.sub_zero, Nat.mul_one]
  congr 2
  cases c <;> rfl
set_option maxHeartbeats 1600000 in
theorem p28 {s : S} {x : AV} (hx : ARs s x) (hv : Vd s) : Pu tab 28 [x] (· = bv true) := by
  have h29 := p29 hx (by have := hv.u1; omega)
  have hnr := AR.noRef hx
  obtain ⟨u, l, k⟩ := s
  obtain ⟨hu0, hu, hk0, hk1, hln, hok⟩ := hv
  simp only at hu0 hu hln hk0 hk1 hok
  obtain ⟨nu, cu, nl, cl, hnl, rfl⟩ := hx
  refine pu1 _ tab28 rfl (by decide) fun fr hfl h0 => ?_
  have hl' : fr.length = 74 := hfl
  have d1 : ¬ (u.length : Int) < 1 := by omega
  have d2 : ¬ (4096 : Int) < u.length := by omega
  have d3 : ¬ k < 0 := by omega
  have d4 : ¬ (cnt u : Int) < k := by omega
  simp only [A28, wk_skip, wk_reg, wk_dreg, wk_frz, wk_seq, wk_cond, wk_block, wk_loop, wk_exit, wk_scope, wk_ret, pk_nil, pk_seqN, pk_seqE, pk_seqR, pk_blkN, pk_blkE, pk_blkR, pk_invN, pk_invE, pk_invR, wo_nil, wo_cons, wd_nil, wd_cons, want_n, want_s, put_s, put_n, I.cls, List.map, opv_t, opv_i, opv_b, opv_n, opv_f, opv_s, ev_mv, ev_pick, ev_len, ev_lenR, ev_bin, ev_beqF, ev_beqT, ev_not, ev_conv, ev_ext, ev_mkfn, ev_faddr, ev_faddrF, ev_fieldF, ev_fieldT, ev_max, ev_min, ev_snilS, ev_snilR, ev_load1F, sb_lss, sb_leq, sb_gtr, sb_geq, sb_eql, sb_neq, sb_add, sb_sub, sb_mul, map_s, en_new, en_boxA, leaf_i, leaf_b, leaf_sl, leaf_ref, List.getElem?_set, List.length_set, List.length_map, List.length_append, List.getElem?_map, Option.map_some, Option.getD_some, ↓reduceIte, Nat.reduceLT, Nat.reduceEqDiff, Nat.zero_add, Nat.add_zero, decide_true, decide_false, Int.ofNat_lt, List.getElem?_cons_zero, List.getElem?_cons_succ, List.length_cons, List.length_nil, Nat.reduceAdd, Bool.not_true, Bool.not_false, Option.some.injEq, and_true, true_and, Bool.false_eq_true, Int.toNat_natCast, out_r, out_nm, pout_r, pout_nm, rs_n, rs_t, rs_c, one1, one2, one3, Option.bind_some, exists_eq_left', deep_eq, fz_lit, fz_sl, fz_fn0, fz_agg, fz_tup, mm_n, mm_c, ev_l1, ev_la, ew_1, ew_a, lk_0, lk_s, st_0, st_s, List.nil_append, List.cons_append, List.append_nil, List.drop_zero, List.drop_succ_cons, List.take_succ_cons, List.take_zero, List.take_nil, and_self, Nat.reduceLeDiff, Nat.le_refl, hd_n, hd_c, mw_n, mw_s, Option.map_none, rep_s, rep_0, bt_tf, bt_ff, bt_tt, bt_ft, ev_build, fp_0, fp_1, fp_a, spl_0, spl_s, Nat.mul_one, Nat.zero_mul, Nat.reduceMul, ev_iaddrPk, Int.reduceEq, true_or, or_true, or_self, hl', h0, d1, d2, d3]
  obtain ⟨v, rfl, hcl⟩ := h29.useD (by simp [hnr]) [] (some [.sl nu u.length cu (u.map bv), .sl nl l.length cl (l.map iv), iv k] :: List.replicate 22 none)
  refine wcd_of hcl ?_
  simp only [wk_skip, wk_reg, wk_dreg, wk_frz, wk_seq, wk_cond, wk_block, wk_loop, wk_exit, wk_scope, wk_ret, pk_nil, pk_seqN, pk_seqE, pk_seqR, pk_blkN, pk_blkE, pk_blkR, pk_invN, pk_invE, pk_invR, wo_nil, wo_cons, wd_nil, wd_cons, want_n, want_s, put_s, put_n, I.cls, List.map, opv_t, opv_i, opv_b, opv_n, opv_f, opv_s, ev_mv, ev_pick, ev_len, ev_lenR, ev_bin, ev_beqF, ev_beqT, ev_not, ev_conv, ev_ext, ev_mkfn, ev_faddr, ev_faddrF, ev_fieldF, ev_fieldT, ev_max, ev_min, ev_snilS, ev_snilR, ev_load1F, sb_lss, sb_leq, sb_gtr, sb_geq, sb_eql, sb_neq, sb_add, sb_sub, sb_mul, map_s, en_new, en_boxA, leaf_i, leaf_b, leaf_sl, leaf_ref, List.getElem?_set, List.length_set, List.length_map, List.length_append, List.getElem?_map, Option.map_some, Option.getD_some, ↓reduceIte, Nat.reduceLT, Nat.reduceEqDiff, Nat.zero_add, Nat.add_zero, decide_true, decide_false, Int.ofNat_lt, List.getElem?_cons_zero, List.getElem?_cons_succ, List.length_cons, List.length_nil, Nat.reduceAdd, Bool.not_true, Bool.not_false, Option.some.injEq, and_true, true_and, Bool.false_eq_true, Int.toNat_natCast, out_r, out_nm, pout_r, pout_nm, rs_n, rs_t, rs_c, one1, one2, one3, Option.bind_some, exists_eq_left', deep_eq, fz_lit, fz_sl, fz_fn0, fz_agg, fz_tup, mm_n, mm_c, ev_l1, ev_la, ew_1, ew_a, lk_0, lk_s, st_0, st_s, List.nil_append, List.cons_append, List.append_nil, List.drop_zero, List.drop_succ_cons, List.take_succ_cons, List.take_zero, List.take_nil, and_self, Nat.reduceLeDiff, Nat.le_refl, hd_n, hd_c, mw_n, mw_s, Option.map_none, rep_s, rep_0, bt_tf, bt_ff, bt_tt, bt_ft, ev_build, fp_0, fp_1, fp_a, spl_0, spl_s, Nat.mul_one, Nat.zero_mul, Nat.reduceMul, ev_iaddrPk, Int.reduceEq, true_or, or_true, or_self, hl', h0, d4]
  refine wl_of (fun n fr h' => fr.length = 74 ∧ n ≤ l.length ∧ fr[1]? = some (.ptr 0 0) ∧ fr[3]? = some (iv (l.length - n : Nat)) ∧
    ∃ t, h' = some [.sl nu u.length cu (u.map bv), .sl nl l.length cl (l.map iv), iv k] :: t) l.length ?_ ?_
  · simp only [wk_skip, wk_reg, wk_dreg, wk_frz, wk_seq, wk_cond, wk_block, wk_loop, wk_exit, wk_scope, wk_ret, pk_nil, pk_seqN, pk_seqE, pk_seqR, pk_blkN, pk_blkE, pk_blkR, pk_invN, pk_invE, pk_invR, wo_nil, wo_cons, wd_nil, wd_cons, want_n, want_s, put_s, put_n, I.cls, List.map, opv_t, opv_i, opv_b, opv_n, opv_f, opv_s, ev_mv, ev_pick, ev_len, ev_lenR, ev_bin, ev_beqF, ev_beqT, ev_not, ev_conv, ev_ext, ev_mkfn, ev_faddr, ev_faddrF, ev_fieldF, ev_fieldT, ev_max, ev_min, ev_snilS, ev_snilR, ev_load1F, sb_lss, sb_leq, sb_gtr, sb_geq, sb_eql, sb_neq, sb_add, sb_sub, sb_mul, map_s, en_new, en_boxA, leaf_i, leaf_b, leaf_sl, leaf_ref, List.getElem?_set, List.length_set, List.length_map, List.length_append, List.getElem?_map, Option.map_some, Option.getD_some, ↓reduceIte, Nat.reduceLT, Nat.reduceEqDiff, Nat.zero_add, Nat.add_zero, decide_true, decide_false, Int.ofNat_lt, List.getElem?_cons_zero, List.getElem?_cons_succ, List.length_cons, List.length_nil, Nat.reduceAdd, Bool.not_true, Bool.not_false, Option.some.injEq, and_true, true_and, Bool.false_eq_true, Int.toNat_natCast, out_r, out_nm, pout_r, pout_nm, rs_n, rs_t, rs_c, one1, one2, one3, Option.bind_some, exists_eq_left', deep_eq, fz_lit, fz_sl, fz_fn0, fz_agg, fz_tup, mm_n, mm_c, ev_l1, ev_la, ew_1, ew_a, lk_0, lk_s, st_0, st_s, List.nil_append, List.cons_append, List.append_nil, List.drop_zero, List.drop_succ_cons, List.take_succ_cons, List.take_zero, List.take_nil, and_self, Nat.reduceLeDiff, Nat.le_refl, hd_n, hd_c, mw_n, mw_s, Option.map_none, rep_s, rep_0, bt_tf, bt_ff, bt_tt, bt_ft, ev_build, fp_0, fp_1, fp_a, spl_0, spl_s, Nat.mul_one, Nat.zero_mul, Nat.reduceMul, ev_iaddrPk, Int.reduceEq, true_or, or_true, or_self, hl', h0, Nat.sub_self]
    exact ⟨rfl, _, rfl⟩
  · rintro n fr _ ⟨hfl, hn, h1, h3, t, rfl⟩
    generalize hi : l.length - n = i at h3
    by_cases hlt : i < l.length
    · have hx := getE hlt
      have hw := wrapS hlt (by omega)
      obtain ⟨o1, o2, o3⟩ := hok i _ hx
      obtain ⟨m, hm⟩ : ∃ m : Nat, l[i] = (m : Int) := ⟨l[i].toNat, (Int.toNat_of_nonneg o1).symm⟩
      rw [hm] at hx o1 o2 o3
      simp only [Int.toNat_natCast] at o2
      have hmu := (List.getElem?_eq_some_iff.1 o2).1
      have e1 : ¬ (m : Int) < 0 := by omega
      have e2 : ¬ (u.length : Int) ≤ m := by omega
      have hle : i ≤ l.length := by omega
      simp only [wk_skip, wk_reg, wk_dreg, wk_frz, wk_seq, wk_cond, wk_block, wk_loop, wk_exit, wk_scope, wk_ret, pk_nil, pk_seqN, pk_seqE, pk_seqR, pk_blkN, pk_blkE, pk_blkR, pk_invN, pk_invE, pk_invR, wo_nil, wo_cons, wd_nil, wd_cons, want_n, want_s, put_s, put_n, I.cls, List.map, opv_t, opv_i, opv_b, opv_n, opv_f, opv_s, ev_mv, ev_pick, ev_len, ev_lenR, ev_bin, ev_beqF, ev_beqT, ev_not, ev_conv, ev_ext, ev_mkfn, ev_faddr, ev_faddrF, ev_fieldF, ev_fieldT, ev_max, ev_min, ev_snilS, ev_snilR, ev_load1F, sb_lss, sb_leq, sb_gtr, sb_geq, sb_eql, sb_neq, sb_add, sb_sub, sb_mul, map_s, en_new, en_boxA, leaf_i, leaf_b, leaf_sl, leaf_ref, List.getElem?_set, List.length_set, List.length_map, List.length_append, List.getElem?_map, Option.map_some, Option.getD_some, ↓reduceIte, Nat.reduceLT, Nat.reduceEqDiff, Nat.zero_add, Nat.add_zero, decide_true, decide_false, Int.ofNat_lt, List.getElem?_cons_zero, List.getElem?_cons_succ, List.length_cons, List.length_nil, Nat.reduceAdd, Bool.not_true, Bool.not_false, Option.some.injEq, and_true, true_and, Bool.false_eq_true, Int.toNat_natCast, out_r, out_nm, pout_r, pout_nm, rs_n, rs_t, rs_c, one1, one2, one3, Option.bind_some, exists_eq_left', deep_eq, fz_lit, fz_sl, fz_fn0, fz_agg, fz_tup, mm_n, mm_c, ev_l1, ev_la, ew_1, ew_a, lk_0, lk_s, st_0, st_s, List.nil_append, List.cons_append, List.append_nil, List.drop_zero, List.drop_succ_cons, List.take_succ_cons, List.take_zero, List.take_nil, and_self, Nat.reduceLeDiff, Nat.le_refl, hd_n, hd_c, mw_n, mw_s, Option.map_none, bt_tf, bt_ff, bt_tt, bt_ft, ev_build, fp_0, fp_1, fp_a, spl_0, spl_s, Nat.mul_one, Nat.zero_mul, Nat.reduceMul, ev_iaddrPk, Int.reduceEq, true_or, or_true, or_self, hi, hfl, h1, h3, hlt, hx, hw, ev_iaddr, e1, e2, hmu, o2, ev_slice, hle]
      obtain ⟨v, rfl, hcl⟩ := (p30 nl cl (l.take i) m (by simp; omega)).useD (by simp [AV.noRef, deep]) [] (some [.sl nu u.length cu (u.map bv), .sl nl l.length cl (l.map iv), iv k] :: (t ++ List.replicate 41 none))
      rw [List.length_take, Nat.min_eq_left hle, List.map_take] at hcl
      refine wcd_of hcl ?_
      simp only [wk_skip, wk_reg, wk_dreg, wk_frz, wk_seq, wk_cond, wk_block, wk_loop, wk_exit, wk_scope, wk_ret, pk_nil, pk_seqN, pk_seqE, pk_seqR, pk_blkN, pk_blkE, pk_blkR, pk_invN, pk_invE, pk_invR, wo_nil, wo_cons, wd_nil, wd_cons, want_n, want_s, put_s, put_n, I.cls, List.map, opv_t, opv_i, opv_b, opv_n, opv_f, opv_s, ev_mv, ev_pick, ev_len, ev_lenR, ev_bin, ev_beqF, ev_beqT, ev_not, ev_conv, ev_ext, ev_mkfn, ev_faddr, ev_faddrF, ev_fieldF, ev_fieldT, ev_max, ev_min, ev_snilS, ev_snilR, ev_load1F, sb_lss, sb_leq, sb_gtr, sb_geq, sb_eql, sb_neq, sb_add, sb_sub, sb_mul, map_s, en_new, en_boxA, leaf_i, leaf_b, leaf_sl, leaf_ref, List.getElem?_set, List.length_set, List.length_map, List.length_append, List.getElem?_map, Option.map_some, Option.getD_some, ↓reduceIte, Nat.reduceLT, Nat.reduceEqDiff, Nat.zero_add, Nat.add_zero, decide_true, decide_false, Int.ofNat_lt, List.getElem?_cons_zero, List.getElem?_cons_succ, List.length_cons, List.length_nil, Nat.reduceAdd, Bool.not_true, Bool.not_false, Option.some.injEq, and_true, true_and, Bool.false_eq_true, Int.toNat_natCast, out_r, out_nm, pout_r, pout_nm, rs_n, rs_t, rs_c, one1, one2, one3, Option.bind_some, exists_eq_left', deep_eq, fz_lit, fz_sl, fz_fn0, fz_agg, fz_tup, mm_n, mm_c, ev_l1, ev_la, ew_1, ew_a, lk_0, lk_s, st_0, st_s, List.nil_append, List.cons_append, List.append_nil, List.drop_zero, List.drop_succ_cons, List.take_succ_cons, List.take_zero, List.take_nil, and_self, Nat.reduceLeDiff, Nat.le_refl, hd_n, hd_c, mw_n, mw_s, Option.map_none, bt_tf, bt_ff, bt_tt, bt_ft, ev_build, fp_0, fp_1, fp_a, spl_0, spl_s, Nat.mul_one, Nat.zero_mul, Nat.reduceMul, ev_iaddrPk, Int.reduceEq, true_or, or_true, or_self, hi, hfl, h1, h3, hlt, hx, hw, o3]
      exact ⟨n - 1, by omega, by omega, by rw [show l.length - (n - 1) = i + 1 by omega], _, rfl⟩
    · simp only [wk_skip, wk_reg, wk_dreg, wk_frz, wk_seq, wk_cond, wk_block, wk_loop, wk_exit, wk_scope, wk_ret, pk_nil, pk_seqN, pk_seqE, pk_seqR, pk_blkN, pk_blkE, pk_blkR, pk_invN, pk_invE, pk_invR, wo_nil, wo_cons, wd_nil, wd_cons, want_n, want_s, put_s, put_n, I.cls, List.map, opv_t, opv_i, opv_b, opv_n, opv_f, opv_s, ev_mv, ev_pick, ev_len, ev_lenR, ev_bin, ev_beqF, ev_beqT, ev_not, ev_conv, ev_ext, ev_mkfn, ev_faddr, ev_faddrF, ev_fieldF, ev_fieldT, ev_max, ev_min, ev_snilS, ev_snilR, ev_load1F, sb_lss, sb_leq, sb_gtr, sb_geq, sb_eql, sb_neq, sb_add, sb_sub, sb_mul, map_s, en_new, en_boxA, leaf_i, leaf_b, leaf_sl, leaf_ref, List.getElem?_set, List.length_set, List.length_map, List.length_append, List.getElem?_map, Option.map_some, Option.getD_some, ↓reduceIte, Nat.reduceLT, Nat.reduceEqDiff, Nat.zero_add, Nat.add_zero, decide_true, decide_false, Int.ofNat_lt, List.getElem?_cons_zero, List.getElem?_cons_succ, List.length_cons, List.length_nil, Nat.reduceAdd, Bool.not_true, Bool.not_false, Option.some.injEq, and_true, true_and, Bool.false_eq_true, Int.toNat_natCast, out_r, out_nm, pout_r, pout_nm, rs_n, rs_t, rs_c, one1, one2, one3, Option.bind_some, exists_eq_left', deep_eq, fz_lit, fz_sl, fz_fn0, fz_agg, fz_tup, mm_n, mm_c, ev_l1, ev_la, ew_1, ew_a, lk_0, lk_s, st_0, st_s, List.nil_append, List.cons_append, List.append_nil, List.drop_zero, List.drop_succ_cons, List.take_succ_cons, List.take_zero, List.take_nil, and_self, Nat.reduceLeDiff, Nat.le_refl, hd_n, hd_c, mw_n, mw_s, Option.map_none, bt_tf, bt_ff, bt_tt, bt_ft, ev_build, fp_0, fp_1, fp_a, spl_0, spl_s, Nat.mul_one, Nat.zero_mul, Nat.reduceMul, ev_iaddrPk, Int.reduceEq, true_or, or_true, or_self, hi, hfl, h1, h3, hlt]
end Go.Ev
