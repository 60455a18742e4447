/- What the disk's functions compute: finish, whatever the fates; Crash. -/
import Derived.Test.YtpjjloaphlaokaaFdM
set_option linter.unusedVariables false
set_option linter.unusedSimpArgs false
set_option maxRecDepth 20000
namespace Go.Ev
open Go Go.Proofs

/-- Which of the four a kind stands for. -/
theorem kinds (K : Int) : ∃ kk : Nat, kk < 4 ∧ (∀ N t d row, actP K N t d row = actP kk N t d row) ∧ decide ((kk : Int) = 0) = decide (K = 0) ∧
    ((decide (K < 0) = true ∧ decide (4 ≤ K) = false ∧ kk = 1) ∨ (decide (K < 0) = false ∧ decide (4 ≤ K) = true ∧ kk = 1) ∨ (decide (K < 0) = false ∧ decide (4 ≤ K) = false ∧ K = kk)) := by
  by_cases h1 : K < 0
  · refine ⟨1, by omega, fun N t d row => ?_, ?_, .inl ⟨decT h1, decF (by omega), rfl⟩⟩
    · simp only [actP]
      rw [if_neg (by omega), if_neg (by omega), if_neg (by omega), if_neg (by omega), if_neg (by omega), if_neg (by omega)]
    · rw [decF (by omega), decF (by omega)]
  · by_cases h2 : 4 ≤ K
    · refine ⟨1, by omega, fun N t d row => ?_, ?_, .inr (.inl ⟨decF h1, decT h2, rfl⟩)⟩
      · simp only [actP]
        rw [if_neg (by omega), if_neg (by omega), if_neg (by omega), if_neg (by omega), if_neg (by omega), if_neg (by omega)]
      · rw [decF (by omega), decF (by omega)]
    · have e : K = (K.toNat : Int) := by omega
      refine ⟨K.toNat, by omega, fun N t d row => by rw [← e], by rw [← e], .inr (.inr ⟨decF h1, decF h2, e⟩)⟩

theorem wc_exP {tab : FuncId → Option AFn} {ks : List It} {Q : Ex → List AV → Heap → Prop} {fr : List AV} {h : Heap} {α β : Type} {F : α → β → Heap} {P : α → β → Prop} {f : FuncId} {args : List AV} {d : Option Nat} {l : List AOp} {v : AV} (hc : ∃ a b, Cl tab f args h v (F a b) ∧ P a b) (hw : ∀ a b, P a b → WO tab l ks Q (putA fr d v) (F a b)) : WC tab f args d l ks Q fr h := by
  obtain ⟨a, b, hz, hp⟩ := hc
  exact wc_of hz (hw a b hp)
theorem acts_at {kk : Nat} (hk : kk < 4) : ([.fn 41 [], .fn 42 [], .fn 43 [], .fn 44 []] : List AV)[kk]? = some (.fn (41 + kk) []) := by
  match kk, hk with
  | 0, _ => rfl
  | 1, _ => rfl
  | 2, _ => rfl
  | 3, _ => rfl
set_option maxHeartbeats 3200000 in
theorem c29 (h0 : Heap) {D : Dsk} (hok : DOk D) (cc : Option Nat) (nq : Bool) (cq : Option Nat) (fF : Nat) (caps : List AV) (fs : List Ft)
    (hfate : ∀ (n : Nat) (T : Heap), ∃ Z, Cl tab fF (iv n :: caps) (h0 ++ T) (.agg [iv (ftOf fs n).1, iv (ftOf fs n).2]) (h0 ++ (T ++ Z))) :
    ∃ r h', (∃ (p : Nat) (T : Heap) (hrow : List AV), r = .agg [iv D.sz, .ref (h0.length + p) 0 D.cells.length 1 none, .sl true 0 (some 0) []] ∧ h' = h0 ++ T ∧ look T p = some hrow ∧ Row5 h0 T hrow (finP fs (D.ts.map pw) 0 true (D.cells.map bs))) ∧
      Cl tab 29 [.agg [iv D.sz, .sl false D.cells.length cc D.cells, .sl nq D.ts.length cq (flat D.ts)], .fn fF caps] h0 r h' := by
  obtain ⟨sz, cells, ts⟩ := D
  have hc1 := hok.c1
  have hc0 := hok.c0
  have hq1 := hok.q1
  have hts := hok.ts
  have hs2 := hok.s2
  have hcd := hok.cells
  simp only at hc1 hc0 hq1 hts hs2 hcd ⊢
  refine sh2 _ tab29 rfl (by decide) fun fr hfl h0' h1 => ?_
  have hl' : fr.length = 61 := hfl
  simp only [A29, wk_skip, wk_reg, wk_dreg, wk_frz, wk_seq, wk_cond, wk_block, wk_loop, wk_exit, wk_scope, wk_ret, pk_nil, pk_seqN, pk_seqE, pk_seqR, pk_blkN, pk_blkE, pk_blkR, pk_invN, pk_invE, pk_invR, wo_nil, wo_cons, wd_nil, wd_cons, want_n, want_s, put_s, put_n, I.cls, List.map, opv_t, opv_i, opv_b, opv_n, opv_f, opv_s, ev_mv, ev_pick, ev_len, ev_lenR, ev_bin, ev_beqF, ev_beqT, ev_not, ev_conv, ev_ext, ev_mkfn, ev_faddr, ev_faddrF, ev_fieldF, ev_fieldT, ev_max, ev_min, ev_snilS, ev_snilR, ev_load1F, sb_lss, sb_leq, sb_gtr, sb_geq, sb_eql, sb_neq, sb_add, sb_sub, sb_mul, map_s, en_new, en_boxA, leaf_i, leaf_b, leaf_sl, leaf_ref, List.getElem?_set, List.length_set, List.length_map, List.length_append, List.getElem?_map, Option.map_some, Option.getD_some, ↓reduceIte, Nat.reduceLT, Nat.reduceEqDiff, Nat.zero_add, Nat.add_zero, decide_true, decide_false, Int.ofNat_lt, List.getElem?_cons_zero, List.getElem?_cons_succ, List.length_cons, List.length_nil, Nat.reduceAdd, Bool.not_true, Bool.not_false, Option.some.injEq, and_true, true_and, Bool.false_eq_true, Int.toNat_natCast, out_r, out_nm, pout_r, pout_nm, rs_n, rs_t, rs_c, one1, one2, one3, Option.bind_some, exists_eq_left', deep_eq, fz_lit, fz_sl, fz_fn0, fz_agg, fz_tup, mm_n, mm_c, ev_l1, ev_la, ew_1, ew_a, lk_0, lk_s, st_0, st_s, List.nil_append, List.cons_append, List.append_nil, List.drop_zero, List.drop_succ_cons, List.take_succ_cons, List.take_zero, List.take_nil, and_self, Nat.reduceLeDiff, Nat.le_refl, hd_n, hd_c, e3_n, e3_s, e3_a, mw_s, Option.map_none, rep_s, rep_0, bt_tf, bt_ff, bt_tt, bt_ft, ev_build, fp_0, fp_1, fp_a, spl_0, spl_s, Nat.mul_one, Nat.zero_mul, Nat.reduceMul, ev_iaddrPk, Int.reduceEq, true_or, or_true, or_self, hl', h0', h1, look_at, look_at0, set_at, set_at0, List.append_assoc]
  refine wc_of (c37 _ cc cells (by intro e; rw [e] at hc0; simp at hc0) hc1) ?_
  simp only [wk_skip, wk_reg, wk_dreg, wk_frz, wk_seq, wk_cond, wk_block, wk_loop, wk_exit, wk_scope, wk_ret, pk_nil, pk_seqN, pk_seqE, pk_seqR, pk_blkN, pk_blkE, pk_blkR, pk_invN, pk_invE, pk_invR, wo_nil, wo_cons, wd_nil, wd_cons, want_n, want_s, put_s, put_n, I.cls, List.map, opv_t, opv_i, opv_b, opv_n, opv_f, opv_s, ev_mv, ev_pick, ev_len, ev_lenR, ev_bin, ev_beqF, ev_beqT, ev_not, ev_conv, ev_ext, ev_mkfn, ev_faddr, ev_faddrF, ev_fieldF, ev_fieldT, ev_max, ev_min, ev_snilS, ev_snilR, ev_load1F, sb_lss, sb_leq, sb_gtr, sb_geq, sb_eql, sb_neq, sb_add, sb_sub, sb_mul, map_s, en_new, en_boxA, leaf_i, leaf_b, leaf_sl, leaf_ref, List.getElem?_set, List.length_set, List.length_map, List.length_append, List.getElem?_map, Option.map_some, Option.getD_some, ↓reduceIte, Nat.reduceLT, Nat.reduceEqDiff, Nat.zero_add, Nat.add_zero, decide_true, decide_false, Int.ofNat_lt, List.getElem?_cons_zero, List.getElem?_cons_succ, List.length_cons, List.length_nil, Nat.reduceAdd, Bool.not_true, Bool.not_false, Option.some.injEq, and_true, true_and, Bool.false_eq_true, Int.toNat_natCast, out_r, out_nm, pout_r, pout_nm, rs_n, rs_t, rs_c, one1, one2, one3, Option.bind_some, exists_eq_left', deep_eq, fz_lit, fz_sl, fz_fn0, fz_agg, fz_tup, mm_n, mm_c, ev_l1, ev_la, ew_1, ew_a, lk_0, lk_s, st_0, st_s, List.nil_append, List.cons_append, List.append_nil, List.drop_zero, List.drop_succ_cons, List.take_succ_cons, List.take_zero, List.take_nil, and_self, Nat.reduceLeDiff, Nat.le_refl, hd_n, hd_c, e3_n, e3_s, e3_a, mw_s, Option.map_none, rep_s, rep_0, bt_tf, bt_ff, bt_tt, bt_ft, ev_build, fp_0, fp_1, fp_a, spl_0, spl_s, Nat.mul_one, Nat.zero_mul, Nat.reduceMul, ev_iaddrPk, Int.reduceEq, true_or, or_true, or_self, hl', h0', h1, look_at, look_at0, set_at, set_at0, List.append_assoc]
  refine wc_pu p39 rfl ?_
  rintro w rfl
  simp only [wk_skip, wk_reg, wk_dreg, wk_frz, wk_seq, wk_cond, wk_block, wk_loop, wk_exit, wk_scope, wk_ret, pk_nil, pk_seqN, pk_seqE, pk_seqR, pk_blkN, pk_blkE, pk_blkR, pk_invN, pk_invE, pk_invR, wo_nil, wo_cons, wd_nil, wd_cons, want_n, want_s, put_s, put_n, I.cls, List.map, opv_t, opv_i, opv_b, opv_n, opv_f, opv_s, ev_mv, ev_pick, ev_len, ev_lenR, ev_bin, ev_beqF, ev_beqT, ev_not, ev_conv, ev_ext, ev_mkfn, ev_faddr, ev_faddrF, ev_fieldF, ev_fieldT, ev_max, ev_min, ev_snilS, ev_snilR, ev_load1F, sb_lss, sb_leq, sb_gtr, sb_geq, sb_eql, sb_neq, sb_add, sb_sub, sb_mul, map_s, en_new, en_boxA, leaf_i, leaf_b, leaf_sl, leaf_ref, List.getElem?_set, List.length_set, List.length_map, List.length_append, List.getElem?_map, Option.map_some, Option.getD_some, ↓reduceIte, Nat.reduceLT, Nat.reduceEqDiff, Nat.zero_add, Nat.add_zero, decide_true, decide_false, Int.ofNat_lt, List.getElem?_cons_zero, List.getElem?_cons_succ, List.length_cons, List.length_nil, Nat.reduceAdd, Bool.not_true, Bool.not_false, Option.some.injEq, and_true, true_and, Bool.false_eq_true, Int.toNat_natCast, out_r, out_nm, pout_r, pout_nm, rs_n, rs_t, rs_c, one1, one2, one3, Option.bind_some, exists_eq_left', deep_eq, fz_lit, fz_sl, fz_fn0, fz_agg, fz_tup, mm_n, mm_c, ev_l1, ev_la, ew_1, ew_a, lk_0, lk_s, st_0, st_s, List.nil_append, List.cons_append, List.append_nil, List.drop_zero, List.drop_succ_cons, List.take_succ_cons, List.take_zero, List.take_nil, and_self, Nat.reduceLeDiff, Nat.le_refl, hd_n, hd_c, e3_n, e3_s, e3_a, mw_s, Option.map_none, rep_s, rep_0, bt_tf, bt_ff, bt_tt, bt_ft, ev_build, fp_0, fp_1, fp_a, spl_0, spl_s, Nat.mul_one, Nat.zero_mul, Nat.reduceMul, ev_iaddrPk, Int.reduceEq, true_or, or_true, or_self, hl', h0', h1, look_at, look_at0, set_at, set_at0, List.append_assoc]
  have hn : cells.length < 9223372036854775807 := by omega
  obtain ⟨F, hF⟩ : ∃ F, finP fs (ts.map pw) 0 true (cells.map bs) = F := ⟨_, rfl⟩
  rw [hF]
  refine wl_of (fun k fr h' => fr.length = 61 ∧ k ≤ ts.length ∧ fr[1]? = some (.fn fF caps) ∧ fr[2]? = some (.ptr h0.length 0) ∧ fr[4]? = some (.ptr (h0.length + 1) 0) ∧ fr[5]? = some (.ref (h0.length + 3) 0 cells.length 1 none) ∧ fr[6]? = some (.ptr (h0.length + 4) 0) ∧
      fr[17]? = some (.sl nq ts.length cq (flat ts)) ∧ fr[18]? = some (iv ts.length) ∧ fr[19]? = some (iv (ts.length - k : Nat)) ∧
      ∃ (T : Heap) (c : Nat) (whole : Bool) (hrow : List AV) (row : List By), fr[7]? = some (iv c) ∧ c ≤ ts.length - k ∧ fr[8]? = some (bv whole) ∧ h' = h0 ++ T ∧ look T 0 = some [iv sz, .sl false cells.length cc cells, .sl nq ts.length cq (flat ts)] ∧ look T 1 = some [iv 0, .sl true 0 (some 0) [], .sl true 0 (some 0) []] ∧
        look T 3 = some hrow ∧ look T 4 = some [.fn 41 [], .fn 42 [], .fn 43 [], .fn 44 []] ∧ hrow.length = cells.length ∧ Row5 h0 T hrow row ∧ (∀ e ∈ row, e.length ≤ sz) ∧ finP fs ((ts.map pw).drop (ts.length - k)) c whole row = F) ts.length ?_ ?_
  · simp only [wk_skip, wk_reg, wk_dreg, wk_frz, wk_seq, wk_cond, wk_block, wk_loop, wk_exit, wk_scope, wk_ret, pk_nil, pk_seqN, pk_seqE, pk_seqR, pk_blkN, pk_blkE, pk_blkR, pk_invN, pk_invE, pk_invR, wo_nil, wo_cons, wd_nil, wd_cons, want_n, want_s, put_s, put_n, I.cls, List.map, opv_t, opv_i, opv_b, opv_n, opv_f, opv_s, ev_mv, ev_pick, ev_len, ev_lenR, ev_bin, ev_beqF, ev_beqT, ev_not, ev_conv, ev_ext, ev_mkfn, ev_faddr, ev_faddrF, ev_fieldF, ev_fieldT, ev_max, ev_min, ev_snilS, ev_snilR, ev_load1F, sb_lss, sb_leq, sb_gtr, sb_geq, sb_eql, sb_neq, sb_add, sb_sub, sb_mul, map_s, en_new, en_boxA, leaf_i, leaf_b, leaf_sl, leaf_ref, List.getElem?_set, List.length_set, List.length_map, List.length_append, List.getElem?_map, Option.map_some, Option.getD_some, ↓reduceIte, Nat.reduceLT, Nat.reduceEqDiff, Nat.zero_add, Nat.add_zero, decide_true, decide_false, Int.ofNat_lt, List.getElem?_cons_zero, List.getElem?_cons_succ, List.length_cons, List.length_nil, Nat.reduceAdd, Bool.not_true, Bool.not_false, Option.some.injEq, and_true, true_and, Bool.false_eq_true, Int.toNat_natCast, out_r, out_nm, pout_r, pout_nm, rs_n, rs_t, rs_c, one1, one2, one3, Option.bind_some, exists_eq_left', deep_eq, fz_lit, fz_sl, fz_fn0, fz_agg, fz_tup, mm_n, mm_c, ev_l1, ev_la, ew_1, ew_a, lk_0, lk_s, st_0, st_s, List.nil_append, List.cons_append, List.append_nil, List.drop_zero, List.drop_succ_cons, List.take_succ_cons, List.take_zero, List.take_nil, and_self, Nat.reduceLeDiff, Nat.le_refl, hd_n, hd_c, e3_n, e3_s, e3_a, mw_s, Option.map_none, rep_s, rep_0, bt_tf, bt_ff, bt_tt, bt_ft, ev_build, fp_0, fp_1, fp_a, spl_0, spl_s, Nat.mul_one, Nat.zero_mul, Nat.reduceMul, ev_iaddrPk, Int.reduceEq, true_or, or_true, or_self, hl', h1, Nat.sub_self]
    refine ⟨rfl, _, 0, true, cells, cells.map bs, rfl, Nat.le_refl _, rfl, rfl, rfl, rfl, rfl, rfl, rfl, ⟨by simp, fun i x e h1 h2 => ?_⟩, fun e he => ?_, hF⟩
    · rw [List.getElem?_map, h1] at h2
      cases h2
      exact .inl (hcd x (List.mem_of_getElem? h1)).same.1
    · obtain ⟨x, hx, rfl⟩ := List.mem_map.1 he
      exact (hcd x hx).same.2
  · rintro k fr _ ⟨hfl, hk, h1, h2, h4, h5, h6, h17, h18, h19, T, c, whole, hrow, row, h7, hc, h8, rfl, t0, t1, t3, t4, hhl, hrow5, hrb, hfin⟩
    generalize hi : ts.length - k = i at *
    have p0 := fun X => look_pre t0 X
    have p4 := fun X => look_pre t4 X
    have p1 := fun X => look_pre t1 X
    have p3 := fun X => look_pre t3 X
    by_cases hlt : i < ts.length
    · have hfa := fun g b c => @flat_iaddr g b ts c i hlt
      have hfl2 := fun g => @flat_load g ts i hlt
      have hw := wrapS hlt (by omega)
      have hd := decT hlt
      have hm := hts ts[i] (List.getElem_mem hlt)
      have hdrop : (ts.map pw).drop i = pw ts[i] :: (ts.map pw).drop (i + 1) := by
        rw [List.drop_eq_getElem_cons (by simpa using hlt)]
        simp
      obtain ⟨x, hx⟩ : ∃ x, ts[i] = x := ⟨_, rfl⟩
      obtain ⟨f, t, d⟩ := x
      rw [hx] at hm hdrop
      simp only at hm
      rw [hdrop] at hfin
      obtain ⟨⟨nl, cap, bts, hnl, hbl, rfl⟩, hr⟩ := hm
      cases f with
      | true =>
        cases whole with
        | true =>
          simp only [wk_skip, wk_reg, wk_dreg, wk_frz, wk_seq, wk_cond, wk_block, wk_loop, wk_exit, wk_scope, wk_ret, pk_nil, pk_seqN, pk_seqE, pk_seqR, pk_blkN, pk_blkE, pk_blkR, pk_invN, pk_invE, pk_invR, wo_nil, wo_cons, wd_nil, wd_cons, want_n, want_s, put_s, put_n, I.cls, List.map, opv_t, opv_i, opv_b, opv_n, opv_f, opv_s, ev_mv, ev_pick, ev_len, ev_lenR, ev_bin, ev_beqF, ev_beqT, ev_not, ev_conv, ev_ext, ev_mkfn, ev_faddr, ev_faddrF, ev_fieldF, ev_fieldT, ev_max, ev_min, ev_snilS, ev_snilR, ev_load1F, sb_lss, sb_leq, sb_gtr, sb_geq, sb_eql, sb_neq, sb_add, sb_sub, sb_mul, map_s, en_new, en_boxA, leaf_i, leaf_b, leaf_sl, leaf_ref, List.getElem?_set, List.length_set, List.length_map, List.length_append, List.getElem?_map, Option.map_some, Option.getD_some, ↓reduceIte, Nat.reduceLT, Nat.reduceEqDiff, Nat.zero_add, Nat.add_zero, decide_true, decide_false, Int.ofNat_lt, List.getElem?_cons_zero, List.getElem?_cons_succ, List.length_cons, List.length_nil, Nat.reduceAdd, Bool.not_true, Bool.not_false, Option.some.injEq, and_true, true_and, Bool.false_eq_true, Int.toNat_natCast, out_r, out_nm, pout_r, pout_nm, rs_n, rs_t, rs_c, one1, one2, one3, Option.bind_some, exists_eq_left', deep_eq, fz_lit, fz_sl, fz_fn0, fz_agg, fz_tup, mm_n, mm_c, ev_l1, ev_la, ew_1, ew_a, lk_0, lk_s, st_0, st_s, List.nil_append, List.cons_append, List.append_nil, List.drop_zero, List.drop_succ_cons, List.take_succ_cons, List.take_zero, List.take_nil, and_self, Nat.reduceLeDiff, Nat.le_refl, hd_n, hd_c, e3_n, e3_s, e3_a, mw_s, Option.map_none, bt_tf, bt_ff, bt_tt, bt_ft, ev_build, fp_0, fp_1, fp_a, spl_0, spl_s, Nat.mul_one, Nat.zero_mul, Nat.reduceMul, ev_iaddrPk, Int.reduceEq, true_or, or_true, or_self, hfl, h1, h2, h4, h5, h6, h7, h8, h17, h18, h19, hd, hlt, hfa, hfl2, hx, hw, look_at, look_at0, set_at, set_at0, List.append_assoc]
          exact ⟨k - 1, by omega, by omega, by rw [show ts.length - (k - 1) = i + 1 by omega], _, c, true, hrow, row, rfl, by omega, rfl, rfl, p0 _, p1 _, p3 _, p4 _, hhl, hrow5.pre _, hrb, by rw [show ts.length - (k - 1) = i + 1 by omega]; exact hfin⟩
        | false =>
          have hfr : row = F := hfin
          subst hfr
          simp only [wk_skip, wk_reg, wk_dreg, wk_frz, wk_seq, wk_cond, wk_block, wk_loop, wk_exit, wk_scope, wk_ret, pk_nil, pk_seqN, pk_seqE, pk_seqR, pk_blkN, pk_blkE, pk_blkR, pk_invN, pk_invE, pk_invR, wo_nil, wo_cons, wd_nil, wd_cons, want_n, want_s, put_s, put_n, I.cls, List.map, opv_t, opv_i, opv_b, opv_n, opv_f, opv_s, ev_mv, ev_pick, ev_len, ev_lenR, ev_bin, ev_beqF, ev_beqT, ev_not, ev_conv, ev_ext, ev_mkfn, ev_faddr, ev_faddrF, ev_fieldF, ev_fieldT, ev_max, ev_min, ev_snilS, ev_snilR, ev_load1F, sb_lss, sb_leq, sb_gtr, sb_geq, sb_eql, sb_neq, sb_add, sb_sub, sb_mul, map_s, en_new, en_boxA, leaf_i, leaf_b, leaf_sl, leaf_ref, List.getElem?_set, List.length_set, List.length_map, List.length_append, List.getElem?_map, Option.map_some, Option.getD_some, ↓reduceIte, Nat.reduceLT, Nat.reduceEqDiff, Nat.zero_add, Nat.add_zero, decide_true, decide_false, Int.ofNat_lt, List.getElem?_cons_zero, List.getElem?_cons_succ, List.length_cons, List.length_nil, Nat.reduceAdd, Bool.not_true, Bool.not_false, Option.some.injEq, and_true, true_and, Bool.false_eq_true, Int.toNat_natCast, out_r, out_nm, pout_r, pout_nm, rs_n, rs_t, rs_c, one1, one2, one3, Option.bind_some, exists_eq_left', deep_eq, fz_lit, fz_sl, fz_fn0, fz_agg, fz_tup, mm_n, mm_c, ev_l1, ev_la, ew_1, ew_a, lk_0, lk_s, st_0, st_s, List.nil_append, List.cons_append, List.append_nil, List.drop_zero, List.drop_succ_cons, List.take_succ_cons, List.take_zero, List.take_nil, and_self, Nat.reduceLeDiff, Nat.le_refl, hd_n, hd_c, e3_n, e3_s, e3_a, mw_s, Option.map_none, bt_tf, bt_ff, bt_tt, bt_ft, ev_build, fp_0, fp_1, fp_a, spl_0, spl_s, Nat.mul_one, Nat.zero_mul, Nat.reduceMul, ev_iaddrPk, Int.reduceEq, true_or, or_true, or_self, hfl, h1, h2, h4, h5, h6, h7, h8, h17, h18, h19, hd, hlt, hfa, hfl2, hx, hw, p0, p1, look_at, look_at0, set_at, set_at0, List.append_assoc]
          rw [look_set_eq (look_lt (p1 _))]
          exact ⟨_, rfl, 3, _, hrow, rfl, rfl, (look_set_ne (by omega)).trans (p3 _), (hrow5.pre _).setk 1 (by omega) _⟩
      | false =>
        obtain ⟨hr0, hr1⟩ := hr rfl
        obtain ⟨tn, rfl⟩ : ∃ tn : Nat, t = tn := ⟨t.toNat, by omega⟩
        have htn : tn < cells.length := by omega
        have hbt : bs (.sl nl bts.length cap (bts.map uv)) = bts := bs_same ⟨nl, cap, hnl, rfl⟩
        simp only [pw, finP, Int.toNat_natCast, hbt] at hfin
        simp only [wk_skip, wk_reg, wk_dreg, wk_frz, wk_seq, wk_cond, wk_block, wk_loop, wk_exit, wk_scope, wk_ret, pk_nil, pk_seqN, pk_seqE, pk_seqR, pk_blkN, pk_blkE, pk_blkR, pk_invN, pk_invE, pk_invR, wo_nil, wo_cons, wd_nil, wd_cons, want_n, want_s, put_s, put_n, I.cls, List.map, opv_t, opv_i, opv_b, opv_n, opv_f, opv_s, ev_mv, ev_pick, ev_len, ev_lenR, ev_bin, ev_beqF, ev_beqT, ev_not, ev_conv, ev_ext, ev_mkfn, ev_faddr, ev_faddrF, ev_fieldF, ev_fieldT, ev_max, ev_min, ev_snilS, ev_snilR, ev_load1F, sb_lss, sb_leq, sb_gtr, sb_geq, sb_eql, sb_neq, sb_add, sb_sub, sb_mul, map_s, en_new, en_boxA, leaf_i, leaf_b, leaf_sl, leaf_ref, List.getElem?_set, List.length_set, List.length_map, List.length_append, List.getElem?_map, Option.map_some, Option.getD_some, ↓reduceIte, Nat.reduceLT, Nat.reduceEqDiff, Nat.zero_add, Nat.add_zero, decide_true, decide_false, Int.ofNat_lt, List.getElem?_cons_zero, List.getElem?_cons_succ, List.length_cons, List.length_nil, Nat.reduceAdd, Bool.not_true, Bool.not_false, Option.some.injEq, and_true, true_and, Bool.false_eq_true, Int.toNat_natCast, out_r, out_nm, pout_r, pout_nm, rs_n, rs_t, rs_c, one1, one2, one3, Option.bind_some, exists_eq_left', deep_eq, fz_lit, fz_sl, fz_fn0, fz_agg, fz_tup, mm_n, mm_c, ev_l1, ev_la, ew_1, ew_a, lk_0, lk_s, st_0, st_s, List.nil_append, List.cons_append, List.append_nil, List.drop_zero, List.drop_succ_cons, List.take_succ_cons, List.take_zero, List.take_nil, and_self, Nat.reduceLeDiff, Nat.le_refl, hd_n, hd_c, e3_n, e3_s, e3_a, mw_s, Option.map_none, bt_tf, bt_ff, bt_tt, bt_ft, ev_build, fp_0, fp_1, fp_a, spl_0, spl_s, Nat.mul_one, Nat.zero_mul, Nat.reduceMul, ev_iaddrPk, Int.reduceEq, true_or, or_true, or_self, hfl, h1, h2, h4, h5, h6, h7, h8, h17, h18, h19, hd, hlt, hfa, hfl2, hx, hw, look_at, look_at0, set_at, set_at0, List.append_assoc]
        obtain ⟨Z, hZ⟩ := hfate c (T ++ [some [.lit (.bool false), .lit (.int .i64 tn), .sl nl bts.length cap (bts.map uv)]])
        refine wc_of hZ ?_
        have hwc := wrapS (i := c) (n := 1000001) (by omega) (by omega)
        obtain ⟨K, N, hKN⟩ : ∃ K N, ftOf fs c = (K, N) := ⟨_, _, rfl⟩
        rw [hKN] at hfin
        simp only at hfin
        obtain ⟨kk, hkk, hact, hdone, hcase⟩ := kinds K
        rw [hact, ← hdone] at hfin
        have h5l : 5 ≤ T.length := look_lt t4
        have key : ∀ W : Heap, ∃ (hrow' : List AV) (Z' : Heap), Cl tab (41 + kk) [.ref (h0.length + 3) 0 cells.length 1 none, .agg [.lit (.bool false), iv tn, .sl nl bts.length cap (bts.map uv)], iv N] (h0 ++ (T ++ W)) (.tup []) (h0 ++ ((T ++ W).set 3 (some hrow') ++ Z')) ∧ (hrow'.length = cells.length ∧ Row5 h0 ((T ++ W).set 3 (some hrow') ++ Z') hrow' (actP kk N tn bts row)) := fun W =>
          cact h0 (T ++ W) cells.length hrow row kk hkk N tn nl cap bts (p3 W) (by simp; omega) (hrow5.pre W) hhl htn hnl (by omega) fun e he => by have := hrb e he; omega
        have hrb2 : ∀ e ∈ actP kk N tn bts row, e.length ≤ sz := actP_bound hrb hbl
        have hia := fun g => ev_iaddrP (g := g) (h0.length + 4) 0 4 kk 1 hkk
        have hga := acts_at hkk
        rcases hcase with ⟨d0, d4, rfl⟩ | ⟨d0, d4, rfl⟩ | ⟨d0, d4, rfl⟩ <;> cases whole
        all_goals
          simp only [wk_skip, wk_reg, wk_dreg, wk_frz, wk_seq, wk_cond, wk_block, wk_loop, wk_exit, wk_scope, wk_ret, pk_nil, pk_seqN, pk_seqE, pk_seqR, pk_blkN, pk_blkE, pk_blkR, pk_invN, pk_invE, pk_invR, wo_nil, wo_cons, wd_nil, wd_cons, want_n, want_s, put_s, put_n, I.cls, List.map, opv_t, opv_i, opv_b, opv_n, opv_f, opv_s, ev_mv, ev_pick, ev_len, ev_lenR, ev_bin, ev_beqF, ev_beqT, ev_not, ev_conv, ev_ext, ev_mkfn, ev_faddr, ev_faddrF, ev_fieldF, ev_fieldT, ev_max, ev_min, ev_snilS, ev_snilR, ev_load1F, sb_lss, sb_leq, sb_gtr, sb_geq, sb_eql, sb_neq, sb_add, sb_sub, sb_mul, map_s, en_new, en_boxA, leaf_i, leaf_b, leaf_sl, leaf_ref, List.getElem?_set, List.length_set, List.length_map, List.length_append, List.getElem?_map, Option.map_some, Option.getD_some, ↓reduceIte, Nat.reduceLT, Nat.reduceEqDiff, Nat.zero_add, Nat.add_zero, decide_true, decide_false, Int.ofNat_lt, List.getElem?_cons_zero, List.getElem?_cons_succ, List.length_cons, List.length_nil, Nat.reduceAdd, Bool.not_true, Bool.not_false, Option.some.injEq, and_true, true_and, Bool.false_eq_true, Int.toNat_natCast, out_r, out_nm, pout_r, pout_nm, rs_n, rs_t, rs_c, one1, one2, one3, Option.bind_some, exists_eq_left', deep_eq, fz_lit, fz_sl, fz_fn0, fz_agg, fz_tup, mm_n, mm_c, ev_l1, ev_la, ew_1, ew_a, lk_0, lk_s, st_0, st_s, List.nil_append, List.cons_append, List.append_nil, List.drop_zero, List.drop_succ_cons, List.take_succ_cons, List.take_zero, List.take_nil, and_self, Nat.reduceLeDiff, Nat.le_refl, hd_n, hd_c, e3_n, e3_s, e3_a, mw_s, Option.map_none, bt_tf, bt_ff, bt_tt, bt_ft, ev_build, fp_0, fp_1, fp_a, spl_0, spl_s, Nat.mul_one, Nat.zero_mul, Nat.reduceMul, ev_iaddrPk, Int.reduceEq, true_or, or_true, or_self, hfl, h1, h2, h4, h5, h6, h7, h8, h17, h18, h19, hd, hwc, hKN, d0, d4, p0, p4, hia, hga, look_at, look_at0, set_at, set_at0, List.append_assoc]
          refine wc_exP (key _) fun hrow' Z' hp => ?_
          obtain ⟨hp1, hp2⟩ := hp
          simp only [wk_skip, wk_reg, wk_dreg, wk_frz, wk_seq, wk_cond, wk_block, wk_loop, wk_exit, wk_scope, wk_ret, pk_nil, pk_seqN, pk_seqE, pk_seqR, pk_blkN, pk_blkE, pk_blkR, pk_invN, pk_invE, pk_invR, wo_nil, wo_cons, wd_nil, wd_cons, want_n, want_s, put_s, put_n, I.cls, List.map, opv_t, opv_i, opv_b, opv_n, opv_f, opv_s, ev_mv, ev_pick, ev_len, ev_lenR, ev_bin, ev_beqF, ev_beqT, ev_not, ev_conv, ev_ext, ev_mkfn, ev_faddr, ev_faddrF, ev_fieldF, ev_fieldT, ev_max, ev_min, ev_snilS, ev_snilR, ev_load1F, sb_lss, sb_leq, sb_gtr, sb_geq, sb_eql, sb_neq, sb_add, sb_sub, sb_mul, map_s, en_new, en_boxA, leaf_i, leaf_b, leaf_sl, leaf_ref, List.getElem?_set, List.length_set, List.length_map, List.length_append, List.getElem?_map, Option.map_some, Option.getD_some, ↓reduceIte, Nat.reduceLT, Nat.reduceEqDiff, Nat.zero_add, Nat.add_zero, decide_true, decide_false, Int.ofNat_lt, List.getElem?_cons_zero, List.getElem?_cons_succ, List.length_cons, List.length_nil, Nat.reduceAdd, Bool.not_true, Bool.not_false, Option.some.injEq, and_true, true_and, Bool.false_eq_true, Int.toNat_natCast, out_r, out_nm, pout_r, pout_nm, rs_n, rs_t, rs_c, one1, one2, one3, Option.bind_some, exists_eq_left', deep_eq, fz_lit, fz_sl, fz_fn0, fz_agg, fz_tup, mm_n, mm_c, ev_l1, ev_la, ew_1, ew_a, lk_0, lk_s, st_0, st_s, List.nil_append, List.cons_append, List.append_nil, List.drop_zero, List.drop_succ_cons, List.take_succ_cons, List.take_zero, List.take_nil, and_self, Nat.reduceLeDiff, Nat.le_refl, hd_n, hd_c, e3_n, e3_s, e3_a, mw_s, Option.map_none, bt_tf, bt_ff, bt_tt, bt_ft, ev_build, fp_0, fp_1, fp_a, spl_0, spl_s, Nat.mul_one, Nat.zero_mul, Nat.reduceMul, ev_iaddrPk, Int.reduceEq, true_or, or_true, or_self, hfl, h1, h2, h4, h5, h6, h7, h8, h17, h18, h19, hw]
          refine ⟨k - 1, by omega, by omega, by rw [show ts.length - (k - 1) = i + 1 by omega], _, c + 1, _, hrow', _, rfl, by omega, rfl, rfl, look_pre ((look_set_ne (by omega)).trans (p0 _)) _, look_pre ((look_set_ne (by omega)).trans (p1 _)) _, look_pre (look_set_eq (look_lt (p3 _))) _, look_pre ((look_set_ne (by omega)).trans (p4 _)) _, hp1, hp2, hrb2, ?_⟩
          rw [show ts.length - (k - 1) = i + 1 by omega]
          exact hfin
    · have hie : i = ts.length := by omega
      have hd := decF hlt
      have hfr : row = F := by rw [hie, List.drop_eq_nil_of_le (by simp)] at hfin; exact hfin
      subst hfr
      simp only [wk_skip, wk_reg, wk_dreg, wk_frz, wk_seq, wk_cond, wk_block, wk_loop, wk_exit, wk_scope, wk_ret, pk_nil, pk_seqN, pk_seqE, pk_seqR, pk_blkN, pk_blkE, pk_blkR, pk_invN, pk_invE, pk_invR, wo_nil, wo_cons, wd_nil, wd_cons, want_n, want_s, put_s, put_n, I.cls, List.map, opv_t, opv_i, opv_b, opv_n, opv_f, opv_s, ev_mv, ev_pick, ev_len, ev_lenR, ev_bin, ev_beqF, ev_beqT, ev_not, ev_conv, ev_ext, ev_mkfn, ev_faddr, ev_faddrF, ev_fieldF, ev_fieldT, ev_max, ev_min, ev_snilS, ev_snilR, ev_load1F, sb_lss, sb_leq, sb_gtr, sb_geq, sb_eql, sb_neq, sb_add, sb_sub, sb_mul, map_s, en_new, en_boxA, leaf_i, leaf_b, leaf_sl, leaf_ref, List.getElem?_set, List.length_set, List.length_map, List.length_append, List.getElem?_map, Option.map_some, Option.getD_some, ↓reduceIte, Nat.reduceLT, Nat.reduceEqDiff, Nat.zero_add, Nat.add_zero, decide_true, decide_false, Int.ofNat_lt, List.getElem?_cons_zero, List.getElem?_cons_succ, List.length_cons, List.length_nil, Nat.reduceAdd, Bool.not_true, Bool.not_false, Option.some.injEq, and_true, true_and, Bool.false_eq_true, Int.toNat_natCast, out_r, out_nm, pout_r, pout_nm, rs_n, rs_t, rs_c, one1, one2, one3, Option.bind_some, exists_eq_left', deep_eq, fz_lit, fz_sl, fz_fn0, fz_agg, fz_tup, mm_n, mm_c, ev_l1, ev_la, ew_1, ew_a, lk_0, lk_s, st_0, st_s, List.nil_append, List.cons_append, List.append_nil, List.drop_zero, List.drop_succ_cons, List.take_succ_cons, List.take_zero, List.take_nil, and_self, Nat.reduceLeDiff, Nat.le_refl, hd_n, hd_c, e3_n, e3_s, e3_a, mw_s, Option.map_none, bt_tf, bt_ff, bt_tt, bt_ft, ev_build, fp_0, fp_1, fp_a, spl_0, spl_s, Nat.mul_one, Nat.zero_mul, Nat.reduceMul, ev_iaddrPk, Int.reduceEq, true_or, or_true, or_self, hfl, h1, h2, h4, h5, h6, h7, h8, h17, h18, h19, hd, t0, t1, look_at, look_at0, set_at, set_at0, List.append_assoc]
      rw [look_set_eq (look_lt t1)]
      exact ⟨_, rfl, 3, _, hrow, rfl, rfl, (look_set_ne (by omega)).trans t3, hrow5.setk 1 (by omega) _⟩

/-- A row of fates. -/
def FtR (fs : List Ft) (x : AV) : Prop := ∃ (nl : Bool) (cap : Option Nat), x = .sl nl fs.length cap (fs.flatMap fun f => [iv f.1, iv f.2])
theorem ft_len (fs : List Ft) : (fs.flatMap fun f => [iv f.1, iv f.2]).length = fs.length * 2 := by
  induction fs with
  | nil => rfl
  | cons x r ih => simp only [List.flatMap_cons, List.length_append, ih]; simp; omega
theorem ft_at : ∀ (fs : List Ft) (i : Nat) (h : i < fs.length), ((fs.flatMap fun f => [iv f.1, iv f.2]).drop (i * 2)).take 2 = [iv fs[i].1, iv fs[i].2]
  | [], i, h => absurd h (by simp)
  | x :: r, 0, h => by simp
  | x :: r, i + 1, h => by
    have := ft_at r i (by simpa using h)
    simp only [List.flatMap_cons, List.getElem_cons_succ]
    rw [show (i + 1) * 2 = i * 2 + 2 by omega]
    simpa using this
theorem ft_load {g : Look} {fs : List Ft} {i : Nat} (h : i < fs.length) : evR g (.load true 2) [.fptr ((fs.flatMap fun f => [iv f.1, iv f.2]).drop (i * 2))] = some (.agg [iv fs[i].1, iv fs[i].2]) := by
  have h1 : 2 ≤ ((fs.flatMap fun f => [iv f.1, iv f.2]).drop (i * 2)).length := by rw [List.length_drop, ft_len]; omega
  simp only [evR, rdM]
  rw [if_pos h1, ft_at fs i h]
  rfl
/-- Crash's own function of fates. -/
theorem c32 (h : Heap) (o : Nat) (fs : List Ft) (nl : Bool) (cap : Option Nat) (n : Nat) (hl : look h o = some [.sl nl fs.length cap (fs.flatMap fun f => [iv f.1, iv f.2])]) : ∃ Z, Cl tab 32 [iv n, .ptr o 0] h (.agg [iv (ftOf fs n).1, iv (ftOf fs n).2]) (h ++ Z) := by
  obtain ⟨r, h', ⟨rfl, Z, rfl⟩, hc⟩ : ∃ r h', (r = .agg [iv (ftOf fs n).1, iv (ftOf fs n).2] ∧ ∃ Z, h' = h ++ Z) ∧ Cl tab 32 [iv n, .ptr o 0] h r h' := by
    refine sh2 (fun r h' => r = .agg [iv (ftOf fs n).1, iv (ftOf fs n).2] ∧ ∃ Z, h' = h ++ Z) tab32 rfl (by decide) fun fr hfl h0 h1 => ?_
    have hl' : fr.length = 13 := hfl
    have hl2 := look_pre hl
    by_cases hn : n < fs.length
    · have hd : decide ((fs.length : Int) ≤ (n : Int)) = false := decF (by omega)
      have hf : ftOf fs n = fs[n] := by simp [ftOf, List.getD, List.getElem?_eq_getElem hn]
      have hia := fun g => ev_iaddrN (g := g) nl fs.length n 2 cap (fs.flatMap fun f => [iv f.1, iv f.2]) (by omega) hn (ft_len fs)
      have hlo := fun g => ft_load (g := g) hn
      simp only [A32, wk_skip, wk_reg, wk_dreg, wk_frz, wk_seq, wk_cond, wk_block, wk_loop, wk_exit, wk_scope, wk_ret, pk_nil, pk_seqN, pk_seqE, pk_seqR, pk_blkN, pk_blkE, pk_blkR, pk_invN, pk_invE, pk_invR, wo_nil, wo_cons, wd_nil, wd_cons, want_n, want_s, put_s, put_n, I.cls, List.map, opv_t, opv_i, opv_b, opv_n, opv_f, opv_s, ev_mv, ev_pick, ev_len, ev_lenR, ev_bin, ev_beqF, ev_beqT, ev_not, ev_conv, ev_ext, ev_mkfn, ev_faddr, ev_faddrF, ev_fieldF, ev_fieldT, ev_max, ev_min, ev_snilS, ev_snilR, ev_load1F, sb_lss, sb_leq, sb_gtr, sb_geq, sb_eql, sb_neq, sb_add, sb_sub, sb_mul, map_s, en_new, en_boxA, leaf_i, leaf_b, leaf_sl, leaf_ref, List.getElem?_set, List.length_set, List.length_map, List.length_append, List.getElem?_map, Option.map_some, Option.getD_some, ↓reduceIte, Nat.reduceLT, Nat.reduceEqDiff, Nat.zero_add, Nat.add_zero, decide_true, decide_false, Int.ofNat_lt, List.getElem?_cons_zero, List.getElem?_cons_succ, List.length_cons, List.length_nil, Nat.reduceAdd, Bool.not_true, Bool.not_false, Option.some.injEq, and_true, true_and, Bool.false_eq_true, Int.toNat_natCast, out_r, out_nm, pout_r, pout_nm, rs_n, rs_t, rs_c, one1, one2, one3, Option.bind_some, exists_eq_left', deep_eq, fz_lit, fz_sl, fz_fn0, fz_agg, fz_tup, mm_n, mm_c, ev_l1, ev_la, ew_1, ew_a, lk_0, lk_s, st_0, st_s, List.nil_append, List.cons_append, List.append_nil, List.drop_zero, List.drop_succ_cons, List.take_succ_cons, List.take_zero, List.take_nil, and_self, Nat.reduceLeDiff, Nat.le_refl, hd_n, hd_c, e3_n, e3_s, e3_a, mw_s, Option.map_none, rep_s, rep_0, bt_tf, bt_ff, bt_tt, bt_ft, ev_build, fp_0, fp_1, fp_a, spl_0, spl_s, Nat.mul_one, Nat.zero_mul, Nat.reduceMul, ev_iaddrPk, Int.reduceEq, true_or, or_true, or_self, hl', h0, h1, hl2, look_at, look_at0, set_at, set_at0, ge_iff_le, hd, hia, hlo]
      rw [hf]
      exact ⟨rfl, _, rfl⟩
    · have hd : decide ((fs.length : Int) ≤ (n : Int)) = true := decT (by omega)
      have hf : ftOf fs n = (1, 0) := by simp [ftOf, List.getD, List.getElem?_eq_none (show fs.length ≤ n by omega)]
      simp only [A32, wk_skip, wk_reg, wk_dreg, wk_frz, wk_seq, wk_cond, wk_block, wk_loop, wk_exit, wk_scope, wk_ret, pk_nil, pk_seqN, pk_seqE, pk_seqR, pk_blkN, pk_blkE, pk_blkR, pk_invN, pk_invE, pk_invR, wo_nil, wo_cons, wd_nil, wd_cons, want_n, want_s, put_s, put_n, I.cls, List.map, opv_t, opv_i, opv_b, opv_n, opv_f, opv_s, ev_mv, ev_pick, ev_len, ev_lenR, ev_bin, ev_beqF, ev_beqT, ev_not, ev_conv, ev_ext, ev_mkfn, ev_faddr, ev_faddrF, ev_fieldF, ev_fieldT, ev_max, ev_min, ev_snilS, ev_snilR, ev_load1F, sb_lss, sb_leq, sb_gtr, sb_geq, sb_eql, sb_neq, sb_add, sb_sub, sb_mul, map_s, en_new, en_boxA, leaf_i, leaf_b, leaf_sl, leaf_ref, List.getElem?_set, List.length_set, List.length_map, List.length_append, List.getElem?_map, Option.map_some, Option.getD_some, ↓reduceIte, Nat.reduceLT, Nat.reduceEqDiff, Nat.zero_add, Nat.add_zero, decide_true, decide_false, Int.ofNat_lt, List.getElem?_cons_zero, List.getElem?_cons_succ, List.length_cons, List.length_nil, Nat.reduceAdd, Bool.not_true, Bool.not_false, Option.some.injEq, and_true, true_and, Bool.false_eq_true, Int.toNat_natCast, out_r, out_nm, pout_r, pout_nm, rs_n, rs_t, rs_c, one1, one2, one3, Option.bind_some, exists_eq_left', deep_eq, fz_lit, fz_sl, fz_fn0, fz_agg, fz_tup, mm_n, mm_c, ev_l1, ev_la, ew_1, ew_a, lk_0, lk_s, st_0, st_s, List.nil_append, List.cons_append, List.append_nil, List.drop_zero, List.drop_succ_cons, List.take_succ_cons, List.take_zero, List.take_nil, and_self, Nat.reduceLeDiff, Nat.le_refl, hd_n, hd_c, e3_n, e3_s, e3_a, mw_s, Option.map_none, rep_s, rep_0, bt_tf, bt_ff, bt_tt, bt_ft, ev_build, fp_0, fp_1, fp_a, spl_0, spl_s, Nat.mul_one, Nat.zero_mul, Nat.reduceMul, ev_iaddrPk, Int.reduceEq, true_or, or_true, or_self, hl', h0, h1, hl2, look_at, look_at0, set_at, set_at0, ge_iff_le, hd]
      rw [hf]
      exact ⟨rfl, _, rfl⟩
  exact ⟨Z, hc⟩
end Go.Ev
