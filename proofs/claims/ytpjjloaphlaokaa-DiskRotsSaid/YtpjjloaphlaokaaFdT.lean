/- What the disk's functions compute: Rot; Put called blind. -/
import Derived.Test.YtpjjloaphlaokaaFdR
set_option linter.unusedVariables false
set_option linter.unusedSimpArgs false
set_option maxRecDepth 20000
namespace Go.Ev
open Go Go.Proofs

/-- A function that is run on its own and answers with a row. -/
theorem clM_of {tab : FuncId → Option AFn} {f : FuncId} {af : AFn} {args : List AV} {m sz : Nat} {cap : Option Nat} {ys : List AV} (hf : tab f = some af) (hx : af.ext = none) (hl : ys.length = m * sz) (hlit : ys.all AV.isLit = true)
    (hw : ∀ fr, fr = args ++ List.replicate (af.ntmps - args.length) (.lit undef) → WK tab af.body [] (Out' af.res fun v h => ∃ o, v = .ref o 0 m sz cap ∧ look h o = some ys) fr []) : ClM tab f args m sz cap ys := by
  obtain ⟨n, ex, fr, h1, e, q⟩ := wp_sound _ _ _ _ (wp_wk (hw _ rfl))
  refine ⟨n, af, hf, ?_⟩
  have key : ∀ vs o, evRes (look h1) fr af.res = some vs → oneOf vs = .ref o 0 m sz cap → look h1 o = some ys → (∀ id, ex ≠ .exit id) → mkRun (evC tab n) af args = some (m, sz, cap, ys) := by
    intro vs o q1 q2 q3 q4
    unfold mkRun
    rw [if_neg (by rw [hx]; simp)]
    have hr : runFn (evC tab n) { af with isPure := false } (look []) args [] = some (.ref o 0 m sz cap, h1) := by
      unfold runFn
      simp only [Bool.false_eq_true, if_false, e]
      cases ex with
      | exit id => exact absurd rfl (q4 id)
      | normal => simp only [q1, Option.map_some, q2]
      | ret => simp only [q1, Option.map_some, q2]
    rw [hr]
    simp only [q3]
    rw [if_pos ⟨hl, hlit⟩]
  cases ex with
  | exit id => cases q
  | normal => obtain ⟨vs, q1, o, q2, q3⟩ := q; exact key vs o q1 q2 q3 fun id e => by cases e
  | ret => obtain ⟨vs, q1, o, q2, q3⟩ := q; exact key vs o q1 q2 q3 fun id e => by cases e
theorem m28 {d : By} {cl : Option Nat} (hd : d ≠ []) (hb : d.length ≤ 1000000) : ClM tab 28 [.sl false d.length cl (d.map uv)] d.length 1 none (d.map uv) := by
  have hp : d.length ≠ 0 := fun e => hd (List.length_eq_zero_iff.1 e)
  refine clM_of tab28 rfl (by simp) (List.all_eq_true.2 fun x hx => by obtain ⟨b, _, rfl⟩ := List.mem_map.1 hx; rfl) fun fr hfr => ?_
  have hl' : fr.length = 8 := by rw [hfr]; rfl
  have h0 : fr[0]? = some (.sl false d.length cl (d.map uv)) := by rw [hfr]; rfl
  clear hfr
  have ha := @ew_app [some []] 1 0 0 d.length 1 (some 0) [] (d.map uv) (.sl false d.length cl (d.map uv)) rfl rfl (slC_slN _ 1 false d.length cl (d.map uv) (by simp)) hp (by omega) (by omega)
  simp only [A28, wk_skip, wk_reg, wk_dreg, wk_frz, wk_seq, wk_cond, wk_block, wk_loop, wk_exit, wk_scope, wk_ret, pk_nil, pk_seqN, pk_seqE, pk_seqR, pk_blkN, pk_blkE, pk_blkR, pk_invN, pk_invE, pk_invR, wo_nil, wo_cons, wd_nil, wd_cons, want_n, want_s, put_s, put_n, I.cls, List.map, opv_t, opv_i, opv_b, opv_n, opv_f, opv_s, ev_mv, ev_pick, ev_len, ev_lenR, ev_bin, ev_beqF, ev_beqT, ev_not, ev_conv, ev_ext, ev_mkfn, ev_faddr, ev_faddrF, ev_fieldF, ev_fieldT, ev_max, ev_min, ev_snilS, ev_snilR, ev_load1F, sb_lss, sb_leq, sb_gtr, sb_geq, sb_eql, sb_neq, sb_add, sb_sub, sb_mul, map_s, en_new, en_boxA, leaf_i, leaf_b, leaf_sl, leaf_ref, List.getElem?_set, List.length_set, List.length_map, List.length_append, List.getElem?_map, Option.map_some, Option.getD_some, ↓reduceIte, Nat.reduceLT, Nat.reduceEqDiff, Nat.zero_add, Nat.add_zero, decide_true, decide_false, Int.ofNat_lt, List.getElem?_cons_zero, List.getElem?_cons_succ, List.length_cons, List.length_nil, Nat.reduceAdd, Bool.not_true, Bool.not_false, Option.some.injEq, and_true, true_and, Bool.false_eq_true, Int.toNat_natCast, out_r, out_nm, pout_r, pout_nm, rs_n, rs_t, rs_c, one1, one2, one3, Option.bind_some, exists_eq_left', deep_eq, fz_lit, fz_sl, fz_fn0, fz_agg, fz_tup, mm_n, mm_c, ev_l1, ev_la, ew_1, ew_a, lk_0, lk_s, st_0, st_s, List.nil_append, List.cons_append, List.append_nil, List.drop_zero, List.drop_succ_cons, List.take_succ_cons, List.take_zero, List.take_nil, and_self, Nat.reduceLeDiff, Nat.le_refl, hd_n, hd_c, e3_n, e3_s, e3_a, mw_s, Option.map_none, rep_s, rep_0, bt_tf, bt_ff, bt_tt, bt_ft, ev_build, fp_0, fp_1, fp_a, spl_0, spl_s, Nat.mul_one, Nat.zero_mul, Nat.reduceMul, ev_iaddrPk, Int.reduceEq, true_or, or_true, or_self, hl', h0, en_bs0, ha, cap0 hp]
  exact ⟨1, rfl, rfl⟩
/-- Put, of a row of which only the length is known. -/
theorem p11b {D : Dsk} {v : AV} (hv : DR D v) (t : Int) {n : Nat} {c : Option Nat} (hn : D.sz < n) : Pu tab 11 [v, iv t, .sl false n c []] (· = .tup [v, iv 230]) := by
  have h26 := p26 hv t
  have hv0 := hv
  obtain ⟨nc, cc, nq, cq, h1, h2, rfl⟩ := hv
  refine pu3 _ tab11 rfl (by decide) fun fr hfl h0 h1' h2' => ?_
  have hl' : fr.length = 26 := hfl
  simp only [A11, wk_skip, wk_reg, wk_dreg, wk_frz, wk_seq, wk_cond, wk_block, wk_loop, wk_exit, wk_scope, wk_ret, pk_nil, pk_seqN, pk_seqE, pk_seqR, pk_blkN, pk_blkE, pk_blkR, pk_invN, pk_invE, pk_invR, wo_nil, wo_cons, wd_nil, wd_cons, want_n, want_s, put_s, put_n, I.cls, List.map, opv_t, opv_i, opv_b, opv_n, opv_f, opv_s, ev_mv, ev_pick, ev_len, ev_lenR, ev_bin, ev_beqF, ev_beqT, ev_not, ev_conv, ev_ext, ev_mkfn, ev_faddr, ev_faddrF, ev_fieldF, ev_fieldT, ev_max, ev_min, ev_snilS, ev_snilR, ev_load1F, sb_lss, sb_leq, sb_gtr, sb_geq, sb_eql, sb_neq, sb_add, sb_sub, sb_mul, map_s, en_new, en_boxA, leaf_i, leaf_b, leaf_sl, leaf_ref, List.getElem?_set, List.length_set, List.length_map, List.length_append, List.getElem?_map, Option.map_some, Option.getD_some, ↓reduceIte, Nat.reduceLT, Nat.reduceEqDiff, Nat.zero_add, Nat.add_zero, decide_true, decide_false, Int.ofNat_lt, List.getElem?_cons_zero, List.getElem?_cons_succ, List.length_cons, List.length_nil, Nat.reduceAdd, Bool.not_true, Bool.not_false, Option.some.injEq, and_true, true_and, Bool.false_eq_true, Int.toNat_natCast, out_r, out_nm, pout_r, pout_nm, rs_n, rs_t, rs_c, one1, one2, one3, Option.bind_some, exists_eq_left', deep_eq, fz_lit, fz_sl, fz_fn0, fz_agg, fz_tup, mm_n, mm_c, ev_l1, ev_la, ew_1, ew_a, lk_0, lk_s, st_0, st_s, List.nil_append, List.cons_append, List.append_nil, List.drop_zero, List.drop_succ_cons, List.take_succ_cons, List.take_zero, List.take_nil, and_self, Nat.reduceLeDiff, Nat.le_refl, hd_n, hd_c, e3_n, e3_s, e3_a, mw_s, Option.map_none, rep_s, rep_0, bt_tf, bt_ff, bt_tt, bt_ft, ev_build, fp_0, fp_1, fp_a, spl_0, spl_s, Nat.mul_one, Nat.zero_mul, Nat.reduceMul, ev_iaddrPk, Int.reduceEq, true_or, or_true, or_self, hl', h0, h1', h2']
  refine wc_pu h26 rfl ?_
  rintro w rfl
  cases hh : hasC D.cells.length t with
  | false => simp only [wk_skip, wk_reg, wk_dreg, wk_frz, wk_seq, wk_cond, wk_block, wk_loop, wk_exit, wk_scope, wk_ret, pk_nil, pk_seqN, pk_seqE, pk_seqR, pk_blkN, pk_blkE, pk_blkR, pk_invN, pk_invE, pk_invR, wo_nil, wo_cons, wd_nil, wd_cons, want_n, want_s, put_s, put_n, I.cls, List.map, opv_t, opv_i, opv_b, opv_n, opv_f, opv_s, ev_mv, ev_pick, ev_len, ev_lenR, ev_bin, ev_beqF, ev_beqT, ev_not, ev_conv, ev_ext, ev_mkfn, ev_faddr, ev_faddrF, ev_fieldF, ev_fieldT, ev_max, ev_min, ev_snilS, ev_snilR, ev_load1F, sb_lss, sb_leq, sb_gtr, sb_geq, sb_eql, sb_neq, sb_add, sb_sub, sb_mul, map_s, en_new, en_boxA, leaf_i, leaf_b, leaf_sl, leaf_ref, List.getElem?_set, List.length_set, List.length_map, List.length_append, List.getElem?_map, Option.map_some, Option.getD_some, ↓reduceIte, Nat.reduceLT, Nat.reduceEqDiff, Nat.zero_add, Nat.add_zero, decide_true, decide_false, Int.ofNat_lt, List.getElem?_cons_zero, List.getElem?_cons_succ, List.length_cons, List.length_nil, Nat.reduceAdd, Bool.not_true, Bool.not_false, Option.some.injEq, and_true, true_and, Bool.false_eq_true, Int.toNat_natCast, out_r, out_nm, pout_r, pout_nm, rs_n, rs_t, rs_c, one1, one2, one3, Option.bind_some, exists_eq_left', deep_eq, fz_lit, fz_sl, fz_fn0, fz_agg, fz_tup, mm_n, mm_c, ev_l1, ev_la, ew_1, ew_a, lk_0, lk_s, st_0, st_s, List.nil_append, List.cons_append, List.append_nil, List.drop_zero, List.drop_succ_cons, List.take_succ_cons, List.take_zero, List.take_nil, and_self, Nat.reduceLeDiff, Nat.le_refl, hd_n, hd_c, e3_n, e3_s, e3_a, mw_s, Option.map_none, rep_s, rep_0, bt_tf, bt_ff, bt_tt, bt_ft, ev_build, fp_0, fp_1, fp_a, spl_0, spl_s, Nat.mul_one, Nat.zero_mul, Nat.reduceMul, ev_iaddrPk, Int.reduceEq, true_or, or_true, or_self, hl', h0, h1', h2']
  | true =>
    have hd' := decT hn
    simp only [wk_skip, wk_reg, wk_dreg, wk_frz, wk_seq, wk_cond, wk_block, wk_loop, wk_exit, wk_scope, wk_ret, pk_nil, pk_seqN, pk_seqE, pk_seqR, pk_blkN, pk_blkE, pk_blkR, pk_invN, pk_invE, pk_invR, wo_nil, wo_cons, wd_nil, wd_cons, want_n, want_s, put_s, put_n, I.cls, List.map, opv_t, opv_i, opv_b, opv_n, opv_f, opv_s, ev_mv, ev_pick, ev_len, ev_lenR, ev_bin, ev_beqF, ev_beqT, ev_not, ev_conv, ev_ext, ev_mkfn, ev_faddr, ev_faddrF, ev_fieldF, ev_fieldT, ev_max, ev_min, ev_snilS, ev_snilR, ev_load1F, sb_lss, sb_leq, sb_gtr, sb_geq, sb_eql, sb_neq, sb_add, sb_sub, sb_mul, map_s, en_new, en_boxA, leaf_i, leaf_b, leaf_sl, leaf_ref, List.getElem?_set, List.length_set, List.length_map, List.length_append, List.getElem?_map, Option.map_some, Option.getD_some, ↓reduceIte, Nat.reduceLT, Nat.reduceEqDiff, Nat.zero_add, Nat.add_zero, decide_true, decide_false, Int.ofNat_lt, List.getElem?_cons_zero, List.getElem?_cons_succ, List.length_cons, List.length_nil, Nat.reduceAdd, Bool.not_true, Bool.not_false, Option.some.injEq, and_true, true_and, Bool.false_eq_true, Int.toNat_natCast, out_r, out_nm, pout_r, pout_nm, rs_n, rs_t, rs_c, one1, one2, one3, Option.bind_some, exists_eq_left', deep_eq, fz_lit, fz_sl, fz_fn0, fz_agg, fz_tup, mm_n, mm_c, ev_l1, ev_la, ew_1, ew_a, lk_0, lk_s, st_0, st_s, List.nil_append, List.cons_append, List.append_nil, List.drop_zero, List.drop_succ_cons, List.take_succ_cons, List.take_zero, List.take_nil, and_self, Nat.reduceLeDiff, Nat.le_refl, hd_n, hd_c, e3_n, e3_s, e3_a, mw_s, Option.map_none, rep_s, rep_0, bt_tf, bt_ff, bt_tt, bt_ft, ev_build, fp_0, fp_1, fp_a, spl_0, spl_s, Nat.mul_one, Nat.zero_mul, Nat.reduceMul, ev_iaddrPk, Int.reduceEq, true_or, or_true, or_self, hl', h0, h1', h2', hd']
theorem wrapB {k : Nat} (h : k < 256) : IntKind.u8.wrap (k : Int) = (k : Int) := by
  simp [IntKind.wrap, IntKind.bits, IntKind.signed]
  omega
theorem sb_xor8 (a b : UInt8) : sbin .xor (.int .u8 (a.toNat : Int)) (.int .u8 (b.toNat : Int)) = some (.int .u8 ((a ^^^ b).toNat : Int)) := by
  have h1 : ∀ x : UInt8, BitVec.ofInt 8 (x.toNat : Int) = x.toBitVec := fun x => by
    apply BitVec.eq_of_toNat_eq
    simp
  have h2 : (a ^^^ b).toNat = (a.toBitVec ^^^ b.toBitVec).toNat := by rw [← UInt8.toBitVec_xor]; rfl
  have h3 : sbin .xor (.int .u8 (a.toNat : Int)) (.int .u8 (b.toNat : Int)) = some (.int .u8 (IntKind.u8.wrap (((BitVec.ofInt 8 (a.toNat : Int) ^^^ BitVec.ofInt 8 (b.toNat : Int) : BitVec 8).toNat : Nat) : Int))) := by
    simp only [sbin, ne_eq, not_true_eq_false, if_false]
    rfl
  rw [h3, h1, h1, ← h2]
  rw [wrapB (UInt8.toNat_lt _)]

/-- What Rot answers. -/
def RotR (D : Dsk) (v : AV) (t i : Int) (b : UInt8) (r : AV) : Prop :=
  (hasC D.cells.length t = false ∧ r = .tup [v, iv 230]) ∨
  (∃ (tn : Nat) (e : By), t = tn ∧ (D.cells.map bs)[tn]? = some e ∧ ((¬ (0 ≤ i ∧ i < e.length) ∧ r = .tup [v, iv 1]) ∨
    ∃ (j : Nat) (x : UInt8), i = j ∧ e[j]? = some x ∧ ∃ (D' : Dsk) (v' : AV), r = .tup [v', iv 0] ∧ DR D' v' ∧ DOk D' ∧ D'.sz = D.sz ∧ D'.ts = D.ts ∧ D'.cells.map bs = (D.cells.map bs).set tn (e.set j (x ^^^ b))))
set_option maxHeartbeats 3200000 in
theorem p22 {D : Dsk} (hok : DOk D) {v : AV} (hv : DR D v) (t i : Int) (b : UInt8) : Pu tab 22 [v, iv t, iv i, .lit (.int .u8 (b.toNat : Int))] (RotR D v t i b) := by
  have h26 := p26 hv t
  have hv0 := hv
  obtain ⟨nc, cc, nq, cq, h1, h2, rfl⟩ := hv
  have hc0 := hok.c0
  have hc1 := hok.c1
  have hs2 := hok.s2
  have hnc : nc = false := by
    cases nc with
    | false => rfl
    | true => rw [h1 rfl] at hc0; simp at hc0
  subst hnc
  refine pure_of tab22 rfl ?_
  refine wp_wk ?_
  obtain ⟨fr, hfr⟩ : ∃ fr, fr = [AV.agg [iv D.sz, .sl false D.cells.length cc D.cells, .sl nq D.ts.length cq (flat D.ts)], iv t, iv i, .lit (.int .u8 (b.toNat : Int))] ++ List.replicate (A22.ntmps - 4) (.lit undef) := ⟨_, rfl⟩
  show WK tab A22.body [] (Pout A22.res _) ([AV.agg [iv D.sz, .sl false D.cells.length cc D.cells, .sl nq D.ts.length cq (flat D.ts)], iv t, iv i, .lit (.int .u8 (b.toNat : Int))] ++ List.replicate (A22.ntmps - 4) (.lit undef)) []
  rw [← hfr]
  have hl' : fr.length = 56 := by rw [hfr]; rfl
  have h0 : fr[0]? = some (.agg [iv D.sz, .sl false D.cells.length cc D.cells, .sl nq D.ts.length cq (flat D.ts)]) := by rw [hfr]; rfl
  have h1' : fr[1]? = some (iv t) := by rw [hfr]; rfl
  have h2' : fr[2]? = some (iv i) := by rw [hfr]; rfl
  have h3' : fr[3]? = some (.lit (.int .u8 (b.toNat : Int))) := by rw [hfr]; rfl
  clear hfr
  simp only [A22, wk_skip, wk_reg, wk_dreg, wk_frz, wk_seq, wk_cond, wk_block, wk_loop, wk_exit, wk_scope, wk_ret, pk_nil, pk_seqN, pk_seqE, pk_seqR, pk_blkN, pk_blkE, pk_blkR, pk_invN, pk_invE, pk_invR, wo_nil, wo_cons, wd_nil, wd_cons, want_n, want_s, put_s, put_n, I.cls, List.map, opv_t, opv_i, opv_b, opv_n, opv_f, opv_s, ev_mv, ev_pick, ev_len, ev_lenR, ev_bin, ev_beqF, ev_beqT, ev_not, ev_conv, ev_ext, ev_mkfn, ev_faddr, ev_faddrF, ev_fieldF, ev_fieldT, ev_max, ev_min, ev_snilS, ev_snilR, ev_load1F, sb_lss, sb_leq, sb_gtr, sb_geq, sb_eql, sb_neq, sb_add, sb_sub, sb_mul, map_s, en_new, en_boxA, leaf_i, leaf_b, leaf_sl, leaf_ref, List.getElem?_set, List.length_set, List.length_map, List.length_append, List.getElem?_map, Option.map_some, Option.getD_some, ↓reduceIte, Nat.reduceLT, Nat.reduceEqDiff, Nat.zero_add, Nat.add_zero, decide_true, decide_false, Int.ofNat_lt, List.getElem?_cons_zero, List.getElem?_cons_succ, List.length_cons, List.length_nil, Nat.reduceAdd, Bool.not_true, Bool.not_false, Option.some.injEq, and_true, true_and, Bool.false_eq_true, Int.toNat_natCast, out_r, out_nm, pout_r, pout_nm, rs_n, rs_t, rs_c, one1, one2, one3, Option.bind_some, exists_eq_left', deep_eq, fz_lit, fz_sl, fz_fn0, fz_agg, fz_tup, mm_n, mm_c, ev_l1, ev_la, ew_1, ew_a, lk_0, lk_s, st_0, st_s, List.nil_append, List.cons_append, List.append_nil, List.drop_zero, List.drop_succ_cons, List.take_succ_cons, List.take_zero, List.take_nil, and_self, Nat.reduceLeDiff, Nat.le_refl, hd_n, hd_c, e3_n, e3_s, e3_a, mw_s, Option.map_none, rep_s, rep_0, bt_tf, bt_ff, bt_tt, bt_ft, ev_build, fp_0, fp_1, fp_a, spl_0, spl_s, Nat.mul_one, Nat.zero_mul, Nat.reduceMul, ev_iaddrPk, Int.reduceEq, true_or, or_true, or_self, hl', h0, h1', h2', h3']
  refine wc_pu h26 rfl ?_
  rintro w rfl
  cases hh : hasC D.cells.length t with
  | false =>
    simp only [wk_skip, wk_reg, wk_dreg, wk_frz, wk_seq, wk_cond, wk_block, wk_loop, wk_exit, wk_scope, wk_ret, pk_nil, pk_seqN, pk_seqE, pk_seqR, pk_blkN, pk_blkE, pk_blkR, pk_invN, pk_invE, pk_invR, wo_nil, wo_cons, wd_nil, wd_cons, want_n, want_s, put_s, put_n, I.cls, List.map, opv_t, opv_i, opv_b, opv_n, opv_f, opv_s, ev_mv, ev_pick, ev_len, ev_lenR, ev_bin, ev_beqF, ev_beqT, ev_not, ev_conv, ev_ext, ev_mkfn, ev_faddr, ev_faddrF, ev_fieldF, ev_fieldT, ev_max, ev_min, ev_snilS, ev_snilR, ev_load1F, sb_lss, sb_leq, sb_gtr, sb_geq, sb_eql, sb_neq, sb_add, sb_sub, sb_mul, map_s, en_new, en_boxA, leaf_i, leaf_b, leaf_sl, leaf_ref, List.getElem?_set, List.length_set, List.length_map, List.length_append, List.getElem?_map, Option.map_some, Option.getD_some, ↓reduceIte, Nat.reduceLT, Nat.reduceEqDiff, Nat.zero_add, Nat.add_zero, decide_true, decide_false, Int.ofNat_lt, List.getElem?_cons_zero, List.getElem?_cons_succ, List.length_cons, List.length_nil, Nat.reduceAdd, Bool.not_true, Bool.not_false, Option.some.injEq, and_true, true_and, Bool.false_eq_true, Int.toNat_natCast, out_r, out_nm, pout_r, pout_nm, rs_n, rs_t, rs_c, one1, one2, one3, Option.bind_some, exists_eq_left', deep_eq, fz_lit, fz_sl, fz_fn0, fz_agg, fz_tup, mm_n, mm_c, ev_l1, ev_la, ew_1, ew_a, lk_0, lk_s, st_0, st_s, List.nil_append, List.cons_append, List.append_nil, List.drop_zero, List.drop_succ_cons, List.take_succ_cons, List.take_zero, List.take_nil, and_self, Nat.reduceLeDiff, Nat.le_refl, hd_n, hd_c, e3_n, e3_s, e3_a, mw_s, Option.map_none, rep_s, rep_0, bt_tf, bt_ff, bt_tt, bt_ft, ev_build, fp_0, fp_1, fp_a, spl_0, spl_s, Nat.mul_one, Nat.zero_mul, Nat.reduceMul, ev_iaddrPk, Int.reduceEq, true_or, or_true, or_self, hl', h0, h1', h2', h3']
    exact .inl ⟨hh, rfl⟩
  | true =>
    simp only [hasC, Bool.and_eq_true, decide_eq_true_eq] at hh
    obtain ⟨tn, rfl⟩ : ∃ tn : Nat, t = tn := ⟨t.toNat, by omega⟩
    have htn : tn < D.cells.length := by omega
    obtain ⟨⟨m1, k1, hm1, g1⟩, g2⟩ := (hok.cells _ (List.getElem_mem htn)).same
    obtain ⟨e, he⟩ : ∃ e, bs D.cells[tn] = e := ⟨_, rfl⟩
    rw [he] at g1 g2 hm1
    have gx : D.cells[tn]? = some (.sl m1 e.length k1 (e.map uv)) := by rw [getE htn, g1]
    have gb : (D.cells.map bs)[tn]? = some e := by rw [List.getElem?_map, getE htn]; simp [he]
    have hia := fun g => ev_iaddr (g := g) false D.cells.length tn cc D.cells htn rfl
    by_cases hi0 : i < 0
    · have d0 := decT hi0
      simp only [wk_skip, wk_reg, wk_dreg, wk_frz, wk_seq, wk_cond, wk_block, wk_loop, wk_exit, wk_scope, wk_ret, pk_nil, pk_seqN, pk_seqE, pk_seqR, pk_blkN, pk_blkE, pk_blkR, pk_invN, pk_invE, pk_invR, wo_nil, wo_cons, wd_nil, wd_cons, want_n, want_s, put_s, put_n, I.cls, List.map, opv_t, opv_i, opv_b, opv_n, opv_f, opv_s, ev_mv, ev_pick, ev_len, ev_lenR, ev_bin, ev_beqF, ev_beqT, ev_not, ev_conv, ev_ext, ev_mkfn, ev_faddr, ev_faddrF, ev_fieldF, ev_fieldT, ev_max, ev_min, ev_snilS, ev_snilR, ev_load1F, sb_lss, sb_leq, sb_gtr, sb_geq, sb_eql, sb_neq, sb_add, sb_sub, sb_mul, map_s, en_new, en_boxA, leaf_i, leaf_b, leaf_sl, leaf_ref, List.getElem?_set, List.length_set, List.length_map, List.length_append, List.getElem?_map, Option.map_some, Option.getD_some, ↓reduceIte, Nat.reduceLT, Nat.reduceEqDiff, Nat.zero_add, Nat.add_zero, decide_true, decide_false, Int.ofNat_lt, List.getElem?_cons_zero, List.getElem?_cons_succ, List.length_cons, List.length_nil, Nat.reduceAdd, Bool.not_true, Bool.not_false, Option.some.injEq, and_true, true_and, Bool.false_eq_true, Int.toNat_natCast, out_r, out_nm, pout_r, pout_nm, rs_n, rs_t, rs_c, one1, one2, one3, Option.bind_some, exists_eq_left', deep_eq, fz_lit, fz_sl, fz_fn0, fz_agg, fz_tup, mm_n, mm_c, ev_l1, ev_la, ew_1, ew_a, lk_0, lk_s, st_0, st_s, List.nil_append, List.cons_append, List.append_nil, List.drop_zero, List.drop_succ_cons, List.take_succ_cons, List.take_zero, List.take_nil, and_self, Nat.reduceLeDiff, Nat.le_refl, hd_n, hd_c, e3_n, e3_s, e3_a, mw_s, Option.map_none, rep_s, rep_0, bt_tf, bt_ff, bt_tt, bt_ft, ev_build, fp_0, fp_1, fp_a, spl_0, spl_s, Nat.mul_one, Nat.zero_mul, Nat.reduceMul, ev_iaddrPk, Int.reduceEq, true_or, or_true, or_self, hl', h0, h1', h2', h3', d0, hia, gx]
      exact .inr ⟨tn, e, rfl, gb, .inl ⟨by omega, rfl⟩⟩
    · have d0 := decF hi0
      by_cases hie : (e.length : Int) ≤ i
      · have d1 := decT hie
        simp only [wk_skip, wk_reg, wk_dreg, wk_frz, wk_seq, wk_cond, wk_block, wk_loop, wk_exit, wk_scope, wk_ret, pk_nil, pk_seqN, pk_seqE, pk_seqR, pk_blkN, pk_blkE, pk_blkR, pk_invN, pk_invE, pk_invR, wo_nil, wo_cons, wd_nil, wd_cons, want_n, want_s, put_s, put_n, I.cls, List.map, opv_t, opv_i, opv_b, opv_n, opv_f, opv_s, ev_mv, ev_pick, ev_len, ev_lenR, ev_bin, ev_beqF, ev_beqT, ev_not, ev_conv, ev_ext, ev_mkfn, ev_faddr, ev_faddrF, ev_fieldF, ev_fieldT, ev_max, ev_min, ev_snilS, ev_snilR, ev_load1F, sb_lss, sb_leq, sb_gtr, sb_geq, sb_eql, sb_neq, sb_add, sb_sub, sb_mul, map_s, en_new, en_boxA, leaf_i, leaf_b, leaf_sl, leaf_ref, List.getElem?_set, List.length_set, List.length_map, List.length_append, List.getElem?_map, Option.map_some, Option.getD_some, ↓reduceIte, Nat.reduceLT, Nat.reduceEqDiff, Nat.zero_add, Nat.add_zero, decide_true, decide_false, Int.ofNat_lt, List.getElem?_cons_zero, List.getElem?_cons_succ, List.length_cons, List.length_nil, Nat.reduceAdd, Bool.not_true, Bool.not_false, Option.some.injEq, and_true, true_and, Bool.false_eq_true, Int.toNat_natCast, out_r, out_nm, pout_r, pout_nm, rs_n, rs_t, rs_c, one1, one2, one3, Option.bind_some, exists_eq_left', deep_eq, fz_lit, fz_sl, fz_fn0, fz_agg, fz_tup, mm_n, mm_c, ev_l1, ev_la, ew_1, ew_a, lk_0, lk_s, st_0, st_s, List.nil_append, List.cons_append, List.append_nil, List.drop_zero, List.drop_succ_cons, List.take_succ_cons, List.take_zero, List.take_nil, and_self, Nat.reduceLeDiff, Nat.le_refl, hd_n, hd_c, e3_n, e3_s, e3_a, mw_s, Option.map_none, rep_s, rep_0, bt_tf, bt_ff, bt_tt, bt_ft, ev_build, fp_0, fp_1, fp_a, spl_0, spl_s, Nat.mul_one, Nat.zero_mul, Nat.reduceMul, ev_iaddrPk, Int.reduceEq, true_or, or_true, or_self, hl', h0, h1', h2', h3', d0, d1, hia, gx]
        exact .inr ⟨tn, e, rfl, gb, .inl ⟨by omega, rfl⟩⟩
      · have d1 := decF hie
        simp only [wk_skip, wk_reg, wk_dreg, wk_frz, wk_seq, wk_cond, wk_block, wk_loop, wk_exit, wk_scope, wk_ret, pk_nil, pk_seqN, pk_seqE, pk_seqR, pk_blkN, pk_blkE, pk_blkR, pk_invN, pk_invE, pk_invR, wo_nil, wo_cons, wd_nil, wd_cons, want_n, want_s, put_s, put_n, I.cls, List.map, opv_t, opv_i, opv_b, opv_n, opv_f, opv_s, ev_mv, ev_pick, ev_len, ev_lenR, ev_bin, ev_beqF, ev_beqT, ev_not, ev_conv, ev_ext, ev_mkfn, ev_faddr, ev_faddrF, ev_fieldF, ev_fieldT, ev_max, ev_min, ev_snilS, ev_snilR, ev_load1F, sb_lss, sb_leq, sb_gtr, sb_geq, sb_eql, sb_neq, sb_add, sb_sub, sb_mul, map_s, en_new, en_boxA, leaf_i, leaf_b, leaf_sl, leaf_ref, List.getElem?_set, List.length_set, List.length_map, List.length_append, List.getElem?_map, Option.map_some, Option.getD_some, ↓reduceIte, Nat.reduceLT, Nat.reduceEqDiff, Nat.zero_add, Nat.add_zero, decide_true, decide_false, Int.ofNat_lt, List.getElem?_cons_zero, List.getElem?_cons_succ, List.length_cons, List.length_nil, Nat.reduceAdd, Bool.not_true, Bool.not_false, Option.some.injEq, and_true, true_and, Bool.false_eq_true, Int.toNat_natCast, out_r, out_nm, pout_r, pout_nm, rs_n, rs_t, rs_c, one1, one2, one3, Option.bind_some, exists_eq_left', deep_eq, fz_lit, fz_sl, fz_fn0, fz_agg, fz_tup, mm_n, mm_c, ev_l1, ev_la, ew_1, ew_a, lk_0, lk_s, st_0, st_s, List.nil_append, List.cons_append, List.append_nil, List.drop_zero, List.drop_succ_cons, List.take_succ_cons, List.take_zero, List.take_nil, and_self, Nat.reduceLeDiff, Nat.le_refl, hd_n, hd_c, e3_n, e3_s, e3_a, mw_s, Option.map_none, rep_s, rep_0, bt_tf, bt_ff, bt_tt, bt_ft, ev_build, fp_0, fp_1, fp_a, spl_0, spl_s, Nat.mul_one, Nat.zero_mul, Nat.reduceMul, ev_iaddrPk, Int.reduceEq, true_or, or_true, or_self, hl', h0, h1', h2', h3', d0, d1, hia, gx]
        obtain ⟨j, rfl⟩ : ∃ j : Nat, i = j := ⟨i.toNat, by omega⟩
        have hj : j < e.length := by omega
        have hm : m1 = false := by
          cases m1 with
          | false => rfl
          | true => rw [hm1 rfl] at hj; simp at hj
        subst hm
        have hne : e ≠ [] := by intro h; rw [h] at hj; simp at hj
        refine wc_of (c37 [some [iv D.sz, .sl false D.cells.length cc D.cells, .sl nq D.ts.length cq (flat D.ts)], some [iv 0, .sl true 0 (some 0) [], .sl true 0 (some 0) []]] cc D.cells (by intro h; rw [h] at hc0; simp at hc0) hc1) ?_
        have hir : ∀ g, evR g (.iaddr none 1) [.ref 3 0 D.cells.length 1 none, .lit (.int .i64 (tn : Int))] = some (.ptr 3 (0 + tn * 1)) := fun g => ev_iaddrR (g := g) 3 0 D.cells.length tn 1 none htn
        simp only [wk_skip, wk_reg, wk_dreg, wk_frz, wk_seq, wk_cond, wk_block, wk_loop, wk_exit, wk_scope, wk_ret, pk_nil, pk_seqN, pk_seqE, pk_seqR, pk_blkN, pk_blkE, pk_blkR, pk_invN, pk_invE, pk_invR, wo_nil, wo_cons, wd_nil, wd_cons, want_n, want_s, put_s, put_n, I.cls, List.map, opv_t, opv_i, opv_b, opv_n, opv_f, opv_s, ev_mv, ev_pick, ev_len, ev_lenR, ev_bin, ev_beqF, ev_beqT, ev_not, ev_conv, ev_ext, ev_mkfn, ev_faddr, ev_faddrF, ev_fieldF, ev_fieldT, ev_max, ev_min, ev_snilS, ev_snilR, ev_load1F, sb_lss, sb_leq, sb_gtr, sb_geq, sb_eql, sb_neq, sb_add, sb_sub, sb_mul, map_s, en_new, en_boxA, leaf_i, leaf_b, leaf_sl, leaf_ref, List.getElem?_set, List.length_set, List.length_map, List.length_append, List.getElem?_map, Option.map_some, Option.getD_some, ↓reduceIte, Nat.reduceLT, Nat.reduceEqDiff, Nat.zero_add, Nat.add_zero, decide_true, decide_false, Int.ofNat_lt, List.getElem?_cons_zero, List.getElem?_cons_succ, List.length_cons, List.length_nil, Nat.reduceAdd, Bool.not_true, Bool.not_false, Option.some.injEq, and_true, true_and, Bool.false_eq_true, Int.toNat_natCast, out_r, out_nm, pout_r, pout_nm, rs_n, rs_t, rs_c, one1, one2, one3, Option.bind_some, exists_eq_left', deep_eq, fz_lit, fz_sl, fz_fn0, fz_agg, fz_tup, mm_n, mm_c, ev_l1, ev_la, ew_1, ew_a, lk_0, lk_s, st_0, st_s, List.nil_append, List.cons_append, List.append_nil, List.drop_zero, List.drop_succ_cons, List.take_succ_cons, List.take_zero, List.take_nil, and_self, Nat.reduceLeDiff, Nat.le_refl, hd_n, hd_c, e3_n, e3_s, e3_a, mw_s, Option.map_none, rep_s, rep_0, bt_tf, bt_ff, bt_tt, bt_ft, ev_build, fp_0, fp_1, fp_a, spl_0, spl_s, Nat.mul_one, Nat.zero_mul, Nat.reduceMul, ev_iaddrPk, Int.reduceEq, true_or, or_true, or_self, hl', h0, h1', h2', h3', hir, gx]
        refine wcm_of (m28 hne (by omega)) rfl ?_
        have hjr : ∀ g, evR g (.iaddr none 1) [.ref 12 0 e.length 1 none, .lit (.int .i64 (j : Int))] = some (.ptr 12 (0 + j * 1)) := fun g => ev_iaddrR (g := g) 12 0 e.length j 1 none hj
        have ge : e[j]? = some e[j] := getE hj
        have huv : uv e[j] = .lit (.int .u8 (e[j].toNat : Int)) := rfl
        have hxo := sb_xor8 e[j] b
        simp only [wk_skip, wk_reg, wk_dreg, wk_frz, wk_seq, wk_cond, wk_block, wk_loop, wk_exit, wk_scope, wk_ret, pk_nil, pk_seqN, pk_seqE, pk_seqR, pk_blkN, pk_blkE, pk_blkR, pk_invN, pk_invE, pk_invR, wo_nil, wo_cons, wd_nil, wd_cons, want_n, want_s, put_s, put_n, I.cls, List.map, opv_t, opv_i, opv_b, opv_n, opv_f, opv_s, ev_mv, ev_pick, ev_len, ev_lenR, ev_bin, ev_beqF, ev_beqT, ev_not, ev_conv, ev_ext, ev_mkfn, ev_faddr, ev_faddrF, ev_fieldF, ev_fieldT, ev_max, ev_min, ev_snilS, ev_snilR, ev_load1F, sb_lss, sb_leq, sb_gtr, sb_geq, sb_eql, sb_neq, sb_add, sb_sub, sb_mul, map_s, en_new, en_boxA, leaf_i, leaf_b, leaf_sl, leaf_ref, List.getElem?_set, List.length_set, List.length_map, List.length_append, List.getElem?_map, Option.map_some, Option.getD_some, ↓reduceIte, Nat.reduceLT, Nat.reduceEqDiff, Nat.zero_add, Nat.add_zero, decide_true, decide_false, Int.ofNat_lt, List.getElem?_cons_zero, List.getElem?_cons_succ, List.length_cons, List.length_nil, Nat.reduceAdd, Bool.not_true, Bool.not_false, Option.some.injEq, and_true, true_and, Bool.false_eq_true, Int.toNat_natCast, out_r, out_nm, pout_r, pout_nm, rs_n, rs_t, rs_c, one1, one2, one3, Option.bind_some, exists_eq_left', deep_eq, fz_lit, fz_sl, fz_fn0, fz_agg, fz_tup, mm_n, mm_c, ev_l1, ev_la, ew_1, ew_a, lk_0, lk_s, st_0, st_s, List.nil_append, List.cons_append, List.append_nil, List.drop_zero, List.drop_succ_cons, List.take_succ_cons, List.take_zero, List.take_nil, and_self, Nat.reduceLeDiff, Nat.le_refl, hd_n, hd_c, e3_n, e3_s, e3_a, mw_s, Option.map_none, rep_s, rep_0, bt_tf, bt_ff, bt_tt, bt_ft, ev_build, fp_0, fp_1, fp_a, spl_0, spl_s, Nat.mul_one, Nat.zero_mul, Nat.reduceMul, ev_iaddrPk, Int.reduceEq, true_or, or_true, or_self, hl', h0, h1', h2', h3', hir, gx, hjr, ge, huv, hxo, htn, hj]
        obtain ⟨e', he'⟩ : ∃ e', e' = e.set j (e[j] ^^^ b) := ⟨_, rfl⟩
        have hel : e'.length = e.length := by rw [he']; simp
        have hmap : (e.map uv).set j (.lit (.int .u8 ((e[j] ^^^ b).toNat : Int))) = e'.map uv := by rw [he', List.map_set]; rfl
        rw [hmap]
        obtain ⟨HH, hHH⟩ : ∃ HH : Heap, [some [iv D.sz, .ref 3 0 D.cells.length 1 none, .sl nq D.ts.length cq (flat D.ts)], some [iv D.sz, .ref 3 0 D.cells.length 1 none, .sl nq D.ts.length cq (flat D.ts)], none, some (D.cells.set tn (.ref 12 0 e.length 1 none)), none, none, none, none, none, none, none, none, some (e'.map uv), none, none] = HH := ⟨_, rfl⟩
        rw [hHH]
        have l12 : look HH 12 = some (e'.map uv) := by rw [← hHH]; rfl
        have l3 : look HH 3 = some (D.cells.set tn (.ref 12 0 e.length 1 none)) := by rw [← hHH]; rfl
        obtain ⟨cs, q1, q2, q3⟩ := row_fz (g := look HH) (n := 5) (D.cells.set tn (.ref 12 0 e.length 1 none)) ((D.cells.map bs).set tn e') (by simp) fun k y f g1 g2 => by
          rw [List.getElem?_set] at g1 g2
          by_cases hk : tn = k
          · subst hk
            rw [if_pos rfl, if_pos htn] at g1
            rw [if_pos rfl, if_pos (by simpa using htn)] at g2
            cases g1
            cases g2
            exact .inr ⟨12, none, by rw [hel], l12⟩
          · rw [if_neg hk] at g1 g2
            rw [List.getElem?_map, g1] at g2
            cases g2
            exact .inl (hok.cells y (List.mem_of_getElem? g1)).same.1
        have hz := fz_refM (g := look HH) 7 3 D.cells.length 1 none l3 (by simp) q1
        rw [hz]
        have hcl : cs.length = D.cells.length := by rw [q2]; simp
        refine ⟨_, rfl, .inr ⟨tn, e, rfl, gb, .inr ⟨j, e[j], rfl, ge, ⟨D.sz, cs, D.ts⟩, _, rfl, ⟨false, none, nq, cq, fun h => (by cases h), h2, by rw [hcl]⟩, ⟨hok.s1, hok.s2, by simp only; omega, by simp only; omega, fun x hx => ?_, hok.q1, fun x hx => ?_⟩, rfl, rfl, ?_⟩⟩⟩
        · obtain ⟨k, hk, rfl⟩ := List.getElem_of_mem hx
          simp only at hk
          obtain ⟨y, hy, hs⟩ := q3 k ((D.cells.map bs).set tn e')[k] (List.getElem?_eq_getElem (by simp; omega))
          rw [List.getElem?_eq_getElem hk] at hy
          cases hy
          refine hs.dat ?_
          rw [List.getElem_set]
          split
          · rw [hel]; exact g2
          · rw [List.getElem_map]
            exact (hok.cells _ (List.getElem_mem _)).same.2
        · simp only
          rw [hcl]
          exact hok.ts x hx
        · rw [← he']
          exact row_bs cs _ q2 q3
end Go.Ev
