/- What the disk's functions compute: the reference's Play. -/
import Derived.Test.YtpjjloaphlaokaaFdI
import Derived.Laws.Strings
set_option linter.unusedVariables false
set_option linter.unusedSimpArgs false
set_option maxRecDepth 20000
namespace Go.Ev
open Go Go.Proofs

/-- Described steps. -/
def Raws (l : List (Nat × Nat × List UInt8)) (x : AV) : Prop := ∃ (nl : Bool) (cap : Option Nat) (xs : List AV), x = .sl nl l.length cap xs ∧ xs.length = l.length * 3 ∧ l.length ≤ 9223372036854775807 ∧ ∀ (i : Nat) (h : i < l.length), RawR l[i].1 l[i].2.1 l[i].2.2 (.agg ((xs.drop (i * 3)).take 3))
/-- What a script leaves. -/
def FOk (D : Dsk) : Prop := ∀ x ∈ D.ts, x.1 = true → x = fenceT
theorem StepR.fok {D D' : Dsk} {k a : Nat} {d : List UInt8} (h : StepR D k a d D') (hf : FOk D) : FOk D' := by
  rcases h with ⟨_, rfl⟩ | ⟨_, rfl⟩ | ⟨_, y, hy, rfl⟩
  · intro x hx; cases hx
  · intro x hx h1
    rcases List.mem_append.1 hx with h | h
    · exact hf x h h1
    · exact List.mem_singleton.1 h
  · intro x hx h1
    rcases List.mem_append.1 hx with h | h
    · exact hf x h h1
    · obtain rfl := List.mem_singleton.1 h
      cases h1
def PlayR (n : Nat) (D : Dsk) : Prop := DOk D ∧ D.ts.length ≤ n ∧ FOk D

theorem StepR.len {D D' : Dsk} {k a n : Nat} {d : List UInt8} (h : StepR D k a d D') (hn : D.ts.length ≤ n) : D'.ts.length ≤ n + 1 := by
  rcases h with ⟨_, rfl⟩ | ⟨_, rfl⟩ | ⟨_, y, hy, rfl⟩
  · exact Nat.zero_le _
  · simp [Dsk.q]; omega
  · simp [Dsk.q]; omega
theorem StepR.cells {D D' : Dsk} {k a : Nat} {d : List UInt8} (h : StepR D k a d D') : D'.cells.length = D.cells.length := by
  rcases h with ⟨_, rfl⟩ | ⟨_, rfl⟩ | ⟨_, y, _, rfl⟩
  · exact doneRow_len _ _
  · rfl
  · rfl
set_option maxHeartbeats 1600000 in
theorem p10s {a b n : Nat} (ha : a < 256) (hb : b < 256) {l : List (Nat × Nat × List UInt8)} {x : AV} (hx : Raws l x) (hn : n ≤ 100) :
    Pu tab 10 [.agg [.lit (.int .u8 a), .lit (.int .u8 b)], x, iv n] (fun r => ∃ D, (PlayR n D ∧ D.cells.length ≤ 6) ∧ DR D r) := by
  obtain ⟨nl, cap, xs, rfl, hxl, hll, hraw⟩ := hx
  refine pu3 _ tab10 rfl (by decide) fun fr hfl h0 h1 h2 => ?_
  have hl' : fr.length = 42 := hfl
  have hwa : IntKind.i64.wrap ((a : Nat) : Int) = (a : Int) := wrap64 (by omega) (by omega)
  have hwb : IntKind.i64.wrap ((b : Nat) : Int) = (b : Int) := wrap64 (by omega) (by omega)
  have hra := sb_rem .i64 (a : Int) 12 (by decide)
  have hrb := sb_rem .i64 (b : Int) 6 (by decide)
  rw [show (a : Int).tmod 12 = ((a % 12 : Nat) : Int) from tmodN a 12] at hra
  rw [show (b : Int).tmod 6 = ((b % 6 : Nat) : Int) from tmodN b 6] at hrb
  have hw1 : IntKind.i64.wrap (1 + ((a % 12 : Nat) : Int)) = ((1 + a % 12 : Nat) : Int) := (wrap64 (by omega) (by omega)).trans (by omega)
  have hw2 : IntKind.i64.wrap (1 + ((b % 6 : Nat) : Int)) = ((1 + b % 6 : Nat) : Int) := (wrap64 (by omega) (by omega)).trans (by omega)
  simp only [A10, wk_skip, wk_reg, wk_dreg, wk_frz, wk_seq, wk_cond, wk_block, wk_loop, wk_exit, wk_scope, wk_ret, pk_nil, pk_seqN, pk_seqE, pk_seqR, pk_blkN, pk_blkE, pk_blkR, pk_invN, pk_invE, pk_invR, wo_nil, wo_cons, wd_nil, wd_cons, want_n, want_s, put_s, put_n, I.cls, List.map, opv_t, opv_i, opv_b, opv_n, opv_f, opv_s, ev_mv, ev_pick, ev_len, ev_lenR, ev_bin, ev_beqF, ev_beqT, ev_not, ev_conv, ev_ext, ev_mkfn, ev_faddr, ev_faddrF, ev_fieldF, ev_fieldT, ev_max, ev_min, ev_snilS, ev_snilR, ev_load1F, sb_lss, sb_leq, sb_gtr, sb_geq, sb_eql, sb_neq, sb_add, sb_sub, sb_mul, map_s, en_new, en_boxA, leaf_i, leaf_b, leaf_sl, leaf_ref, List.getElem?_set, List.length_set, List.length_map, List.length_append, List.getElem?_map, Option.map_some, Option.getD_some, ↓reduceIte, Nat.reduceLT, Nat.reduceEqDiff, Nat.zero_add, Nat.add_zero, decide_true, decide_false, Int.ofNat_lt, List.getElem?_cons_zero, List.getElem?_cons_succ, List.length_cons, List.length_nil, Nat.reduceAdd, Bool.not_true, Bool.not_false, Option.some.injEq, and_true, true_and, Bool.false_eq_true, Int.toNat_natCast, out_r, out_nm, pout_r, pout_nm, rs_n, rs_t, rs_c, one1, one2, one3, Option.bind_some, exists_eq_left', deep_eq, fz_lit, fz_sl, fz_fn0, fz_agg, fz_tup, mm_n, mm_c, ev_l1, ev_la, ew_1, ew_a, lk_0, lk_s, st_0, st_s, List.nil_append, List.cons_append, List.append_nil, List.drop_zero, List.drop_succ_cons, List.take_succ_cons, List.take_zero, List.take_nil, and_self, Nat.reduceLeDiff, Nat.le_refl, hd_n, hd_c, e3_n, e3_s, e3_a, mw_s, Option.map_none, rep_s, rep_0, bt_tf, bt_ff, bt_tt, bt_ft, ev_build, fp_0, fp_1, fp_a, spl_0, spl_s, Nat.mul_one, Nat.zero_mul, Nat.reduceMul, ev_iaddrPk, Int.reduceEq, true_or, or_true, or_self, hl', h0, h1, h2, hwa, hwb, hra, hrb, hw1, hw2, ev_iaddrP0, Nat.reduceLT]
  refine wc_pu (p25 (s := 1 + a % 12) (n := 1 + b % 6) (by omega) (by omega) (by omega) (by omega)) rfl ?_
  rintro _ ⟨v, rfl, ⟨nc, cc, nq, cq, e1, e2, rfl⟩⟩
  simp only [wk_skip, wk_reg, wk_dreg, wk_frz, wk_seq, wk_cond, wk_block, wk_loop, wk_exit, wk_scope, wk_ret, pk_nil, pk_seqN, pk_seqE, pk_seqR, pk_blkN, pk_blkE, pk_blkR, pk_invN, pk_invE, pk_invR, wo_nil, wo_cons, wd_nil, wd_cons, want_n, want_s, put_s, put_n, I.cls, List.map, opv_t, opv_i, opv_b, opv_n, opv_f, opv_s, ev_mv, ev_pick, ev_len, ev_lenR, ev_bin, ev_beqF, ev_beqT, ev_not, ev_conv, ev_ext, ev_mkfn, ev_faddr, ev_faddrF, ev_fieldF, ev_fieldT, ev_max, ev_min, ev_snilS, ev_snilR, ev_load1F, sb_lss, sb_leq, sb_gtr, sb_geq, sb_eql, sb_neq, sb_add, sb_sub, sb_mul, map_s, en_new, en_boxA, leaf_i, leaf_b, leaf_sl, leaf_ref, List.getElem?_set, List.length_set, List.length_map, List.length_append, List.getElem?_map, Option.map_some, Option.getD_some, ↓reduceIte, Nat.reduceLT, Nat.reduceEqDiff, Nat.zero_add, Nat.add_zero, decide_true, decide_false, Int.ofNat_lt, List.getElem?_cons_zero, List.getElem?_cons_succ, List.length_cons, List.length_nil, Nat.reduceAdd, Bool.not_true, Bool.not_false, Option.some.injEq, and_true, true_and, Bool.false_eq_true, Int.toNat_natCast, out_r, out_nm, pout_r, pout_nm, rs_n, rs_t, rs_c, one1, one2, one3, Option.bind_some, exists_eq_left', deep_eq, fz_lit, fz_sl, fz_fn0, fz_agg, fz_tup, mm_n, mm_c, ev_l1, ev_la, ew_1, ew_a, lk_0, lk_s, st_0, st_s, List.nil_append, List.cons_append, List.append_nil, List.drop_zero, List.drop_succ_cons, List.take_succ_cons, List.take_zero, List.take_nil, and_self, Nat.reduceLeDiff, Nat.le_refl, hd_n, hd_c, e3_n, e3_s, e3_a, mw_s, Option.map_none, rep_s, rep_0, bt_tf, bt_ff, bt_tt, bt_ft, ev_build, fp_0, fp_1, fp_a, spl_0, spl_s, Nat.mul_one, Nat.zero_mul, Nat.reduceMul, ev_iaddrPk, Int.reduceEq, true_or, or_true, or_self, hl', h0, h1, h2]
  refine wl_of (fun k fr h' => fr.length = 42 ∧ k ≤ l.length ∧ l.length - k ≤ n ∧ fr[1]? = some (.sl nl l.length cap xs) ∧ fr[2]? = some (iv n) ∧ fr[6]? = some (.ptr 1 0) ∧ fr[7]? = some (.ptr 2 0) ∧ fr[9]? = some (iv (l.length - k : Nat)) ∧
      ∃ (A : Option (List AV)) (T : Heap) (D : Dsk) (d3 : List AV), h' = A :: some [iv 0, .sl true 0 (some 0) [], .sl true 0 (some 0) []] :: some d3 :: T ∧ (PlayR (l.length - k) D ∧ D.cells.length ≤ 6) ∧ DR D (.agg d3)) l.length ?_ ?_
  · simp only [wk_skip, wk_reg, wk_dreg, wk_frz, wk_seq, wk_cond, wk_block, wk_loop, wk_exit, wk_scope, wk_ret, pk_nil, pk_seqN, pk_seqE, pk_seqR, pk_blkN, pk_blkE, pk_blkR, pk_invN, pk_invE, pk_invR, wo_nil, wo_cons, wd_nil, wd_cons, want_n, want_s, put_s, put_n, I.cls, List.map, opv_t, opv_i, opv_b, opv_n, opv_f, opv_s, ev_mv, ev_pick, ev_len, ev_lenR, ev_bin, ev_beqF, ev_beqT, ev_not, ev_conv, ev_ext, ev_mkfn, ev_faddr, ev_faddrF, ev_fieldF, ev_fieldT, ev_max, ev_min, ev_snilS, ev_snilR, ev_load1F, sb_lss, sb_leq, sb_gtr, sb_geq, sb_eql, sb_neq, sb_add, sb_sub, sb_mul, map_s, en_new, en_boxA, leaf_i, leaf_b, leaf_sl, leaf_ref, List.getElem?_set, List.length_set, List.length_map, List.length_append, List.getElem?_map, Option.map_some, Option.getD_some, ↓reduceIte, Nat.reduceLT, Nat.reduceEqDiff, Nat.zero_add, Nat.add_zero, decide_true, decide_false, Int.ofNat_lt, List.getElem?_cons_zero, List.getElem?_cons_succ, List.length_cons, List.length_nil, Nat.reduceAdd, Bool.not_true, Bool.not_false, Option.some.injEq, and_true, true_and, Bool.false_eq_true, Int.toNat_natCast, out_r, out_nm, pout_r, pout_nm, rs_n, rs_t, rs_c, one1, one2, one3, Option.bind_some, exists_eq_left', deep_eq, fz_lit, fz_sl, fz_fn0, fz_agg, fz_tup, mm_n, mm_c, ev_l1, ev_la, ew_1, ew_a, lk_0, lk_s, st_0, st_s, List.nil_append, List.cons_append, List.append_nil, List.drop_zero, List.drop_succ_cons, List.take_succ_cons, List.take_zero, List.take_nil, and_self, Nat.reduceLeDiff, Nat.le_refl, hd_n, hd_c, e3_n, e3_s, e3_a, mw_s, Option.map_none, rep_s, rep_0, bt_tf, bt_ff, bt_tt, bt_ft, ev_build, fp_0, fp_1, fp_a, spl_0, spl_s, Nat.mul_one, Nat.zero_mul, Nat.reduceMul, ev_iaddrPk, Int.reduceEq, true_or, or_true, or_self, hl', h1, h2, Nat.sub_self]
    exact ⟨Nat.zero_le _, rfl, _, _, newD (1 + a % 12) (1 + b % 6), _, rfl, ⟨⟨newD_ok (by omega) (by omega) (by omega) (by omega), Nat.le_refl _, fun x hx => by cases hx⟩, by simp [newD]; omega⟩, nc, cc, nq, cq, e1, e2, rfl⟩
  · rintro k fr _ ⟨hfl, hk, hkn, h1, h2, h6, h7, h9, A, T, D, d3, rfl, ⟨⟨hok, hts, hfo⟩, h6c⟩, hv⟩
    have hv0 := hv
    obtain ⟨nc, cc, nq, cq, e1, e2, e3⟩ := hv
    simp only [AV.agg.injEq] at e3
    subst e3
    generalize hi : l.length - k = i at *
    by_cases hlt : i < l.length
    · have hw := wrapS hlt (by omega)
      have hd := decT hlt
      by_cases hin : i < n
      · have hdn := decT hin
        have hfa := fun g => ev_iaddrN (g := g) nl l.length i 3 cap xs (by omega) hlt hxl
        have hlo := fun g => ev_loadAF (g := g) (i * 3) 3 xs (by omega)
        have hr := hraw i hlt
        have hr0 := hr
        obtain ⟨r1, r2, y, ⟨ynl, ycl, hynl, rfl⟩, r4⟩ := hr
        simp only [AV.agg.injEq] at r4
        rw [r4] at hr0 hlo
        simp only [wk_skip, wk_reg, wk_dreg, wk_frz, wk_seq, wk_cond, wk_block, wk_loop, wk_exit, wk_scope, wk_ret, pk_nil, pk_seqN, pk_seqE, pk_seqR, pk_blkN, pk_blkE, pk_blkR, pk_invN, pk_invE, pk_invR, wo_nil, wo_cons, wd_nil, wd_cons, want_n, want_s, put_s, put_n, I.cls, List.map, opv_t, opv_i, opv_b, opv_n, opv_f, opv_s, ev_mv, ev_pick, ev_len, ev_lenR, ev_bin, ev_beqF, ev_beqT, ev_not, ev_conv, ev_ext, ev_mkfn, ev_faddr, ev_faddrF, ev_fieldF, ev_fieldT, ev_max, ev_min, ev_snilS, ev_snilR, ev_load1F, sb_lss, sb_leq, sb_gtr, sb_geq, sb_eql, sb_neq, sb_add, sb_sub, sb_mul, map_s, en_new, en_boxA, leaf_i, leaf_b, leaf_sl, leaf_ref, List.getElem?_set, List.length_set, List.length_map, List.length_append, List.getElem?_map, Option.map_some, Option.getD_some, ↓reduceIte, Nat.reduceLT, Nat.reduceEqDiff, Nat.zero_add, Nat.add_zero, decide_true, decide_false, Int.ofNat_lt, List.getElem?_cons_zero, List.getElem?_cons_succ, List.length_cons, List.length_nil, Nat.reduceAdd, Bool.not_true, Bool.not_false, Option.some.injEq, and_true, true_and, Bool.false_eq_true, Int.toNat_natCast, out_r, out_nm, pout_r, pout_nm, rs_n, rs_t, rs_c, one1, one2, one3, Option.bind_some, exists_eq_left', deep_eq, fz_lit, fz_sl, fz_fn0, fz_agg, fz_tup, mm_n, mm_c, ev_l1, ev_la, ew_1, ew_a, lk_0, lk_s, st_0, st_s, List.nil_append, List.cons_append, List.append_nil, List.drop_zero, List.drop_succ_cons, List.take_succ_cons, List.take_zero, List.take_nil, and_self, Nat.reduceLeDiff, Nat.le_refl, hd_n, hd_c, e3_n, e3_s, e3_a, mw_s, Option.map_none, rep_s, rep_0, bt_tf, bt_ff, bt_tt, bt_ft, ev_build, fp_0, fp_1, fp_a, spl_0, spl_s, Nat.mul_one, Nat.zero_mul, Nat.reduceMul, ev_iaddrPk, Int.reduceEq, true_or, or_true, or_self, hfl, h1, h2, h6, h7, h9, hd, hdn, hfa, hlo]
        refine wcd_pu (p20 hok hv0 (by omega) hr0) rfl ?_
        rintro _ ⟨D', hst, ⟨nc', cc', nq', cq', e1', e2', rfl⟩⟩
        simp only [wk_skip, wk_reg, wk_dreg, wk_frz, wk_seq, wk_cond, wk_block, wk_loop, wk_exit, wk_scope, wk_ret, pk_nil, pk_seqN, pk_seqE, pk_seqR, pk_blkN, pk_blkE, pk_blkR, pk_invN, pk_invE, pk_invR, wo_nil, wo_cons, wd_nil, wd_cons, want_n, want_s, put_s, put_n, I.cls, List.map, opv_t, opv_i, opv_b, opv_n, opv_f, opv_s, ev_mv, ev_pick, ev_len, ev_lenR, ev_bin, ev_beqF, ev_beqT, ev_not, ev_conv, ev_ext, ev_mkfn, ev_faddr, ev_faddrF, ev_fieldF, ev_fieldT, ev_max, ev_min, ev_snilS, ev_snilR, ev_load1F, sb_lss, sb_leq, sb_gtr, sb_geq, sb_eql, sb_neq, sb_add, sb_sub, sb_mul, map_s, en_new, en_boxA, leaf_i, leaf_b, leaf_sl, leaf_ref, List.getElem?_set, List.length_set, List.length_map, List.length_append, List.getElem?_map, Option.map_some, Option.getD_some, ↓reduceIte, Nat.reduceLT, Nat.reduceEqDiff, Nat.zero_add, Nat.add_zero, decide_true, decide_false, Int.ofNat_lt, List.getElem?_cons_zero, List.getElem?_cons_succ, List.length_cons, List.length_nil, Nat.reduceAdd, Bool.not_true, Bool.not_false, Option.some.injEq, and_true, true_and, Bool.false_eq_true, Int.toNat_natCast, out_r, out_nm, pout_r, pout_nm, rs_n, rs_t, rs_c, one1, one2, one3, Option.bind_some, exists_eq_left', deep_eq, fz_lit, fz_sl, fz_fn0, fz_agg, fz_tup, mm_n, mm_c, ev_l1, ev_la, ew_1, ew_a, lk_0, lk_s, st_0, st_s, List.nil_append, List.cons_append, List.append_nil, List.drop_zero, List.drop_succ_cons, List.take_succ_cons, List.take_zero, List.take_nil, and_self, Nat.reduceLeDiff, Nat.le_refl, hd_n, hd_c, e3_n, e3_s, e3_a, mw_s, Option.map_none, rep_s, rep_0, bt_tf, bt_ff, bt_tt, bt_ft, ev_build, fp_0, fp_1, fp_a, spl_0, spl_s, Nat.mul_one, Nat.zero_mul, Nat.reduceMul, ev_iaddrPk, Int.reduceEq, true_or, or_true, or_self, hfl, h1, h2, h6, h7, h9, hw]
        refine ⟨k - 1, by omega, by omega, by omega, by rw [show l.length - (k - 1) = i + 1 by omega], _, _, D', _, rfl, ⟨⟨hst.ok hok (by omega), ?_, hst.fok hfo⟩, by rw [hst.cells]; exact h6c⟩, nc', cc', nq', cq', e1', e2', rfl⟩
        rw [show l.length - (k - 1) = i + 1 by omega]
        exact hst.len hts
      · have hdn := decF hin
        simp only [wk_skip, wk_reg, wk_dreg, wk_frz, wk_seq, wk_cond, wk_block, wk_loop, wk_exit, wk_scope, wk_ret, pk_nil, pk_seqN, pk_seqE, pk_seqR, pk_blkN, pk_blkE, pk_blkR, pk_invN, pk_invE, pk_invR, wo_nil, wo_cons, wd_nil, wd_cons, want_n, want_s, put_s, put_n, I.cls, List.map, opv_t, opv_i, opv_b, opv_n, opv_f, opv_s, ev_mv, ev_pick, ev_len, ev_lenR, ev_bin, ev_beqF, ev_beqT, ev_not, ev_conv, ev_ext, ev_mkfn, ev_faddr, ev_faddrF, ev_fieldF, ev_fieldT, ev_max, ev_min, ev_snilS, ev_snilR, ev_load1F, sb_lss, sb_leq, sb_gtr, sb_geq, sb_eql, sb_neq, sb_add, sb_sub, sb_mul, map_s, en_new, en_boxA, leaf_i, leaf_b, leaf_sl, leaf_ref, List.getElem?_set, List.length_set, List.length_map, List.length_append, List.getElem?_map, Option.map_some, Option.getD_some, ↓reduceIte, Nat.reduceLT, Nat.reduceEqDiff, Nat.zero_add, Nat.add_zero, decide_true, decide_false, Int.ofNat_lt, List.getElem?_cons_zero, List.getElem?_cons_succ, List.length_cons, List.length_nil, Nat.reduceAdd, Bool.not_true, Bool.not_false, Option.some.injEq, and_true, true_and, Bool.false_eq_true, Int.toNat_natCast, out_r, out_nm, pout_r, pout_nm, rs_n, rs_t, rs_c, one1, one2, one3, Option.bind_some, exists_eq_left', deep_eq, fz_lit, fz_sl, fz_fn0, fz_agg, fz_tup, mm_n, mm_c, ev_l1, ev_la, ew_1, ew_a, lk_0, lk_s, st_0, st_s, List.nil_append, List.cons_append, List.append_nil, List.drop_zero, List.drop_succ_cons, List.take_succ_cons, List.take_zero, List.take_nil, and_self, Nat.reduceLeDiff, Nat.le_refl, hd_n, hd_c, e3_n, e3_s, e3_a, mw_s, Option.map_none, rep_s, rep_0, bt_tf, bt_ff, bt_tt, bt_ft, ev_build, fp_0, fp_1, fp_a, spl_0, spl_s, Nat.mul_one, Nat.zero_mul, Nat.reduceMul, ev_iaddrPk, Int.reduceEq, true_or, or_true, or_self, hfl, h1, h2, h6, h7, h9, hd, hdn]
        exact ⟨D, ⟨⟨hok, by omega, hfo⟩, h6c⟩, hv0⟩
    · have hd := decF hlt
      simp only [wk_skip, wk_reg, wk_dreg, wk_frz, wk_seq, wk_cond, wk_block, wk_loop, wk_exit, wk_scope, wk_ret, pk_nil, pk_seqN, pk_seqE, pk_seqR, pk_blkN, pk_blkE, pk_blkR, pk_invN, pk_invE, pk_invR, wo_nil, wo_cons, wd_nil, wd_cons, want_n, want_s, put_s, put_n, I.cls, List.map, opv_t, opv_i, opv_b, opv_n, opv_f, opv_s, ev_mv, ev_pick, ev_len, ev_lenR, ev_bin, ev_beqF, ev_beqT, ev_not, ev_conv, ev_ext, ev_mkfn, ev_faddr, ev_faddrF, ev_fieldF, ev_fieldT, ev_max, ev_min, ev_snilS, ev_snilR, ev_load1F, sb_lss, sb_leq, sb_gtr, sb_geq, sb_eql, sb_neq, sb_add, sb_sub, sb_mul, map_s, en_new, en_boxA, leaf_i, leaf_b, leaf_sl, leaf_ref, List.getElem?_set, List.length_set, List.length_map, List.length_append, List.getElem?_map, Option.map_some, Option.getD_some, ↓reduceIte, Nat.reduceLT, Nat.reduceEqDiff, Nat.zero_add, Nat.add_zero, decide_true, decide_false, Int.ofNat_lt, List.getElem?_cons_zero, List.getElem?_cons_succ, List.length_cons, List.length_nil, Nat.reduceAdd, Bool.not_true, Bool.not_false, Option.some.injEq, and_true, true_and, Bool.false_eq_true, Int.toNat_natCast, out_r, out_nm, pout_r, pout_nm, rs_n, rs_t, rs_c, one1, one2, one3, Option.bind_some, exists_eq_left', deep_eq, fz_lit, fz_sl, fz_fn0, fz_agg, fz_tup, mm_n, mm_c, ev_l1, ev_la, ew_1, ew_a, lk_0, lk_s, st_0, st_s, List.nil_append, List.cons_append, List.append_nil, List.drop_zero, List.drop_succ_cons, List.take_succ_cons, List.take_zero, List.take_nil, and_self, Nat.reduceLeDiff, Nat.le_refl, hd_n, hd_c, e3_n, e3_s, e3_a, mw_s, Option.map_none, rep_s, rep_0, bt_tf, bt_ff, bt_tt, bt_ft, ev_build, fp_0, fp_1, fp_a, spl_0, spl_s, Nat.mul_one, Nat.zero_mul, Nat.reduceMul, ev_iaddrPk, Int.reduceEq, true_or, or_true, or_self, hfl, h1, h2, h6, h7, h9, hd]
      exact ⟨D, ⟨⟨hok, by omega, hfo⟩, h6c⟩, hv0⟩
theorem p10 {a b n : Nat} (ha : a < 256) (hb : b < 256) {l : List (Nat × Nat × List UInt8)} {x : AV} (hx : Raws l x) (hn : n ≤ 100) :
    Pu tab 10 [.agg [.lit (.int .u8 a), .lit (.int .u8 b)], x, iv n] (fun r => ∃ D, PlayR n D ∧ DR D r) :=
  (p10s ha hb hx hn).mono fun r ⟨D, h, hr⟩ => ⟨D, h.1, hr⟩
end Go.Ev
/- What the disk's functions compute: Get, texts of cells. -/
namespace Go.Ev
open Go Go.Proofs

theorem getR_done (t : Nat) : ∀ (ts : List T3) (row : List AV), t < row.length → (∀ x ∈ ts, x.1 = false → 0 ≤ x.2.1) → getR (t : Int) row ts = (doneRow ts row).getD t .und
  | [], row, ht, _ => by simp [getR, lastHit, doneRow]
  | x :: r, row, ht, h => by
    obtain ⟨f, n, d⟩ := x
    have ih := fun row' h' => getR_done t r row' h' fun x hx => h x (List.mem_cons_of_mem _ hx)
    show getR (t : Int) row ((f, n, d) :: r) = (doneRow r (if f = true then row else row.set n.toNat d)).getD t .und
    cases f with
    | true =>
      simp only [if_true]
      rw [← ih row ht]
      simp only [getR, lastHit]
      cases lastHit (t : Int) r <;> simp
    | false =>
      have hn := h _ List.mem_cons_self rfl
      simp only [Bool.false_eq_true, if_false]
      rw [← ih _ (by simpa using ht)]
      simp only [getR, lastHit]
      cases lastHit (t : Int) r with
      | some d => rfl
      | none =>
        simp only [Bool.not_false, Bool.true_and, decide_eq_true_eq, Int.toNat_natCast]
        by_cases e : n = (t : Int)
        · subst e
          simp [List.getD, List.getElem?_set_self, ht]
        · have hn' : 0 ≤ n := hn
          have : n.toNat ≠ t := by omega
          simp [e, List.getD, List.getElem?_set_ne this]
/-- What is read from a cell: what it has when all is done. -/
theorem p14 {D : Dsk} (hok : DOk D) {v : AV} (hv : DR D v) {t : Nat} (ht : t < D.cells.length) : Pu tab 14 [v, iv t] (fun r => ∃ y d, (doneRow D.ts D.cells)[t]? = some y ∧ Same d y ∧ r = .tup [y, iv 0]) := by
  obtain ⟨nc, cc, nq, cq, h1, h2, rfl⟩ := hv
  have hc1 := hok.c1
  have hq1 := hok.q1
  have hlen : t < (doneRow D.ts D.cells).length := by rw [doneRow_len]; exact ht
  have hy := List.getElem?_eq_getElem hlen
  have hg := getR_done t D.ts D.cells ht fun x hx hf => ((hok.ts x hx).2 hf).1
  have hg2 : (doneRow D.ts D.cells).getD t .und = (doneRow D.ts D.cells)[t] := by simp [List.getD, hy]
  obtain ⟨nl, cap, d, e1, e2, e3⟩ := doneRow_dat D.ts D.cells hok.cells (fun x hx => (hok.ts x hx).1) _ (List.getElem_mem hlen)
  have ht2 : tab 14 = some (extFn getF) := by unfold tab; rfl
  have hcl := (hok.cells _ (List.getElem_mem ht)).sl
  refine (pu_ext (v := .tup [(doneRow D.ts D.cells)[t], iv 0]) ht2 ?_).mono fun r hr => ?_
  · simp only [getF, trip_flat D.ts fun x hx => (hok.ts x hx).1.sl]
    rw [if_pos ⟨trivial, trivial, by omega⟩, if_pos ⟨by omega, by omega⟩]
    simp only [List.getD, Int.toNat_natCast, List.getElem?_eq_getElem ht, Option.getD_some, hcl, if_true]
    rw [hg, hg2]
  · subst hr
    exact ⟨_, d, hy, ⟨nl, cap, e1, e3⟩, rfl⟩
theorem p14n {D : Dsk} (hok : DOk D) {v : AV} (hv : DR D v) {t : Int} (ht : hasC D.cells.length t = false) : Pu tab 14 [v, iv t] (· = .tup [.sl true 0 (some 0) [], iv 230]) := by
  obtain ⟨nc, cc, nq, cq, h1, h2, rfl⟩ := hv
  have hc1 := hok.c1
  have hq1 := hok.q1
  have ht2 : tab 14 = some (extFn getF) := by unfold tab; rfl
  refine pu_ext ht2 ?_
  simp only [getF, trip_flat D.ts fun x hx => (hok.ts x hx).1.sl]
  have hn : ¬ (0 ≤ t ∧ t < (D.cells.length : Int)) := by
    rintro ⟨e1, e2⟩
    simp [hasC, e1, e2] at ht
  rw [if_pos ⟨trivial, trivial, by omega⟩, if_neg hn]

theorem DR.done {sz n : Nat} {row : List AV} {v : AV} (h : DR ⟨sz, row, []⟩ v) (hn : row.length = n) : ∃ (nc : Bool) (cc : Option Nat) (nq : Bool) (cq : Option Nat), v = .agg [iv sz, .sl nc n cc row, .sl nq 0 cq []] := by
  obtain ⟨nc, cc, nq, cq, _, _, rfl⟩ := h
  subst hn
  exact ⟨nc, cc, nq, cq, rfl⟩

/-- A text. -/
abbrev tx (d : List UInt8) : AV := .lit (.string ⟨d.toArray⟩)
theorem uv_byte (b : UInt8) : byteOf (uv b) = some b := by
  simp [uv, byteOf]
theorem bytes_of : ∀ d : List UInt8, (d.map uv).mapM byteOf = some d
  | [] => rfl
  | b :: r => by rw [List.map_cons, List.mapM_cons, uv_byte, bytes_of r]; rfl
theorem map_uv_inj {d e : List UInt8} (h : d.map uv = e.map uv) : d = e := by
  have h1 := bytes_of d
  rw [h, bytes_of e] at h1
  exact (Option.some.inj h1).symm
theorem Same.inj {d e : List UInt8} {x : AV} (h : Same d x) (k : Same e x) : d = e := by
  obtain ⟨_, _, _, rfl⟩ := h
  obtain ⟨_, _, _, h2⟩ := k
  simp only [AV.sl.injEq] at h2
  exact map_uv_inj h2.2.2.2

theorem ev_b2s {g : Look} {nl : Bool} {cap : Option Nat} (d : List UInt8) : evR g .b2s [.sl nl d.length cap (d.map uv)] = some (tx d) := by
  simp only [evR, slC, List.length_map, Nat.mul_one, if_true, b2sOf, bytes_of, Option.map_some]
theorem tx_list (d : List UInt8) : (⟨d.toArray⟩ : ByteArray).toList = d := by
  exact ByteArray.toList_mk d
theorem sb_sneq (d e : List UInt8) : sbin .neq (.string ⟨d.toArray⟩) (.string ⟨e.toArray⟩) = some (.bool (!decide (d = e))) := by
  simp only [sbin, tx_list]
  by_cases h : d = e <;> simp [h]
theorem sb_seq (d e : List UInt8) : sbin .eql (.string ⟨d.toArray⟩) (.string ⟨e.toArray⟩) = some (.bool (decide (d = e))) := by
  simp only [sbin, tx_list]
  by_cases h : d = e <;> simp [h]
end Go.Ev
