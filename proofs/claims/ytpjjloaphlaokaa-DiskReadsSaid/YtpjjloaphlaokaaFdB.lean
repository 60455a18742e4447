/- What the disk's functions compute: copies, Put, Fence. -/
import Derived.Test.YtpjjloaphlaokaaFdA
set_option linter.unusedVariables false
set_option linter.unusedSimpArgs false
set_option maxRecDepth 20000
namespace Go.Ev
open Go Go.Proofs

theorem look_at (h t : Heap) (k : Nat) : look (h ++ t) (h.length + k) = look t k := by
  unfold look
  rw [List.getElem?_append_right (by omega), Nat.add_sub_cancel_left]
theorem look_at0 (h t : Heap) : look (h ++ t) h.length = look t 0 := look_at h t 0
theorem set_at (h t : Heap) (k : Nat) (x : Option (List AV)) : (h ++ t).set (h.length + k) x = h ++ t.set k x := by
  rw [List.set_append_right _ _ (by omega), Nat.add_sub_cancel_left]
theorem set_at0 (h t : Heap) (x : Option (List AV)) : (h ++ t).set h.length x = h ++ t.set 0 x := set_at h t 0 x
theorem slC_slN (g : Look) (sz : Nat) (b : Bool) (n : Nat) (c : Option Nat) (xs : List AV) (h : xs.length = n * sz) : slC g sz (.sl b n c xs) = some (n, xs) := by
  simp only [slC]
  rw [if_pos h]
theorem slC_refN (g : Look) (sz o n : Nat) (c : Option Nat) {xs : List AV} (hl : g o = some xs) (h : xs.length = n * sz) : slC g sz (.ref o 0 n sz c) = some (n, xs) := by
  simp only [slC, rdM, hl, if_true]
  rw [if_pos (by omega)]
  simp only [List.drop_zero]
  rw [List.take_of_length_le (by omega)]
  rfl
theorem ew_app {h : Heap} {sz o m k b : Nat} {c : Option Nat} {xs ys : List AV} {y : AV} (hl : look h o = some xs) (hm : xs.length = m * sz) (hy : slC (look h) sz y = some (k, ys)) (hk : k ≠ 0) (hs : (2 * (m + k) + 192) * b ≤ 2 ^ 48) (hs2 : m + k ≤ 2 ^ 60) :
    evW h (.append sz b) [.ref o 0 m sz c, y] = some (.ref h.length 0 (m + k) sz (capFit (m + k) c), h.set o none ++ [some (xs ++ ys)]) := by
  simp only [evW, slC_refN _ sz o m c hl hm, hy]
  rw [if_neg hk, if_pos ⟨hs, hs2⟩]
theorem ew_app0 {h : Heap} {sz o m b : Nat} {c : Option Nat} {xs ys : List AV} {y : AV} (hl : look h o = some xs) (hm : xs.length = m * sz) (hy : slC (look h) sz y = some (0, ys)) :
    evW h (.append sz b) [.ref o 0 m sz c, y] = some (.ref o 0 m sz c, h) := by
  simp only [evW, slC_refN _ sz o m c hl hm, hy, if_true]
theorem cap0 {n : Nat} (hn : n ≠ 0) : capFit n (some 0) = none := by simp only [capFit]; rw [if_neg (by omega)]

theorem mapM_id {g : Look} {n : Nat} : ∀ {cs : List AV}, (∀ x ∈ cs, fz g n x = some x) → cs.mapM (fz g n) = some cs
  | [], _ => mm_n _
  | x :: xs, h => by
    rw [mm_c, h x List.mem_cons_self, mapM_id fun y hy => h y (List.mem_cons_of_mem _ hy)]
    rfl
theorem fz_refN {g : Look} (n o m sz : Nat) (c : Option Nat) {cs : List AV} (hg : g o = some cs) (hm : cs.length = m * sz) (hs : ∀ x ∈ cs, fz g n x = some x) : fz g (n + 1) (.ref o 0 m sz c) = some (.sl false m c cs) := by
  simp only [fz, rdM, hg]
  rw [if_pos (by omega), List.drop_zero, List.take_of_length_le (by omega)]
  simp only [mapM_id hs, Option.map_some]
/-- The same bytes. -/
def Same (d : List UInt8) (x : AV) : Prop := ∃ (nl : Bool) (cap : Option Nat), (nl = true → d = []) ∧ x = .sl nl d.length cap (d.map uv)
theorem Same.dat {d : List UInt8} {x : AV} {sz : Nat} (h : Same d x) (hd : d.length ≤ sz) : Dat sz x := by
  obtain ⟨nl, cap, h1, rfl⟩ := h
  exact ⟨nl, cap, d, h1, hd, rfl⟩
theorem p28 {d : List UInt8} {x : AV} (hx : Same d x) (hb : d.length ≤ 1000000) : Pu tab 28 [x] (Same d) := by
  obtain ⟨nl, cl, hnl, rfl⟩ := hx
  refine pu1 _ tab28 rfl (by decide) fun fr hfl h0 => ?_
  have hl' : fr.length = 8 := hfl
  cases nl with
  | true =>
    obtain rfl := hnl rfl
    simp only [A28, wk_skip, wk_reg, wk_dreg, wk_frz, wk_seq, wk_cond, wk_block, wk_loop, wk_exit, wk_scope, wk_ret, pk_nil, pk_seqN, pk_seqE, pk_seqR, pk_blkN, pk_blkE, pk_blkR, pk_invN, pk_invE, pk_invR, wo_nil, wo_cons, wd_nil, wd_cons, want_n, want_s, put_s, put_n, I.cls, List.map, opv_t, opv_i, opv_b, opv_n, opv_f, opv_s, ev_mv, ev_pick, ev_len, ev_lenR, ev_bin, ev_beqF, ev_beqT, ev_not, ev_conv, ev_ext, ev_mkfn, ev_faddr, ev_faddrF, ev_fieldF, ev_fieldT, ev_max, ev_min, ev_snilS, ev_snilR, ev_load1F, sb_lss, sb_leq, sb_gtr, sb_geq, sb_eql, sb_neq, sb_add, sb_sub, sb_mul, map_s, en_new, en_boxA, leaf_i, leaf_b, leaf_sl, leaf_ref, List.getElem?_set, List.length_set, List.length_map, List.length_append, List.getElem?_map, Option.map_some, Option.getD_some, ↓reduceIte, Nat.reduceLT, Nat.reduceEqDiff, Nat.zero_add, Nat.add_zero, decide_true, decide_false, Int.ofNat_lt, List.getElem?_cons_zero, List.getElem?_cons_succ, List.length_cons, List.length_nil, Nat.reduceAdd, Bool.not_true, Bool.not_false, Option.some.injEq, and_true, true_and, Bool.false_eq_true, Int.toNat_natCast, out_r, out_nm, pout_r, pout_nm, rs_n, rs_t, rs_c, one1, one2, one3, Option.bind_some, exists_eq_left', deep_eq, fz_lit, fz_sl, fz_fn0, fz_agg, fz_tup, mm_n, mm_c, ev_l1, ev_la, ew_1, ew_a, lk_0, lk_s, st_0, st_s, List.nil_append, List.cons_append, List.append_nil, List.drop_zero, List.drop_succ_cons, List.take_succ_cons, List.take_zero, List.take_nil, and_self, Nat.reduceLeDiff, Nat.le_refl, hd_n, hd_c, e3_n, e3_s, e3_a, mw_s, Option.map_none, rep_s, rep_0, bt_tf, bt_ff, bt_tt, bt_ft, ev_build, fp_0, fp_1, fp_a, spl_0, spl_s, Nat.mul_one, Nat.zero_mul, Nat.reduceMul, ev_iaddrPk, Int.reduceEq, true_or, or_true, or_self, hl', h0]
    exact ⟨true, some 0, fun _ => rfl, rfl⟩
  | false =>
    by_cases hl : d = []
    · subst hl
      have ha := @ew_app0 [some []] 1 0 0 1 (some 0) [] [] (.sl false 0 cl []) rfl rfl (slC_slN _ 1 false 0 cl [] rfl)
      simp only [A28, wk_skip, wk_reg, wk_dreg, wk_frz, wk_seq, wk_cond, wk_block, wk_loop, wk_exit, wk_scope, wk_ret, pk_nil, pk_seqN, pk_seqE, pk_seqR, pk_blkN, pk_blkE, pk_blkR, pk_invN, pk_invE, pk_invR, wo_nil, wo_cons, wd_nil, wd_cons, want_n, want_s, put_s, put_n, I.cls, List.map, opv_t, opv_i, opv_b, opv_n, opv_f, opv_s, ev_mv, ev_pick, ev_len, ev_lenR, ev_bin, ev_beqF, ev_beqT, ev_not, ev_conv, ev_ext, ev_mkfn, ev_faddr, ev_faddrF, ev_fieldF, ev_fieldT, ev_max, ev_min, ev_snilS, ev_snilR, ev_load1F, sb_lss, sb_leq, sb_gtr, sb_geq, sb_eql, sb_neq, sb_add, sb_sub, sb_mul, map_s, en_new, en_boxA, leaf_i, leaf_b, leaf_sl, leaf_ref, List.getElem?_set, List.length_set, List.length_map, List.length_append, List.getElem?_map, Option.map_some, Option.getD_some, ↓reduceIte, Nat.reduceLT, Nat.reduceEqDiff, Nat.zero_add, Nat.add_zero, decide_true, decide_false, Int.ofNat_lt, List.getElem?_cons_zero, List.getElem?_cons_succ, List.length_cons, List.length_nil, Nat.reduceAdd, Bool.not_true, Bool.not_false, Option.some.injEq, and_true, true_and, Bool.false_eq_true, Int.toNat_natCast, out_r, out_nm, pout_r, pout_nm, rs_n, rs_t, rs_c, one1, one2, one3, Option.bind_some, exists_eq_left', deep_eq, fz_lit, fz_sl, fz_fn0, fz_agg, fz_tup, mm_n, mm_c, ev_l1, ev_la, ew_1, ew_a, lk_0, lk_s, st_0, st_s, List.nil_append, List.cons_append, List.append_nil, List.drop_zero, List.drop_succ_cons, List.take_succ_cons, List.take_zero, List.take_nil, and_self, Nat.reduceLeDiff, Nat.le_refl, hd_n, hd_c, e3_n, e3_s, e3_a, mw_s, Option.map_none, rep_s, rep_0, bt_tf, bt_ff, bt_tt, bt_ft, ev_build, fp_0, fp_1, fp_a, spl_0, spl_s, Nat.mul_one, Nat.zero_mul, Nat.reduceMul, ev_iaddrPk, Int.reduceEq, true_or, or_true, or_self, hl', h0, en_bs0, ha, List.map_nil]
      exact ⟨_, fz_refN 9 0 0 1 (some 0) rfl rfl (fun x hx => by cases hx), false, some 0, fun h => (by cases h), rfl⟩
    · have hp : d.length ≠ 0 := fun e => hl (List.length_eq_zero_iff.1 e)
      have ha := @ew_app [some []] 1 0 0 d.length 1 (some 0) [] (d.map uv) (.sl false d.length cl (d.map uv)) rfl rfl (slC_slN _ 1 false d.length cl (d.map uv) (by simp)) hp (by omega) (by omega)
      simp only [A28, wk_skip, wk_reg, wk_dreg, wk_frz, wk_seq, wk_cond, wk_block, wk_loop, wk_exit, wk_scope, wk_ret, pk_nil, pk_seqN, pk_seqE, pk_seqR, pk_blkN, pk_blkE, pk_blkR, pk_invN, pk_invE, pk_invR, wo_nil, wo_cons, wd_nil, wd_cons, want_n, want_s, put_s, put_n, I.cls, List.map, opv_t, opv_i, opv_b, opv_n, opv_f, opv_s, ev_mv, ev_pick, ev_len, ev_lenR, ev_bin, ev_beqF, ev_beqT, ev_not, ev_conv, ev_ext, ev_mkfn, ev_faddr, ev_faddrF, ev_fieldF, ev_fieldT, ev_max, ev_min, ev_snilS, ev_snilR, ev_load1F, sb_lss, sb_leq, sb_gtr, sb_geq, sb_eql, sb_neq, sb_add, sb_sub, sb_mul, map_s, en_new, en_boxA, leaf_i, leaf_b, leaf_sl, leaf_ref, List.getElem?_set, List.length_set, List.length_map, List.length_append, List.getElem?_map, Option.map_some, Option.getD_some, ↓reduceIte, Nat.reduceLT, Nat.reduceEqDiff, Nat.zero_add, Nat.add_zero, decide_true, decide_false, Int.ofNat_lt, List.getElem?_cons_zero, List.getElem?_cons_succ, List.length_cons, List.length_nil, Nat.reduceAdd, Bool.not_true, Bool.not_false, Option.some.injEq, and_true, true_and, Bool.false_eq_true, Int.toNat_natCast, out_r, out_nm, pout_r, pout_nm, rs_n, rs_t, rs_c, one1, one2, one3, Option.bind_some, exists_eq_left', deep_eq, fz_lit, fz_sl, fz_fn0, fz_agg, fz_tup, mm_n, mm_c, ev_l1, ev_la, ew_1, ew_a, lk_0, lk_s, st_0, st_s, List.nil_append, List.cons_append, List.append_nil, List.drop_zero, List.drop_succ_cons, List.take_succ_cons, List.take_zero, List.take_nil, and_self, Nat.reduceLeDiff, Nat.le_refl, hd_n, hd_c, e3_n, e3_s, e3_a, mw_s, Option.map_none, rep_s, rep_0, bt_tf, bt_ff, bt_tt, bt_ft, ev_build, fp_0, fp_1, fp_a, spl_0, spl_s, Nat.mul_one, Nat.zero_mul, Nat.reduceMul, ev_iaddrPk, Int.reduceEq, true_or, or_true, or_self, hl', h0, en_bs0, ha, cap0 hp]
      exact ⟨_, fz_refN 9 1 d.length 1 none rfl (by simp) (fz_map 8 (fun b : UInt8 => Value.int .u8 b.toNat) d), false, none, fun h => (by cases h), rfl⟩

theorem trip_flat : ∀ (ts : List T3), (∀ x ∈ ts, isSl x.2.2 = true) → trip (flat ts) = some ts
  | [], _ => rfl
  | x :: r, h => by
    obtain ⟨f, n, y⟩ := x
    have h1 := h _ List.mem_cons_self
    have ih := trip_flat r fun z hz => h z (List.mem_cons_of_mem _ hz)
    simp only [flat] at ih
    cases y <;> first | cases h1 | skip
    simp [flat, trip, ih]
theorem Dat.sl {sz : Nat} {x : AV} (h : Dat sz x) : isSl x = true := by
  obtain ⟨nl, cap, d, _, _, rfl⟩ := h
  rfl
/-- A disk with one write more. -/
def Dsk.q (D : Dsk) (x : T3) : Dsk := { D with ts := D.ts ++ [x] }
theorem p27 {D : Dsk} {v : AV} (hv : DR D v) (hq : D.ts.length ≤ 1000000) (f : Bool) (t : Int) (i : Bool) (n : Nat) (c : Option Nat) (xs : List AV) :
    Pu tab 27 [v, .agg [.lit (.bool f), iv t, .sl i n c xs]] (DR (D.q (f, t, .sl i n c xs))) := by
  obtain ⟨nc, cc, nq, cq, h1, h2, rfl⟩ := hv
  have he : queueF [.agg [iv D.sz, .sl nc D.cells.length cc D.cells, .sl nq D.ts.length cq (flat D.ts)], .agg [.lit (.bool f), iv t, .sl i n c xs]] =
      some (.agg [iv D.sz, .sl nc D.cells.length cc D.cells, .sl false (D.ts.length + 1) none (flat D.ts ++ [.lit (.bool f), .lit (.int .i64 t), .sl i n c xs])]) := by
    simp only [queueF]
    rw [if_pos ⟨flat_len _, by omega⟩]
  have ht : tab 27 = some (extFn queueF) := by
    unfold tab
    rfl
  exact (pu_ext ht he).mono fun v hv => by
    subst hv
    refine ⟨nc, cc, false, none, h1, fun h => (by cases h), ?_⟩
    simp [Dsk.q, flat_snoc]
theorem p13 {D : Dsk} {v : AV} (hv : DR D v) (hq : D.ts.length ≤ 1000000) : Pu tab 13 [v] (DR (D.q (true, 0, .sl true 0 (some 0) []))) := by
  have h27 := p27 hv hq true 0 true 0 (some 0) []
  obtain ⟨nc, cc, nq, cq, h1, h2, rfl⟩ := hv
  refine pu1 _ tab13 rfl (by decide) fun fr hfl h0 => ?_
  have hl' : fr.length = 6 := hfl
  simp only [A13, wk_skip, wk_reg, wk_dreg, wk_frz, wk_seq, wk_cond, wk_block, wk_loop, wk_exit, wk_scope, wk_ret, pk_nil, pk_seqN, pk_seqE, pk_seqR, pk_blkN, pk_blkE, pk_blkR, pk_invN, pk_invE, pk_invR, wo_nil, wo_cons, wd_nil, wd_cons, want_n, want_s, put_s, put_n, I.cls, List.map, opv_t, opv_i, opv_b, opv_n, opv_f, opv_s, ev_mv, ev_pick, ev_len, ev_lenR, ev_bin, ev_beqF, ev_beqT, ev_not, ev_conv, ev_ext, ev_mkfn, ev_faddr, ev_faddrF, ev_fieldF, ev_fieldT, ev_max, ev_min, ev_snilS, ev_snilR, ev_load1F, sb_lss, sb_leq, sb_gtr, sb_geq, sb_eql, sb_neq, sb_add, sb_sub, sb_mul, map_s, en_new, en_boxA, leaf_i, leaf_b, leaf_sl, leaf_ref, List.getElem?_set, List.length_set, List.length_map, List.length_append, List.getElem?_map, Option.map_some, Option.getD_some, ↓reduceIte, Nat.reduceLT, Nat.reduceEqDiff, Nat.zero_add, Nat.add_zero, decide_true, decide_false, Int.ofNat_lt, List.getElem?_cons_zero, List.getElem?_cons_succ, List.length_cons, List.length_nil, Nat.reduceAdd, Bool.not_true, Bool.not_false, Option.some.injEq, and_true, true_and, Bool.false_eq_true, Int.toNat_natCast, out_r, out_nm, pout_r, pout_nm, rs_n, rs_t, rs_c, one1, one2, one3, Option.bind_some, exists_eq_left', deep_eq, fz_lit, fz_sl, fz_fn0, fz_agg, fz_tup, mm_n, mm_c, ev_l1, ev_la, ew_1, ew_a, lk_0, lk_s, st_0, st_s, List.nil_append, List.cons_append, List.append_nil, List.drop_zero, List.drop_succ_cons, List.take_succ_cons, List.take_zero, List.take_nil, and_self, Nat.reduceLeDiff, Nat.le_refl, hd_n, hd_c, e3_n, e3_s, e3_a, mw_s, Option.map_none, rep_s, rep_0, bt_tf, bt_ff, bt_tt, bt_ft, ev_build, fp_0, fp_1, fp_a, spl_0, spl_s, Nat.mul_one, Nat.zero_mul, Nat.reduceMul, ev_iaddrPk, Int.reduceEq, true_or, or_true, or_self, hl', h0]
  refine wc_pu h27 rfl ?_
  rintro w ⟨nc', cc', nq', cq', h1', h2', rfl⟩
  simp only [wk_skip, wk_reg, wk_dreg, wk_frz, wk_seq, wk_cond, wk_block, wk_loop, wk_exit, wk_scope, wk_ret, pk_nil, pk_seqN, pk_seqE, pk_seqR, pk_blkN, pk_blkE, pk_blkR, pk_invN, pk_invE, pk_invR, wo_nil, wo_cons, wd_nil, wd_cons, want_n, want_s, put_s, put_n, I.cls, List.map, opv_t, opv_i, opv_b, opv_n, opv_f, opv_s, ev_mv, ev_pick, ev_len, ev_lenR, ev_bin, ev_beqF, ev_beqT, ev_not, ev_conv, ev_ext, ev_mkfn, ev_faddr, ev_faddrF, ev_fieldF, ev_fieldT, ev_max, ev_min, ev_snilS, ev_snilR, ev_load1F, sb_lss, sb_leq, sb_gtr, sb_geq, sb_eql, sb_neq, sb_add, sb_sub, sb_mul, map_s, en_new, en_boxA, leaf_i, leaf_b, leaf_sl, leaf_ref, List.getElem?_set, List.length_set, List.length_map, List.length_append, List.getElem?_map, Option.map_some, Option.getD_some, ↓reduceIte, Nat.reduceLT, Nat.reduceEqDiff, Nat.zero_add, Nat.add_zero, decide_true, decide_false, Int.ofNat_lt, List.getElem?_cons_zero, List.getElem?_cons_succ, List.length_cons, List.length_nil, Nat.reduceAdd, Bool.not_true, Bool.not_false, Option.some.injEq, and_true, true_and, Bool.false_eq_true, Int.toNat_natCast, out_r, out_nm, pout_r, pout_nm, rs_n, rs_t, rs_c, one1, one2, one3, Option.bind_some, exists_eq_left', deep_eq, fz_lit, fz_sl, fz_fn0, fz_agg, fz_tup, mm_n, mm_c, ev_l1, ev_la, ew_1, ew_a, lk_0, lk_s, st_0, st_s, List.nil_append, List.cons_append, List.append_nil, List.drop_zero, List.drop_succ_cons, List.take_succ_cons, List.take_zero, List.take_nil, and_self, Nat.reduceLeDiff, Nat.le_refl, hd_n, hd_c, e3_n, e3_s, e3_a, mw_s, Option.map_none, rep_s, rep_0, bt_tf, bt_ff, bt_tt, bt_ft, ev_build, fp_0, fp_1, fp_a, spl_0, spl_s, Nat.mul_one, Nat.zero_mul, Nat.reduceMul, ev_iaddrPk, Int.reduceEq, true_or, or_true, or_self, hl', h0]
  exact ⟨nc', cc', nq', cq', h1', h2', rfl⟩
end Go.Ev
