/- What the disk's functions compute: the reference's Put. -/
import Derived.Test.YtpjjloaphlaokaaFdF
set_option linter.unusedVariables false
set_option linter.unusedSimpArgs false
set_option maxRecDepth 20000
namespace Go.Ev
open Go Go.Proofs

theorem ews_r {l : List Nat} {h : Heap} {s o m k sz b : Nat} {c : Option Nat} {xs ys : List AV} {y : AV} (hl : look h o = some xs) (hm : xs.length = m * sz) (hy : slC (fun _ => none) sz y = some (k, ys)) (ho : l.contains o = true) (hso : l.contains s = true) (hk : k ≠ 0) (hs : (2 * (m + k) + 192) * b ≤ 2 ^ 48) (hs2 : m + k ≤ 2 ^ 60) :
    evWS l h s sz b [.ref o 0 m sz c, y] = some (.ref s 0 (m + k) sz (capFit (m + k) c), (h.set o none).set s (some (xs ++ ys))) := by
  simp only [evWS, slC_refN _ sz o m c hl hm, hy]
  rw [if_pos ⟨ho, hso⟩, if_neg hk, if_pos ⟨hs, hs2⟩]
theorem ews_r0 {l : List Nat} {h : Heap} {s o m sz b : Nat} {c : Option Nat} {xs ys : List AV} {y : AV} (hl : look h o = some xs) (hm : xs.length = m * sz) (hy : slC (fun _ => none) sz y = some (0, ys)) (ho : l.contains o = true) (hso : l.contains s = true) :
    evWS l h s sz b [.ref o 0 m sz c, y] = some (.ref o 0 m sz c, h) := by
  simp only [evWS, slC_refN _ sz o m c hl hm, hy]
  rw [if_pos ⟨ho, hso⟩]
  rfl
theorem mapM_app {g : Look} {n : Nat} : ∀ (xs ys xs' ys' : List AV), xs.mapM (fz g n) = some xs' → ys.mapM (fz g n) = some ys' → (xs ++ ys).mapM (fz g n) = some (xs' ++ ys')
  | [], ys, xs', ys', h1, h2 => by rw [mm_n] at h1; cases h1; exact h2
  | x :: xs, ys, xs', ys', h1, h2 => by
    rw [mm_c] at h1
    simp only [Option.bind_eq_some_iff, Option.map_eq_some_iff] at h1
    obtain ⟨y, h3, zs, h4, rfl⟩ := h1
    rw [List.cons_append, mm_c, h3, mapM_app xs ys zs ys' h4 h2]
    rfl
theorem fz_refM {g : Look} (n o m sz : Nat) (c : Option Nat) {cs cs' : List AV} (hg : g o = some cs) (hm : cs.length = m * sz) (hs : cs.mapM (fz g n) = some cs') : fz g (n + 1) (.ref o 0 m sz c) = some (.sl false m c cs') := by
  simp only [fz, rdM, hg]
  rw [if_pos (by omega), List.drop_zero, List.take_of_length_le (by omega)]
  simp only [hs, Option.map_some]

theorem p35 {D : Dsk} (hok : DOk D) {v x : AV} (hv : DR D v) (t : Int) {d : List UInt8} (hx : Same d x) : Pu tab 35 [v, iv t, x] (PutR D v t d) := by
  have h33 := p33 hv t
  have hv0 := hv
  have hx0 := hx
  obtain ⟨nc, cc, nq, cq, h1, h2, rfl⟩ := hv
  obtain ⟨nl, cl, hnl, rfl⟩ := hx
  refine pu3 _ tab35 rfl (by decide) fun fr hfl h0 h1' h2' => ?_
  have hl' : fr.length = 34 := hfl
  simp only [A35, wk_skip, wk_reg, wk_dreg, wk_frz, wk_seq, wk_cond, wk_block, wk_loop, wk_exit, wk_scope, wk_ret, pk_nil, pk_seqN, pk_seqE, pk_seqR, pk_blkN, pk_blkE, pk_blkR, pk_invN, pk_invE, pk_invR, wo_nil, wo_cons, wd_nil, wd_cons, want_n, want_s, put_s, put_n, I.cls, List.map, opv_t, opv_i, opv_b, opv_n, opv_f, opv_s, ev_mv, ev_pick, ev_len, ev_lenR, ev_bin, ev_beqF, ev_beqT, ev_not, ev_conv, ev_ext, ev_mkfn, ev_faddr, ev_faddrF, ev_fieldF, ev_fieldT, ev_max, ev_min, ev_snilS, ev_snilR, ev_load1F, sb_lss, sb_leq, sb_gtr, sb_geq, sb_eql, sb_neq, sb_add, sb_sub, sb_mul, map_s, en_new, en_boxA, leaf_i, leaf_b, leaf_sl, leaf_ref, List.getElem?_set, List.length_set, List.length_map, List.length_append, List.getElem?_map, Option.map_some, Option.getD_some, ↓reduceIte, Nat.reduceLT, Nat.reduceEqDiff, Nat.zero_add, Nat.add_zero, decide_true, decide_false, Int.ofNat_lt, List.getElem?_cons_zero, List.getElem?_cons_succ, List.length_cons, List.length_nil, Nat.reduceAdd, Bool.not_true, Bool.not_false, Option.some.injEq, and_true, true_and, Bool.false_eq_true, Int.toNat_natCast, out_r, out_nm, pout_r, pout_nm, rs_n, rs_t, rs_c, one1, one2, one3, Option.bind_some, exists_eq_left', deep_eq, fz_lit, fz_sl, fz_fn0, fz_agg, fz_tup, mm_n, mm_c, ev_l1, ev_la, ew_1, ew_a, lk_0, lk_s, st_0, st_s, List.nil_append, List.cons_append, List.append_nil, List.drop_zero, List.drop_succ_cons, List.take_succ_cons, List.take_zero, List.take_nil, and_self, Nat.reduceLeDiff, Nat.le_refl, hd_n, hd_c, e3_n, e3_s, e3_a, mw_s, Option.map_none, rep_s, rep_0, bt_tf, bt_ff, bt_tt, bt_ft, ev_build, fp_0, fp_1, fp_a, spl_0, spl_s, Nat.mul_one, Nat.zero_mul, Nat.reduceMul, ev_iaddrPk, Int.reduceEq, true_or, or_true, or_self, hl', h0, h1', h2']
  refine wc_pu h33 rfl ?_
  rintro w rfl
  cases hh : hasC D.cells.length t with
  | false =>
    simp only [wk_skip, wk_reg, wk_dreg, wk_frz, wk_seq, wk_cond, wk_block, wk_loop, wk_exit, wk_scope, wk_ret, pk_nil, pk_seqN, pk_seqE, pk_seqR, pk_blkN, pk_blkE, pk_blkR, pk_invN, pk_invE, pk_invR, wo_nil, wo_cons, wd_nil, wd_cons, want_n, want_s, put_s, put_n, I.cls, List.map, opv_t, opv_i, opv_b, opv_n, opv_f, opv_s, ev_mv, ev_pick, ev_len, ev_lenR, ev_bin, ev_beqF, ev_beqT, ev_not, ev_conv, ev_ext, ev_mkfn, ev_faddr, ev_faddrF, ev_fieldF, ev_fieldT, ev_max, ev_min, ev_snilS, ev_snilR, ev_load1F, sb_lss, sb_leq, sb_gtr, sb_geq, sb_eql, sb_neq, sb_add, sb_sub, sb_mul, map_s, en_new, en_boxA, leaf_i, leaf_b, leaf_sl, leaf_ref, List.getElem?_set, List.length_set, List.length_map, List.length_append, List.getElem?_map, Option.map_some, Option.getD_some, ↓reduceIte, Nat.reduceLT, Nat.reduceEqDiff, Nat.zero_add, Nat.add_zero, decide_true, decide_false, Int.ofNat_lt, List.getElem?_cons_zero, List.getElem?_cons_succ, List.length_cons, List.length_nil, Nat.reduceAdd, Bool.not_true, Bool.not_false, Option.some.injEq, and_true, true_and, Bool.false_eq_true, Int.toNat_natCast, out_r, out_nm, pout_r, pout_nm, rs_n, rs_t, rs_c, one1, one2, one3, Option.bind_some, exists_eq_left', deep_eq, fz_lit, fz_sl, fz_fn0, fz_agg, fz_tup, mm_n, mm_c, ev_l1, ev_la, ew_1, ew_a, lk_0, lk_s, st_0, st_s, List.nil_append, List.cons_append, List.append_nil, List.drop_zero, List.drop_succ_cons, List.take_succ_cons, List.take_zero, List.take_nil, and_self, Nat.reduceLeDiff, Nat.le_refl, hd_n, hd_c, e3_n, e3_s, e3_a, mw_s, Option.map_none, rep_s, rep_0, bt_tf, bt_ff, bt_tt, bt_ft, ev_build, fp_0, fp_1, fp_a, spl_0, spl_s, Nat.mul_one, Nat.zero_mul, Nat.reduceMul, ev_iaddrPk, Int.reduceEq, true_or, or_true, or_self, hl', h0, h1', h2']
    exact .inr ⟨by simp [hh], rfl⟩
  | true =>
    by_cases hd : D.sz < d.length
    · have hd' := decT hd
      simp only [wk_skip, wk_reg, wk_dreg, wk_frz, wk_seq, wk_cond, wk_block, wk_loop, wk_exit, wk_scope, wk_ret, pk_nil, pk_seqN, pk_seqE, pk_seqR, pk_blkN, pk_blkE, pk_blkR, pk_invN, pk_invE, pk_invR, wo_nil, wo_cons, wd_nil, wd_cons, want_n, want_s, put_s, put_n, I.cls, List.map, opv_t, opv_i, opv_b, opv_n, opv_f, opv_s, ev_mv, ev_pick, ev_len, ev_lenR, ev_bin, ev_beqF, ev_beqT, ev_not, ev_conv, ev_ext, ev_mkfn, ev_faddr, ev_faddrF, ev_fieldF, ev_fieldT, ev_max, ev_min, ev_snilS, ev_snilR, ev_load1F, sb_lss, sb_leq, sb_gtr, sb_geq, sb_eql, sb_neq, sb_add, sb_sub, sb_mul, map_s, en_new, en_boxA, leaf_i, leaf_b, leaf_sl, leaf_ref, List.getElem?_set, List.length_set, List.length_map, List.length_append, List.getElem?_map, Option.map_some, Option.getD_some, ↓reduceIte, Nat.reduceLT, Nat.reduceEqDiff, Nat.zero_add, Nat.add_zero, decide_true, decide_false, Int.ofNat_lt, List.getElem?_cons_zero, List.getElem?_cons_succ, List.length_cons, List.length_nil, Nat.reduceAdd, Bool.not_true, Bool.not_false, Option.some.injEq, and_true, true_and, Bool.false_eq_true, Int.toNat_natCast, out_r, out_nm, pout_r, pout_nm, rs_n, rs_t, rs_c, one1, one2, one3, Option.bind_some, exists_eq_left', deep_eq, fz_lit, fz_sl, fz_fn0, fz_agg, fz_tup, mm_n, mm_c, ev_l1, ev_la, ew_1, ew_a, lk_0, lk_s, st_0, st_s, List.nil_append, List.cons_append, List.append_nil, List.drop_zero, List.drop_succ_cons, List.take_succ_cons, List.take_zero, List.take_nil, and_self, Nat.reduceLeDiff, Nat.le_refl, hd_n, hd_c, e3_n, e3_s, e3_a, mw_s, Option.map_none, rep_s, rep_0, bt_tf, bt_ff, bt_tt, bt_ft, ev_build, fp_0, fp_1, fp_a, spl_0, spl_s, Nat.mul_one, Nat.zero_mul, Nat.reduceMul, ev_iaddrPk, Int.reduceEq, true_or, or_true, or_self, hl', h0, h1', h2', hd']
      exact .inr ⟨by intro h; omega, rfl⟩
    · have hd' := decF hd
      simp only [wk_skip, wk_reg, wk_dreg, wk_frz, wk_seq, wk_cond, wk_block, wk_loop, wk_exit, wk_scope, wk_ret, pk_nil, pk_seqN, pk_seqE, pk_seqR, pk_blkN, pk_blkE, pk_blkR, pk_invN, pk_invE, pk_invR, wo_nil, wo_cons, wd_nil, wd_cons, want_n, want_s, put_s, put_n, I.cls, List.map, opv_t, opv_i, opv_b, opv_n, opv_f, opv_s, ev_mv, ev_pick, ev_len, ev_lenR, ev_bin, ev_beqF, ev_beqT, ev_not, ev_conv, ev_ext, ev_mkfn, ev_faddr, ev_faddrF, ev_fieldF, ev_fieldT, ev_max, ev_min, ev_snilS, ev_snilR, ev_load1F, sb_lss, sb_leq, sb_gtr, sb_geq, sb_eql, sb_neq, sb_add, sb_sub, sb_mul, map_s, en_new, en_boxA, leaf_i, leaf_b, leaf_sl, leaf_ref, List.getElem?_set, List.length_set, List.length_map, List.length_append, List.getElem?_map, Option.map_some, Option.getD_some, ↓reduceIte, Nat.reduceLT, Nat.reduceEqDiff, Nat.zero_add, Nat.add_zero, decide_true, decide_false, Int.ofNat_lt, List.getElem?_cons_zero, List.getElem?_cons_succ, List.length_cons, List.length_nil, Nat.reduceAdd, Bool.not_true, Bool.not_false, Option.some.injEq, and_true, true_and, Bool.false_eq_true, Int.toNat_natCast, out_r, out_nm, pout_r, pout_nm, rs_n, rs_t, rs_c, one1, one2, one3, Option.bind_some, exists_eq_left', deep_eq, fz_lit, fz_sl, fz_fn0, fz_agg, fz_tup, mm_n, mm_c, ev_l1, ev_la, ew_1, ew_a, lk_0, lk_s, st_0, st_s, List.nil_append, List.cons_append, List.append_nil, List.drop_zero, List.drop_succ_cons, List.take_succ_cons, List.take_zero, List.take_nil, and_self, Nat.reduceLeDiff, Nat.le_refl, hd_n, hd_c, e3_n, e3_s, e3_a, mw_s, Option.map_none, rep_s, rep_0, bt_tf, bt_ff, bt_tt, bt_ft, ev_build, fp_0, fp_1, fp_a, spl_0, spl_s, Nat.mul_one, Nat.zero_mul, Nat.reduceMul, ev_iaddrPk, Int.reduceEq, true_or, or_true, or_self, hl', h0, h1', h2', hd']
      obtain ⟨r, h', ⟨p, q, T, c, rfl, rfl, tp, tq, hpq, hc⟩, hcl⟩ := c36 [some [iv D.sz, .sl nc D.cells.length cc D.cells, .sl nq D.ts.length cq (flat D.ts)], some [iv 0, .sl true 0 (some 0) [], .sl true 0 (some 0) []]] hok hv0
      refine wc_of hcl ?_
      have hq := look_lt tq
      have n4 : (T.length = T.length + 4) = False := by simp
      have n6 : (T.length = T.length + 6) = False := by simp
      have n8 : (T.length = T.length + 8) = False := by simp
      obtain ⟨vv, Z3, Z5, hews, hleaf, c', hfz⟩ : ∃ (vv : AV) (Z3 Z5 : Option (List AV)), (∀ x y A, evWS [T.length + 1 + 1 + 1 + 5, T.length + 1 + 1 + 1 + 3] (x :: y :: (T ++ [A, none, none, none, some [], none, none, none, none, none, none, none])) (T.length + 1 + 1 + 1 + 5) 1 1 [.ref (T.length + 1 + 1 + 1 + 3) 0 0 1 (some 0), .sl nl d.length cl (d.map uv)] =
          some (vv, x :: y :: (T ++ [A, none, none, none, Z3, none, Z5, none, none, none, none, none]))) ∧ vv.leaf = true ∧ ∃ c', ∀ (g : Look), g (T.length + 6) = Z3 → g (T.length + 8) = Z5 → ∀ n, fz g (n + 2) vv = some (.sl false d.length c' (d.map uv)) := by
        by_cases hl : d = []
        · subst hl
          refine ⟨.ref (T.length + 6) 0 0 1 (some 0), some [], none, fun x y A => ?_, rfl, some 0, fun g g3 g5 n => fz_refM _ _ 0 1 _ g3 rfl (mm_n _)⟩
          exact ews_r0 (xs := []) (ys := []) (look_at T [A, none, none, none, some [], none, none, none, none, none, none, none] 4) rfl rfl (by simp) (by simp)
        · have hp : d.length ≠ 0 := fun e => hl (List.length_eq_zero_iff.1 e)
          have hs2 := hok.s2
          refine ⟨.ref (T.length + 8) 0 d.length 1 none, none, some (d.map uv), fun x y A => ?_, rfl, none, fun g g3 g5 n => fz_refM _ _ _ 1 _ g5 (by simp) (mapM_id (fz_map n (fun b : UInt8 => Value.int .u8 b.toNat) d))⟩
          have := ews_r (l := [T.length + 1 + 1 + 1 + 5, T.length + 1 + 1 + 1 + 3]) (s := T.length + 1 + 1 + 1 + 5) (m := 0) (b := 1) (c := some 0) (xs := []) (ys := d.map uv) (look_at [x, y] (T ++ [A, none, none, none, some [], none, none, none, none, none, none, none]) (T.length + 4) |>.trans (look_at T [A, none, none, none, some [], none, none, none, none, none, none, none] 4)) rfl (slC_slN _ 1 nl d.length cl (d.map uv) (by simp)) (by rw [show [x, y].length + (T.length + 4) = T.length + 1 + 1 + 1 + 3 by simp; omega]; simp) (by simp) hp (by omega) (by omega)
          rw [Nat.zero_add, cap0 hp, List.nil_append] at this
          have e1 : (x :: y :: (T ++ [A, none, none, none, some [], none, none, none, none, none, none, none])).set ([x, y].length + (T.length + 4)) none = x :: y :: (T ++ [A, none, none, none, none, none, none, none, none, none, none, none]) := by
            have := set_at [x, y] (T ++ [A, none, none, none, some [], none, none, none, none, none, none, none]) (T.length + 4) none
            rw [set_at T] at this
            exact this
          have e2 : (x :: y :: (T ++ [A, none, none, none, none, none, none, none, none, none, none, none])).set (T.length + 1 + 1 + 1 + 5) (some (d.map uv)) = x :: y :: (T ++ [A, none, none, none, none, none, some (d.map uv), none, none, none, none, none]) := by
            have := set_at [x, y] (T ++ [A, none, none, none, none, none, none, none, none, none, none, none]) (T.length + 6) (some (d.map uv))
            rw [set_at T, show [x, y].length + (T.length + 6) = T.length + 1 + 1 + 1 + 5 by simp; omega] at this
            exact this
          have e3 : [x, y].length + (T.length + 4) = T.length + 1 + 1 + 1 + 3 := by simp; omega
          rw [show ([x, y] ++ (T ++ [A, none, none, none, some [], none, none, none, none, none, none, none])) = x :: y :: (T ++ [A, none, none, none, some [], none, none, none, none, none, none, none]) from rfl, e1, e2, e3] at this
          exact this
      simp only [wk_skip, wk_reg, wk_dreg, wk_frz, wk_seq, wk_cond, wk_block, wk_loop, wk_exit, wk_scope, wk_ret, pk_nil, pk_seqN, pk_seqE, pk_seqR, pk_blkN, pk_blkE, pk_blkR, pk_invN, pk_invE, pk_invR, wo_nil, wo_cons, wd_nil, wd_cons, want_n, want_s, put_s, put_n, I.cls, List.map, opv_t, opv_i, opv_b, opv_n, opv_f, opv_s, ev_mv, ev_pick, ev_len, ev_lenR, ev_bin, ev_beqF, ev_beqT, ev_not, ev_conv, ev_ext, ev_mkfn, ev_faddr, ev_faddrF, ev_fieldF, ev_fieldT, ev_max, ev_min, ev_snilS, ev_snilR, ev_load1F, sb_lss, sb_leq, sb_gtr, sb_geq, sb_eql, sb_neq, sb_add, sb_sub, sb_mul, map_s, en_new, en_boxA, leaf_i, leaf_b, leaf_sl, leaf_ref, List.getElem?_set, List.length_set, List.length_map, List.length_append, List.getElem?_map, Option.map_some, Option.getD_some, ↓reduceIte, Nat.reduceLT, Nat.reduceEqDiff, Nat.zero_add, Nat.add_zero, decide_true, decide_false, Int.ofNat_lt, List.getElem?_cons_zero, List.getElem?_cons_succ, List.length_cons, List.length_nil, Nat.reduceAdd, Bool.not_true, Bool.not_false, Option.some.injEq, and_true, true_and, Bool.false_eq_true, Int.toNat_natCast, out_r, out_nm, pout_r, pout_nm, rs_n, rs_t, rs_c, one1, one2, one3, Option.bind_some, exists_eq_left', deep_eq, fz_lit, fz_sl, fz_fn0, fz_agg, fz_tup, mm_n, mm_c, ev_l1, ev_la, ew_1, ew_a, lk_0, lk_s, st_0, st_s, List.nil_append, List.cons_append, List.append_nil, List.drop_zero, List.drop_succ_cons, List.take_succ_cons, List.take_zero, List.take_nil, and_self, Nat.reduceLeDiff, Nat.le_refl, hd_n, hd_c, e3_n, e3_s, e3_a, mw_s, Option.map_none, rep_s, rep_0, bt_tf, bt_ff, bt_tt, bt_ft, ev_build, fp_0, fp_1, fp_a, spl_0, spl_s, Nat.mul_one, Nat.zero_mul, Nat.reduceMul, ev_iaddrPk, Int.reduceEq, true_or, or_true, or_self, hl', h0, h1', h2', look_at0, look_at, set_at0, set_at, List.append_assoc, n4, n6, n8, hews, hleaf, en_bs0, en_bs3]
      have hq1 := hok.q1
      obtain ⟨T', hT'⟩ : ∃ T', T' = T.set q none := ⟨_, rfl⟩
      have hset : ∀ (X : Heap), (T ++ X).set q none = T' ++ X := fun X => by rw [hT']; exact List.set_append_left _ _ hq
      have hT1 : T'.length = T.length := by rw [hT']; exact List.length_set
      have hT2 : look T' p = some D.cells := by rw [hT']; exact (look_set_ne (by omega)).trans tp
      have l0 : ∀ X, look (T' ++ X) T.length = look X 0 := fun X => by rw [← hT1]; exact look_at0 T' X
      have s0 : ∀ X Y, (T' ++ X).set T.length Y = T' ++ X.set 0 Y := fun X Y => by rw [← hT1]; exact set_at0 T' X Y
      have lk : ∀ X k, look (T' ++ X) (T.length + k) = look X k := fun X k => by rw [← hT1]; exact look_at T' X k
      have happ : ∀ x y A, evW (x :: y :: (T ++ [A, none, none, none, Z3, none, Z5, none, some [.lit (.bool false), iv t, vv], none, none, none])) (.append 3 40) [.ref (2 + q) 0 D.ts.length 3 c, .ref (T.length + 1 + 1 + 1 + 7) 0 1 3 (some 1)] =
          some (.ref (T.length + 14) 0 (D.ts.length + 1) 3 none, x :: y :: (T' ++ [A, none, none, none, Z3, none, Z5, none, some [.lit (.bool false), iv t, vv], none, none, none, some (flat D.ts ++ [.lit (.bool false), iv t, vv])])) := by
        intro x y A
        have ha := @ew_app (x :: y :: (T ++ [A, none, none, none, Z3, none, Z5, none, some [.lit (.bool false), iv t, vv], none, none, none])) 3 (2 + q) D.ts.length 1 40 c (flat D.ts) [.lit (.bool false), iv t, vv] (.ref (T.length + 1 + 1 + 1 + 7) 0 1 3 (some 1))
          ((look_at [x, y] _ q).trans (look_pre tq _)) (flat_len _) (slC_refN _ 3 _ 1 (some 1) (look_at T [A, none, none, none, Z3, none, Z5, none, some [.lit (.bool false), iv t, vv], none, none, none] 8) rfl) (by omega) (by omega) (by omega)
        have e1 : (x :: y :: (T ++ [A, none, none, none, Z3, none, Z5, none, some [.lit (.bool false), iv t, vv], none, none, none])).set (2 + q) none = x :: y :: (T' ++ [A, none, none, none, Z3, none, Z5, none, some [.lit (.bool false), iv t, vv], none, none, none]) := by
          have := set_at [x, y] (T ++ [A, none, none, none, Z3, none, Z5, none, some [.lit (.bool false), iv t, vv], none, none, none]) q none
          rw [hset] at this
          exact this
        rw [ha, e1, cap1 hc]
        simp
      simp only [wk_skip, wk_reg, wk_dreg, wk_frz, wk_seq, wk_cond, wk_block, wk_loop, wk_exit, wk_scope, wk_ret, pk_nil, pk_seqN, pk_seqE, pk_seqR, pk_blkN, pk_blkE, pk_blkR, pk_invN, pk_invE, pk_invR, wo_nil, wo_cons, wd_nil, wd_cons, want_n, want_s, put_s, put_n, I.cls, List.map, opv_t, opv_i, opv_b, opv_n, opv_f, opv_s, ev_mv, ev_pick, ev_len, ev_lenR, ev_bin, ev_beqF, ev_beqT, ev_not, ev_conv, ev_ext, ev_mkfn, ev_faddr, ev_faddrF, ev_fieldF, ev_fieldT, ev_max, ev_min, ev_snilS, ev_snilR, ev_load1F, sb_lss, sb_leq, sb_gtr, sb_geq, sb_eql, sb_neq, sb_add, sb_sub, sb_mul, map_s, en_new, en_boxA, leaf_i, leaf_b, leaf_sl, leaf_ref, List.getElem?_set, List.length_set, List.length_map, List.length_append, List.getElem?_map, Option.map_some, Option.getD_some, ↓reduceIte, Nat.reduceLT, Nat.reduceEqDiff, Nat.zero_add, Nat.add_zero, decide_true, decide_false, Int.ofNat_lt, List.getElem?_cons_zero, List.getElem?_cons_succ, List.length_cons, List.length_nil, Nat.reduceAdd, Bool.not_true, Bool.not_false, Option.some.injEq, and_true, true_and, Bool.false_eq_true, Int.toNat_natCast, out_r, out_nm, pout_r, pout_nm, rs_n, rs_t, rs_c, one1, one2, one3, Option.bind_some, exists_eq_left', deep_eq, fz_lit, fz_sl, fz_fn0, fz_agg, fz_tup, mm_n, mm_c, ev_l1, ev_la, ew_1, ew_a, lk_0, lk_s, st_0, st_s, List.nil_append, List.cons_append, List.append_nil, List.drop_zero, List.drop_succ_cons, List.take_succ_cons, List.take_zero, List.take_nil, and_self, Nat.reduceLeDiff, Nat.le_refl, hd_n, hd_c, e3_n, e3_s, e3_a, mw_s, Option.map_none, rep_s, rep_0, bt_tf, bt_ff, bt_tt, bt_ft, ev_build, fp_0, fp_1, fp_a, spl_0, spl_s, Nat.mul_one, Nat.zero_mul, Nat.reduceMul, ev_iaddrPk, Int.reduceEq, true_or, or_true, or_self, hl', h0, h1', h2', happ, look_at0, look_at, set_at0, set_at, List.append_assoc, l0, s0, hset, lk]
      have hz1 := fun x y X => fz_refN (g := look (x :: y :: (T' ++ X))) 7 (2 + p) D.cells.length 1 none ((look_at [x, y] (T' ++ X) p).trans (look_pre hT2 X)) (by omega) fun z hz => (hok.cells z hz).fz _ _
      have hz2 := fun x y A => fz_refM (g := look (x :: y :: (T' ++ [A, none, none, none, Z3, none, Z5, none, some [.lit (.bool false), iv t, vv], none, none, none, some (flat D.ts ++ [.lit (.bool false), iv t, vv])]))) 7 (T.length + 14) (D.ts.length + 1) 3 none (cs' := flat D.ts ++ [.lit (.bool false), iv t, .sl false d.length c' (d.map uv)])
        (lk [A, none, none, none, Z3, none, Z5, none, some [.lit (.bool false), iv t, vv], none, none, none, some (flat D.ts ++ [.lit (.bool false), iv t, vv])] 12) (by simp [flat_len]; omega) (mapM_app _ _ _ _ (mapM_id (flat_fz (sz := D.sz) (fun z hz => (hok.ts z hz).1) _ 6)) (by
          rw [mm_c, mm_c, mm_c, mm_n, hfz _ (lk [A, none, none, none, Z3, none, Z5, none, some [.lit (.bool false), iv t, vv], none, none, none, some (flat D.ts ++ [.lit (.bool false), iv t, vv])] 4) (lk [A, none, none, none, Z3, none, Z5, none, some [.lit (.bool false), iv t, vv], none, none, none, some (flat D.ts ++ [.lit (.bool false), iv t, vv])] 6)]
          rfl))
      rw [hz1, Option.bind_some, hz2]
      refine ⟨_, rfl, .inl ⟨hh, by omega, .sl false d.length c' (d.map uv), _, ⟨false, c', fun h => (by cases h), rfl⟩, ⟨false, none, false, none, fun h => (by cases h), fun h => (by cases h), ?_⟩, rfl⟩⟩
      simp [Dsk.q, flat_snoc]
