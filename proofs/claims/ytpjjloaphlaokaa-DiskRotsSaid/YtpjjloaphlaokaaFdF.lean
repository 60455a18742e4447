/- What the disk's functions compute: the reference's Copied, Fence, Put, Sync. -/
import Derived.Test.YtpjjloaphlaokaaFdE
set_option linter.unusedVariables false
set_option linter.unusedSimpArgs false
set_option maxRecDepth 20000
namespace Go.Ev
open Go Go.Proofs

def CpR (h : Heap) (D : Dsk) (r : AV) (h' : Heap) : Prop := ∃ (p q : Nat) (T : Heap) (c : Option Nat), r = .agg [iv D.sz, .ref (h.length + p) 0 D.cells.length 1 none, .ref (h.length + q) 0 D.ts.length 3 c] ∧ h' = h ++ T ∧ look T p = some D.cells ∧ look T q = some (flat D.ts) ∧ p ≠ q ∧ (c = none ∨ c = some 0)
theorem c36 (h : Heap) {D : Dsk} (hok : DOk D) {v : AV} (hv : DR D v) : ∃ r h', CpR h D r h' ∧ Cl tab 36 [v] h r h' := by
  obtain ⟨nc, cc, nq, cq, h1, h2, rfl⟩ := hv
  obtain ⟨sz, cells, ts⟩ := D
  have hc1 := hok.c1
  have hc0 := hok.c0
  have hq1 := hok.q1
  simp only at hc1 hc0 hq1 h1 h2 ⊢
  refine sh1 (CpR h ⟨sz, cells, ts⟩) tab36 rfl (by decide) fun fr hfl h0 => ?_
  have hl' : fr.length = 14 := hfl
  have ha := fun (X : Heap) => @ew_app (h ++ (X ++ [some []])) 1 (h.length + X.length) 0 cells.length 24 (some 0) [] cells (.sl nc cells.length cc cells) (by rw [look_at, look_at0]; rfl) rfl (slC_slN _ 1 nc cells.length cc cells (by simp)) (by omega) (by omega) (by omega)
  have hac := ha [some [iv sz, .sl nc cells.length cc cells, .sl nq ts.length cq (flat ts)], some [iv 0, .sl true 0 (some 0) [], .sl true 0 (some 0) []]]
  have hcp := cap0 (n := cells.length) (by omega)
  simp only [List.length_cons, List.length_nil, Nat.zero_add, Nat.reduceAdd, List.cons_append, List.nil_append] at hac
  by_cases hts : ts = []
  · subst hts
    simp only [flat, List.flatMap_nil, List.length_nil] at hac
    have hb := fun (X : Heap) => @ew_app0 (h ++ (X ++ [some []])) 3 (h.length + X.length) 0 40 (some 0) [] [] (.sl nq 0 cq []) (by rw [look_at, look_at0]; rfl) rfl (slC_slN _ 3 nq 0 cq [] rfl)
    have hbc := hb [some [iv sz, .ref (h.length + 3) 0 cells.length 1 none, .sl nq 0 cq []], some [iv 0, .sl true 0 (some 0) [], .sl true 0 (some 0) []], none, some cells]
    simp only [List.length_cons, List.length_nil, Nat.zero_add, Nat.reduceAdd, List.cons_append, List.nil_append] at hbc
    simp only [A36, wk_skip, wk_reg, wk_dreg, wk_frz, wk_seq, wk_cond, wk_block, wk_loop, wk_exit, wk_scope, wk_ret, pk_nil, pk_seqN, pk_seqE, pk_seqR, pk_blkN, pk_blkE, pk_blkR, pk_invN, pk_invE, pk_invR, wo_nil, wo_cons, wd_nil, wd_cons, want_n, want_s, put_s, put_n, I.cls, List.map, opv_t, opv_i, opv_b, opv_n, opv_f, opv_s, ev_mv, ev_pick, ev_len, ev_lenR, ev_bin, ev_beqF, ev_beqT, ev_not, ev_conv, ev_ext, ev_mkfn, ev_faddr, ev_faddrF, ev_fieldF, ev_fieldT, ev_max, ev_min, ev_snilS, ev_snilR, ev_load1F, sb_lss, sb_leq, sb_gtr, sb_geq, sb_eql, sb_neq, sb_add, sb_sub, sb_mul, map_s, en_new, en_boxA, leaf_i, leaf_b, leaf_sl, leaf_ref, List.getElem?_set, List.length_set, List.length_map, List.length_append, List.getElem?_map, Option.map_some, Option.getD_some, ↓reduceIte, Nat.reduceLT, Nat.reduceEqDiff, Nat.zero_add, Nat.add_zero, decide_true, decide_false, Int.ofNat_lt, List.getElem?_cons_zero, List.getElem?_cons_succ, List.length_cons, List.length_nil, Nat.reduceAdd, Bool.not_true, Bool.not_false, Option.some.injEq, and_true, true_and, Bool.false_eq_true, Int.toNat_natCast, out_r, out_nm, pout_r, pout_nm, rs_n, rs_t, rs_c, one1, one2, one3, Option.bind_some, exists_eq_left', deep_eq, fz_lit, fz_sl, fz_fn0, fz_agg, fz_tup, mm_n, mm_c, ev_l1, ev_la, ew_1, ew_a, lk_0, lk_s, st_0, st_s, List.nil_append, List.cons_append, List.append_nil, List.drop_zero, List.drop_succ_cons, List.take_succ_cons, List.take_zero, List.take_nil, and_self, Nat.reduceLeDiff, Nat.le_refl, hd_n, hd_c, e3_n, e3_s, e3_a, mw_s, Option.map_none, rep_s, rep_0, bt_tf, bt_ff, bt_tt, bt_ft, ev_build, fp_0, fp_1, fp_a, spl_0, spl_s, Nat.mul_one, Nat.zero_mul, Nat.reduceMul, ev_iaddrPk, Int.reduceEq, true_or, or_true, or_self, hl', h0, en_bs0, hac, hcp, hbc, flat, List.flatMap_nil, look_at, look_at0, set_at, set_at0, List.append_assoc]
    exact ⟨3, 4, _, some 0, rfl, rfl, rfl, rfl, by decide, .inr rfl⟩
  · have hp : ts.length ≠ 0 := fun e => hts (List.length_eq_zero_iff.1 e)
    have hcq := cap0 hp
    have hb := fun (X : Heap) => @ew_app (h ++ (X ++ [some []])) 3 (h.length + X.length) 0 ts.length 40 (some 0) [] (flat ts) (.sl nq ts.length cq (flat ts)) (by rw [look_at, look_at0]; rfl) rfl (slC_slN _ 3 nq ts.length cq (flat ts) (flat_len ts)) hp (by omega) (by omega)
    have hbc := hb [some [iv sz, .ref (h.length + 3) 0 cells.length 1 none, .sl nq ts.length cq (flat ts)], some [iv 0, .sl true 0 (some 0) [], .sl true 0 (some 0) []], none, some cells]
    simp only [List.length_cons, List.length_nil, Nat.zero_add, Nat.reduceAdd, List.cons_append, List.nil_append] at hbc
    simp only [A36, wk_skip, wk_reg, wk_dreg, wk_frz, wk_seq, wk_cond, wk_block, wk_loop, wk_exit, wk_scope, wk_ret, pk_nil, pk_seqN, pk_seqE, pk_seqR, pk_blkN, pk_blkE, pk_blkR, pk_invN, pk_invE, pk_invR, wo_nil, wo_cons, wd_nil, wd_cons, want_n, want_s, put_s, put_n, I.cls, List.map, opv_t, opv_i, opv_b, opv_n, opv_f, opv_s, ev_mv, ev_pick, ev_len, ev_lenR, ev_bin, ev_beqF, ev_beqT, ev_not, ev_conv, ev_ext, ev_mkfn, ev_faddr, ev_faddrF, ev_fieldF, ev_fieldT, ev_max, ev_min, ev_snilS, ev_snilR, ev_load1F, sb_lss, sb_leq, sb_gtr, sb_geq, sb_eql, sb_neq, sb_add, sb_sub, sb_mul, map_s, en_new, en_boxA, leaf_i, leaf_b, leaf_sl, leaf_ref, List.getElem?_set, List.length_set, List.length_map, List.length_append, List.getElem?_map, Option.map_some, Option.getD_some, ↓reduceIte, Nat.reduceLT, Nat.reduceEqDiff, Nat.zero_add, Nat.add_zero, decide_true, decide_false, Int.ofNat_lt, List.getElem?_cons_zero, List.getElem?_cons_succ, List.length_cons, List.length_nil, Nat.reduceAdd, Bool.not_true, Bool.not_false, Option.some.injEq, and_true, true_and, Bool.false_eq_true, Int.toNat_natCast, out_r, out_nm, pout_r, pout_nm, rs_n, rs_t, rs_c, one1, one2, one3, Option.bind_some, exists_eq_left', deep_eq, fz_lit, fz_sl, fz_fn0, fz_agg, fz_tup, mm_n, mm_c, ev_l1, ev_la, ew_1, ew_a, lk_0, lk_s, st_0, st_s, List.nil_append, List.cons_append, List.append_nil, List.drop_zero, List.drop_succ_cons, List.take_succ_cons, List.take_zero, List.take_nil, and_self, Nat.reduceLeDiff, Nat.le_refl, hd_n, hd_c, e3_n, e3_s, e3_a, mw_s, Option.map_none, rep_s, rep_0, bt_tf, bt_ff, bt_tt, bt_ft, ev_build, fp_0, fp_1, fp_a, spl_0, spl_s, Nat.mul_one, Nat.zero_mul, Nat.reduceMul, ev_iaddrPk, Int.reduceEq, true_or, or_true, or_self, hl', h0, en_bs0, hac, hcp, hbc, hcq, look_at, look_at0, set_at, set_at0, List.append_assoc]
    exact ⟨3, 5, _, none, rfl, rfl, rfl, rfl, by decide, .inl rfl⟩

theorem en_bs3 (z1 z2 z3 a b c : AV) : evN (.bslice 1 3 [z1, z2, z3] [(0, 3)]) [.agg [a, b, c]] = some ([a, b, c], fun o => .ref o 0 1 3 (some 1)) := by
  simp [evN, fillP, AV.cells?, spl]
theorem cap1 {m : Nat} {c : Option Nat} (h : c = none ∨ c = some 0) : capFit (m + 1) c = none := by
  rcases h with rfl | rfl
  · rfl
  · exact cap0 (by omega)
theorem flat_fz {sz : Nat} {ts : List T3} (h : ∀ x ∈ ts, Dat sz x.2.2) (g : Look) (n : Nat) : ∀ x ∈ flat ts, fz g (n + 1) x = some x := by
  intro x hx
  obtain ⟨y, hy, hxy⟩ := List.mem_flatMap.1 hx
  simp at hxy
  rcases hxy with rfl | rfl | rfl
  · rfl
  · rfl
  · exact (h y hy).fz g n
/-- A disk that grew by one write is a valid one. -/
theorem DOk.q {D : Dsk} (h : DOk D) {x : T3} (hx : Dat D.sz x.2.2) (hr : x.1 = false → 0 ≤ x.2.1 ∧ x.2.1 < D.cells.length) (hl : D.ts.length < 1000000) : DOk (D.q x) :=
  ⟨h.s1, h.s2, h.c0, h.c1, h.cells, by simp [Dsk.q]; omega, fun y hy => by
    rcases List.mem_append.1 hy with h1 | h1
    · exact h.ts y h1
    · obtain rfl := List.mem_singleton.1 h1
      exact ⟨hx, hr⟩⟩
theorem dat_nil (sz : Nat) : Dat sz (.sl true 0 (some 0) []) := ⟨true, some 0, [], fun _ => rfl, Nat.zero_le _, rfl⟩
theorem p34 {D : Dsk} (hok : DOk D) {v : AV} (hv : DR D v) : Pu tab 34 [v] (DR (D.q (true, 0, .sl true 0 (some 0) []))) := by
  have hv0 := hv
  obtain ⟨nc, cc, nq, cq, h1, h2, rfl⟩ := hv
  refine pu1 _ tab34 rfl (by decide) fun fr hfl h0 => ?_
  have hl' : fr.length = 13 := hfl
  simp only [A34, wk_skip, wk_reg, wk_dreg, wk_frz, wk_seq, wk_cond, wk_block, wk_loop, wk_exit, wk_scope, wk_ret, pk_nil, pk_seqN, pk_seqE, pk_seqR, pk_blkN, pk_blkE, pk_blkR, pk_invN, pk_invE, pk_invR, wo_nil, wo_cons, wd_nil, wd_cons, want_n, want_s, put_s, put_n, I.cls, List.map, opv_t, opv_i, opv_b, opv_n, opv_f, opv_s, ev_mv, ev_pick, ev_len, ev_lenR, ev_bin, ev_beqF, ev_beqT, ev_not, ev_conv, ev_ext, ev_mkfn, ev_faddr, ev_faddrF, ev_fieldF, ev_fieldT, ev_max, ev_min, ev_snilS, ev_snilR, ev_load1F, sb_lss, sb_leq, sb_gtr, sb_geq, sb_eql, sb_neq, sb_add, sb_sub, sb_mul, map_s, en_new, en_boxA, leaf_i, leaf_b, leaf_sl, leaf_ref, List.getElem?_set, List.length_set, List.length_map, List.length_append, List.getElem?_map, Option.map_some, Option.getD_some, ↓reduceIte, Nat.reduceLT, Nat.reduceEqDiff, Nat.zero_add, Nat.add_zero, decide_true, decide_false, Int.ofNat_lt, List.getElem?_cons_zero, List.getElem?_cons_succ, List.length_cons, List.length_nil, Nat.reduceAdd, Bool.not_true, Bool.not_false, Option.some.injEq, and_true, true_and, Bool.false_eq_true, Int.toNat_natCast, out_r, out_nm, pout_r, pout_nm, rs_n, rs_t, rs_c, one1, one2, one3, Option.bind_some, exists_eq_left', deep_eq, fz_lit, fz_sl, fz_fn0, fz_agg, fz_tup, mm_n, mm_c, ev_l1, ev_la, ew_1, ew_a, lk_0, lk_s, st_0, st_s, List.nil_append, List.cons_append, List.append_nil, List.drop_zero, List.drop_succ_cons, List.take_succ_cons, List.take_zero, List.take_nil, and_self, Nat.reduceLeDiff, Nat.le_refl, hd_n, hd_c, e3_n, e3_s, e3_a, mw_s, Option.map_none, rep_s, rep_0, bt_tf, bt_ff, bt_tt, bt_ft, ev_build, fp_0, fp_1, fp_a, spl_0, spl_s, Nat.mul_one, Nat.zero_mul, Nat.reduceMul, ev_iaddrPk, Int.reduceEq, true_or, or_true, or_self, hl', h0]
  obtain ⟨r, h', ⟨p, q, T, c, rfl, rfl, tp, tq, hpq, hc⟩, hcl⟩ := c36 [some [iv D.sz, .sl nc D.cells.length cc D.cells, .sl nq D.ts.length cq (flat D.ts)], some [iv 0, .sl true 0 (some 0) [], .sl true 0 (some 0) []]] hok hv0
  refine wc_of hcl ?_
  have hp := look_lt tp
  have hq := look_lt tq
  have hok2 := hok.q1
  have e2p : 2 + p = p + 1 + 1 := by omega
  have e2q : 2 + q = q + 1 + 1 := by omega
  have ha := fun x y A B C (hB : B = some [.lit (.bool true), iv 0, .sl true 0 (some 0) []]) (hC : C = (x :: y :: (T ++ [A, B]))) => @ew_app C 3 (q + 1 + 1) D.ts.length 1 40 c (flat D.ts) [.lit (.bool true), iv 0, .sl true 0 (some 0) []] (.ref (T.length + 1 + 1 + 1) 0 1 3 (some 1))
    (by rw [hC]; exact look_pre tq _) (flat_len _) (slC_refN _ 3 _ 1 (some 1) (by rw [hC, ← hB]; exact look_at T [A, B] 1) rfl) (by omega) (by omega) (by omega)
  have ha' := fun x y A => ha x y A _ _ rfl rfl
  have hcap := cap1 (m := D.ts.length) hc
  obtain ⟨T', hT'⟩ : ∃ T', T' = T.set q none := ⟨_, rfl⟩
  have hset : ∀ (X : Heap), (T ++ X).set q none = T' ++ X := fun X => by rw [hT']; exact List.set_append_left _ _ hq
  have hT1 : T'.length = T.length := by rw [hT']; exact List.length_set
  have hT2 : look T' p = some D.cells := by rw [hT']; exact (look_set_ne (by omega)).trans tp
  have l0 : ∀ X, look (T' ++ X) T.length = look X 0 := fun X => by rw [← hT1]; exact look_at0 T' X
  have s0 : ∀ X Y, (T' ++ X).set T.length Y = T' ++ X.set 0 Y := fun X Y => by rw [← hT1]; exact set_at0 T' X Y
  have l2 : ∀ X, look (T' ++ X) (T.length + 2) = look X 2 := fun X => by rw [← hT1]; exact look_at T' X 2
  simp only [wk_skip, wk_reg, wk_dreg, wk_frz, wk_seq, wk_cond, wk_block, wk_loop, wk_exit, wk_scope, wk_ret, pk_nil, pk_seqN, pk_seqE, pk_seqR, pk_blkN, pk_blkE, pk_blkR, pk_invN, pk_invE, pk_invR, wo_nil, wo_cons, wd_nil, wd_cons, want_n, want_s, put_s, put_n, I.cls, List.map, opv_t, opv_i, opv_b, opv_n, opv_f, opv_s, ev_mv, ev_pick, ev_len, ev_lenR, ev_bin, ev_beqF, ev_beqT, ev_not, ev_conv, ev_ext, ev_mkfn, ev_faddr, ev_faddrF, ev_fieldF, ev_fieldT, ev_max, ev_min, ev_snilS, ev_snilR, ev_load1F, sb_lss, sb_leq, sb_gtr, sb_geq, sb_eql, sb_neq, sb_add, sb_sub, sb_mul, map_s, en_new, en_boxA, leaf_i, leaf_b, leaf_sl, leaf_ref, List.getElem?_set, List.length_set, List.length_map, List.length_append, List.getElem?_map, Option.map_some, Option.getD_some, ↓reduceIte, Nat.reduceLT, Nat.reduceEqDiff, Nat.zero_add, Nat.add_zero, decide_true, decide_false, Int.ofNat_lt, List.getElem?_cons_zero, List.getElem?_cons_succ, List.length_cons, List.length_nil, Nat.reduceAdd, Bool.not_true, Bool.not_false, Option.some.injEq, and_true, true_and, Bool.false_eq_true, Int.toNat_natCast, out_r, out_nm, pout_r, pout_nm, rs_n, rs_t, rs_c, one1, one2, one3, Option.bind_some, exists_eq_left', deep_eq, fz_lit, fz_sl, fz_fn0, fz_agg, fz_tup, mm_n, mm_c, ev_l1, ev_la, ew_1, ew_a, lk_0, lk_s, st_0, st_s, List.nil_append, List.cons_append, List.append_nil, List.drop_zero, List.drop_succ_cons, List.take_succ_cons, List.take_zero, List.take_nil, and_self, Nat.reduceLeDiff, Nat.le_refl, hd_n, hd_c, e3_n, e3_s, e3_a, mw_s, Option.map_none, rep_s, rep_0, bt_tf, bt_ff, bt_tt, bt_ft, ev_build, fp_0, fp_1, fp_a, spl_0, spl_s, Nat.mul_one, Nat.zero_mul, Nat.reduceMul, ev_iaddrPk, Int.reduceEq, true_or, or_true, or_self, hl', h0, look_at0, look_at, set_at0, set_at, en_bs3, e2p, e2q, List.append_assoc, ha', hcap, hset, l0, s0]
  have hz1 := fun x y X => fz_refN (g := look (x :: y :: (T' ++ X))) 8 (p + 1 + 1) D.cells.length 1 none (look_pre hT2 X) (by omega) fun z hz => (hok.cells z hz).fz _ _
  have hz2 := fun x y A B => fz_refN (g := look (x :: y :: (T' ++ [A, B, some (flat D.ts ++ [.lit (.bool true), iv 0, .sl true 0 (some 0) []])]))) 8 (T.length + 2 + 1 + 1) (D.ts.length + 1) 3 none (l2 _) (by simp [flat_len]; omega) (by
    have := flat_fz (ts := D.ts ++ [(true, 0, .sl true 0 (some 0) [])]) (sz := D.sz) (fun z hz => by
      rcases List.mem_append.1 hz with h | h
      · exact (hok.ts z h).1
      · obtain rfl := List.mem_singleton.1 h
        exact dat_nil _)
    rw [flat_snoc] at this
    exact this _ 7)
  rw [hz1, Option.bind_some, hz2]
  exact ⟨_, rfl, false, none, false, none, fun h => (by cases h), fun h => (by cases h), by simp [Dsk.q, flat_snoc]⟩
end Go.Ev
/- What the disk's functions compute: the reference's New, cell, Put. -/
namespace Go.Ev
open Go Go.Proofs

theorem en_mk24 (n : Nat) (z : AV) (hn : n ≤ 2 ^ 40) : evN (.mkslice 1 24 [z]) [.lit (.int .i64 (n : Int)), .lit (.int .i64 (n : Int))] = some (List.replicate n z, fun o => .ref o 0 n 1 (some n)) := by
  have hz : zcells [z] (n * 1) = List.replicate n z := by
    unfold zcells
    apply List.ext_getElem
    · simp
    · intro i h1 h2
      simp [Nat.mod_one]
  simp only [evN, natOf, Int.natCast_nonneg, if_true, Int.toNat_natCast]
  rw [if_pos ⟨Nat.le_refl _, by omega, by omega, rfl⟩, hz]
/-- A new disk. -/
def newD (s n : Nat) : Dsk := ⟨s, List.replicate n (.sl true 0 (some 0) []), []⟩
theorem newD_ok {s n : Nat} (h1 : 1 ≤ s) (h2 : s ≤ 65536) (h3 : 1 ≤ n) (h4 : n ≤ 4096) : DOk (newD s n) :=
  ⟨h1, h2, by simpa [newD] using h3, by simpa [newD] using h4, fun x hx => by obtain ⟨_, rfl⟩ := List.mem_replicate.1 hx; exact dat_nil _, by simp [newD], fun x hx => by cases hx⟩
theorem p25 {s n : Nat} (h1 : 1 ≤ s) (h2 : s ≤ 65536) (h3 : 1 ≤ n) (h4 : n ≤ 4096) : Pu tab 25 [iv s, iv n] (fun r => ∃ v, r = .tup [v, iv 0] ∧ DR (newD s n) v) := by
  refine pu2 _ tab25 rfl (by decide) fun fr hfl h0 h1' => ?_
  have hl' : fr.length = 25 := hfl
  have d1 : decide ((s : Int) < 1) = false := decF (by omega)
  have d2 : decide ((65536 : Int) < (s : Int)) = false := decF (by omega)
  have d3 : decide ((n : Int) < 1) = false := decF (by omega)
  have d4 : decide ((4096 : Int) < (n : Int)) = false := decF (by omega)
  have hmk := en_mk24 n (.sl true 0 (some 0) []) (by omega)
  simp only [A25, wk_skip, wk_reg, wk_dreg, wk_frz, wk_seq, wk_cond, wk_block, wk_loop, wk_exit, wk_scope, wk_ret, pk_nil, pk_seqN, pk_seqE, pk_seqR, pk_blkN, pk_blkE, pk_blkR, pk_invN, pk_invE, pk_invR, wo_nil, wo_cons, wd_nil, wd_cons, want_n, want_s, put_s, put_n, I.cls, List.map, opv_t, opv_i, opv_b, opv_n, opv_f, opv_s, ev_mv, ev_pick, ev_len, ev_lenR, ev_bin, ev_beqF, ev_beqT, ev_not, ev_conv, ev_ext, ev_mkfn, ev_faddr, ev_faddrF, ev_fieldF, ev_fieldT, ev_max, ev_min, ev_snilS, ev_snilR, ev_load1F, sb_lss, sb_leq, sb_gtr, sb_geq, sb_eql, sb_neq, sb_add, sb_sub, sb_mul, map_s, en_new, en_boxA, leaf_i, leaf_b, leaf_sl, leaf_ref, List.getElem?_set, List.length_set, List.length_map, List.length_append, List.getElem?_map, Option.map_some, Option.getD_some, ↓reduceIte, Nat.reduceLT, Nat.reduceEqDiff, Nat.zero_add, Nat.add_zero, decide_true, decide_false, Int.ofNat_lt, List.getElem?_cons_zero, List.getElem?_cons_succ, List.length_cons, List.length_nil, Nat.reduceAdd, Bool.not_true, Bool.not_false, Option.some.injEq, and_true, true_and, Bool.false_eq_true, Int.toNat_natCast, out_r, out_nm, pout_r, pout_nm, rs_n, rs_t, rs_c, one1, one2, one3, Option.bind_some, exists_eq_left', deep_eq, fz_lit, fz_sl, fz_fn0, fz_agg, fz_tup, mm_n, mm_c, ev_l1, ev_la, ew_1, ew_a, lk_0, lk_s, st_0, st_s, List.nil_append, List.cons_append, List.append_nil, List.drop_zero, List.drop_succ_cons, List.take_succ_cons, List.take_zero, List.take_nil, and_self, Nat.reduceLeDiff, Nat.le_refl, hd_n, hd_c, e3_n, e3_s, e3_a, mw_s, Option.map_none, rep_s, rep_0, bt_tf, bt_ff, bt_tt, bt_ft, ev_build, fp_0, fp_1, fp_a, spl_0, spl_s, Nat.mul_one, Nat.zero_mul, Nat.reduceMul, ev_iaddrPk, Int.reduceEq, true_or, or_true, or_self, hl', h0, h1', d1, d2, d3, d4, hmk]
  have hz := fun a => fz_refN (g := look [some a, some (List.replicate n (.sl true 0 (some 0) []))]) 7 1 n 1 (some n) rfl (by simp) fun x hx => by
    obtain ⟨_, rfl⟩ := List.mem_replicate.1 hx
    exact fz_sl _ _ _ _ _
  rw [hz]
  exact ⟨_, rfl, _, rfl, false, some n, true, some 0, fun h => (by cases h), fun _ => rfl, by simp [newD, flat]⟩
theorem p33 {D : Dsk} {v : AV} (hv : DR D v) (t : Int) : Pu tab 33 [v, iv t] (· = bv (hasC D.cells.length t)) := by
  obtain ⟨nc, cc, nq, cq, _, _, rfl⟩ := hv
  refine pu2 _ tab33 rfl (by decide) fun fr hfl h0 h1 => ?_
  have hl' : fr.length = 14 := hfl
  unfold hasC
  by_cases h : 0 ≤ t
  · have hd := decT h
    simp only [A33, wk_skip, wk_reg, wk_dreg, wk_frz, wk_seq, wk_cond, wk_block, wk_loop, wk_exit, wk_scope, wk_ret, pk_nil, pk_seqN, pk_seqE, pk_seqR, pk_blkN, pk_blkE, pk_blkR, pk_invN, pk_invE, pk_invR, wo_nil, wo_cons, wd_nil, wd_cons, want_n, want_s, put_s, put_n, I.cls, List.map, opv_t, opv_i, opv_b, opv_n, opv_f, opv_s, ev_mv, ev_pick, ev_len, ev_lenR, ev_bin, ev_beqF, ev_beqT, ev_not, ev_conv, ev_ext, ev_mkfn, ev_faddr, ev_faddrF, ev_fieldF, ev_fieldT, ev_max, ev_min, ev_snilS, ev_snilR, ev_load1F, sb_lss, sb_leq, sb_gtr, sb_geq, sb_eql, sb_neq, sb_add, sb_sub, sb_mul, map_s, en_new, en_boxA, leaf_i, leaf_b, leaf_sl, leaf_ref, List.getElem?_set, List.length_set, List.length_map, List.length_append, List.getElem?_map, Option.map_some, Option.getD_some, ↓reduceIte, Nat.reduceLT, Nat.reduceEqDiff, Nat.zero_add, Nat.add_zero, decide_true, decide_false, Int.ofNat_lt, List.getElem?_cons_zero, List.getElem?_cons_succ, List.length_cons, List.length_nil, Nat.reduceAdd, Bool.not_true, Bool.not_false, Option.some.injEq, and_true, true_and, Bool.false_eq_true, Int.toNat_natCast, out_r, out_nm, pout_r, pout_nm, rs_n, rs_t, rs_c, one1, one2, one3, Option.bind_some, exists_eq_left', deep_eq, fz_lit, fz_sl, fz_fn0, fz_agg, fz_tup, mm_n, mm_c, ev_l1, ev_la, ew_1, ew_a, lk_0, lk_s, st_0, st_s, List.nil_append, List.cons_append, List.append_nil, List.drop_zero, List.drop_succ_cons, List.take_succ_cons, List.take_zero, List.take_nil, and_self, Nat.reduceLeDiff, Nat.le_refl, hd_n, hd_c, e3_n, e3_s, e3_a, mw_s, Option.map_none, rep_s, rep_0, bt_tf, bt_ff, bt_tt, bt_ft, ev_build, fp_0, fp_1, fp_a, spl_0, spl_s, Nat.mul_one, Nat.zero_mul, Nat.reduceMul, ev_iaddrPk, Int.reduceEq, true_or, or_true, or_self, hl', h0, h1, hd, ge_iff_le, h]
    rfl
  · have hd := decF h
    simp only [A33, wk_skip, wk_reg, wk_dreg, wk_frz, wk_seq, wk_cond, wk_block, wk_loop, wk_exit, wk_scope, wk_ret, pk_nil, pk_seqN, pk_seqE, pk_seqR, pk_blkN, pk_blkE, pk_blkR, pk_invN, pk_invE, pk_invR, wo_nil, wo_cons, wd_nil, wd_cons, want_n, want_s, put_s, put_n, I.cls, List.map, opv_t, opv_i, opv_b, opv_n, opv_f, opv_s, ev_mv, ev_pick, ev_len, ev_lenR, ev_bin, ev_beqF, ev_beqT, ev_not, ev_conv, ev_ext, ev_mkfn, ev_faddr, ev_faddrF, ev_fieldF, ev_fieldT, ev_max, ev_min, ev_snilS, ev_snilR, ev_load1F, sb_lss, sb_leq, sb_gtr, sb_geq, sb_eql, sb_neq, sb_add, sb_sub, sb_mul, map_s, en_new, en_boxA, leaf_i, leaf_b, leaf_sl, leaf_ref, List.getElem?_set, List.length_set, List.length_map, List.length_append, List.getElem?_map, Option.map_some, Option.getD_some, ↓reduceIte, Nat.reduceLT, Nat.reduceEqDiff, Nat.zero_add, Nat.add_zero, decide_true, decide_false, Int.ofNat_lt, List.getElem?_cons_zero, List.getElem?_cons_succ, List.length_cons, List.length_nil, Nat.reduceAdd, Bool.not_true, Bool.not_false, Option.some.injEq, and_true, true_and, Bool.false_eq_true, Int.toNat_natCast, out_r, out_nm, pout_r, pout_nm, rs_n, rs_t, rs_c, one1, one2, one3, Option.bind_some, exists_eq_left', deep_eq, fz_lit, fz_sl, fz_fn0, fz_agg, fz_tup, mm_n, mm_c, ev_l1, ev_la, ew_1, ew_a, lk_0, lk_s, st_0, st_s, List.nil_append, List.cons_append, List.append_nil, List.drop_zero, List.drop_succ_cons, List.take_succ_cons, List.take_zero, List.take_nil, and_self, Nat.reduceLeDiff, Nat.le_refl, hd_n, hd_c, e3_n, e3_s, e3_a, mw_s, Option.map_none, rep_s, rep_0, bt_tf, bt_ff, bt_tt, bt_ft, ev_build, fp_0, fp_1, fp_a, spl_0, spl_s, Nat.mul_one, Nat.zero_mul, Nat.reduceMul, ev_iaddrPk, Int.reduceEq, true_or, or_true, or_self, hl', h0, h1, hd, ge_iff_le, h]
    rfl
end Go.Ev
