/- What the disk's functions compute: Crash; the reference's SameCells and Same. -/
import Derived.Test.YtpjjloaphlaokaaFdO
set_option linter.unusedVariables false
set_option linter.unusedSimpArgs false
set_option maxRecDepth 20000
namespace Go.Ev
open Go Go.Proofs

/-- A row, read to the bottom. -/
theorem row_fz {g : Look} {n : Nat} : ∀ (hrow : List AV) (row : List By), hrow.length = row.length → (∀ (i : Nat) (x : AV) (e : By), hrow[i]? = some x → row[i]? = some e → Hld g e x) →
    ∃ cs, hrow.mapM (fz g (n + 2)) = some cs ∧ cs.length = row.length ∧ ∀ (i : Nat) (e : By), row[i]? = some e → ∃ y, cs[i]? = some y ∧ Same e y
  | [], [], _, _ => ⟨[], rfl, rfl, fun i e h => by simp at h⟩
  | [], _ :: _, h, _ => by simp at h
  | _ :: _, [], h, _ => by simp at h
  | x :: xs, e :: es, hl, h => by
    obtain ⟨cs, h1, h2, h3⟩ := row_fz (g := g) (n := n) xs es (by simpa using hl) fun i x e h1 h2 => h (i + 1) x e (by simpa using h1) (by simpa using h2)
    obtain ⟨y, hy, hs⟩ : ∃ y, fz g (n + 2) x = some y ∧ Same e y := by
      rcases h 0 x e rfl rfl with hs | ⟨o, c, rfl, hg⟩
      · obtain ⟨nl, cap, hnl, rfl⟩ := hs
        exact ⟨_, rfl, nl, cap, hnl, rfl⟩
      · exact ⟨_, fz_refM _ _ _ 1 _ hg (by simp) (mapM_id (fz_map n (fun b : UInt8 => Value.int .u8 b.toNat) e)), false, c, fun h => (by cases h), rfl⟩
    refine ⟨y :: cs, by rw [mm_c, hy, h1]; rfl, by simp [h2], fun i f hf => ?_⟩
    cases i with
    | zero => cases hf; exact ⟨y, rfl, hs⟩
    | succ i => exact h3 i f (by simpa using hf)
theorem row_bs : ∀ (cs : List AV) (row : List By), cs.length = row.length → (∀ (i : Nat) (e : By), row[i]? = some e → ∃ y, cs[i]? = some y ∧ Same e y) → cs.map bs = row
  | [], [], _, _ => rfl
  | [], _ :: _, h, _ => by simp at h
  | _ :: _, [], h, _ => by simp at h
  | y :: ys, e :: es, hl, h => by
    obtain ⟨z, hz, hs⟩ := h 0 e rfl
    cases hz
    rw [List.map_cons, bs_same hs, row_bs ys es (by simpa using hl) fun i e h1 => by
      obtain ⟨z, hz, hs⟩ := h (i + 1) e (by simpa using h1)
      exact ⟨z, by simpa using hz, hs⟩]
/-- A disk without writes, by its cells' bytes. -/
def CrR (D : Dsk) (row : List By) (r : AV) : Prop := ∃ D' : Dsk, DR D' r ∧ DOk D' ∧ D'.sz = D.sz ∧ D'.ts = [] ∧ D'.cells.map bs = row
theorem p15 {D : Dsk} (hok : DOk D) {v x : AV} (hv : DR D v) {fs : List Ft} (hx : FtR fs x) : Pu tab 15 [v, x] (CrR D (finP fs (D.ts.map pw) 0 true (D.cells.map bs))) := by
  obtain ⟨nc, cc, nq, cq, h1, h2, rfl⟩ := hv
  obtain ⟨fnl, fcap, rfl⟩ := hx
  have hc0 := hok.c0
  have hc1 := hok.c1
  have hnc : nc = false := by
    cases nc with
    | false => rfl
    | true => rw [h1 rfl] at hc0; simp at hc0
  subst hnc
  refine pu2 _ tab15 rfl (by decide) fun fr hfl h0 h1' => ?_
  have hl' : fr.length = 8 := hfl
  simp only [A15, wk_skip, wk_reg, wk_dreg, wk_frz, wk_seq, wk_cond, wk_block, wk_loop, wk_exit, wk_scope, wk_ret, pk_nil, pk_seqN, pk_seqE, pk_seqR, pk_blkN, pk_blkE, pk_blkR, pk_invN, pk_invE, pk_invR, wo_nil, wo_cons, wd_nil, wd_cons, want_n, want_s, put_s, put_n, I.cls, List.map, opv_t, opv_i, opv_b, opv_n, opv_f, opv_s, ev_mv, ev_pick, ev_len, ev_lenR, ev_bin, ev_beqF, ev_beqT, ev_not, ev_conv, ev_ext, ev_mkfn, ev_faddr, ev_faddrF, ev_fieldF, ev_fieldT, ev_max, ev_min, ev_snilS, ev_snilR, ev_load1F, sb_lss, sb_leq, sb_gtr, sb_geq, sb_eql, sb_neq, sb_add, sb_sub, sb_mul, map_s, en_new, en_boxA, leaf_i, leaf_b, leaf_sl, leaf_ref, List.getElem?_set, List.length_set, List.length_map, List.length_append, List.getElem?_map, Option.map_some, Option.getD_some, ↓reduceIte, Nat.reduceLT, Nat.reduceEqDiff, Nat.zero_add, Nat.add_zero, decide_true, decide_false, Int.ofNat_lt, List.getElem?_cons_zero, List.getElem?_cons_succ, List.length_cons, List.length_nil, Nat.reduceAdd, Bool.not_true, Bool.not_false, Option.some.injEq, and_true, true_and, Bool.false_eq_true, Int.toNat_natCast, out_r, out_nm, pout_r, pout_nm, rs_n, rs_t, rs_c, one1, one2, one3, Option.bind_some, exists_eq_left', deep_eq, fz_lit, fz_sl, fz_fn0, fz_agg, fz_tup, mm_n, mm_c, ev_l1, ev_la, ew_1, ew_a, lk_0, lk_s, st_0, st_s, List.nil_append, List.cons_append, List.append_nil, List.drop_zero, List.drop_succ_cons, List.take_succ_cons, List.take_zero, List.take_nil, and_self, Nat.reduceLeDiff, Nat.le_refl, hd_n, hd_c, e3_n, e3_s, e3_a, mw_s, Option.map_none, rep_s, rep_0, bt_tf, bt_ff, bt_tt, bt_ft, ev_build, fp_0, fp_1, fp_a, spl_0, spl_s, Nat.mul_one, Nat.zero_mul, Nat.reduceMul, ev_iaddrPk, Int.reduceEq, true_or, or_true, or_self, hl', h0, h1']
  obtain ⟨r, h', ⟨p, T, hrow, rfl, rfl, hT, hrow5⟩, hc⟩ := c29 [some [iv D.sz, .sl false D.cells.length cc D.cells, .sl nq D.ts.length cq (flat D.ts)], some [.sl fnl fs.length fcap (fs.flatMap fun f => [iv f.1, iv f.2])], some [iv 0, .sl true 0 (some 0) [], .sl true 0 (some 0) []]] hok cc nq cq 32 [.ptr 1 0] fs (fun n T => by
    obtain ⟨Z, hz⟩ := c32 ([some [iv D.sz, .sl false D.cells.length cc D.cells, .sl nq D.ts.length cq (flat D.ts)], some [.sl fnl fs.length fcap (fs.flatMap fun f => [iv f.1, iv f.2])], some [iv 0, .sl true 0 (some 0) [], .sl true 0 (some 0) []]] ++ T) 1 fs fnl fcap n rfl
    exact ⟨Z, by rw [List.append_assoc] at hz; exact hz⟩)
  refine wc_of hc ?_
  simp only [wk_skip, wk_reg, wk_dreg, wk_frz, wk_seq, wk_cond, wk_block, wk_loop, wk_exit, wk_scope, wk_ret, pk_nil, pk_seqN, pk_seqE, pk_seqR, pk_blkN, pk_blkE, pk_blkR, pk_invN, pk_invE, pk_invR, wo_nil, wo_cons, wd_nil, wd_cons, want_n, want_s, put_s, put_n, I.cls, List.map, opv_t, opv_i, opv_b, opv_n, opv_f, opv_s, ev_mv, ev_pick, ev_len, ev_lenR, ev_bin, ev_beqF, ev_beqT, ev_not, ev_conv, ev_ext, ev_mkfn, ev_faddr, ev_faddrF, ev_fieldF, ev_fieldT, ev_max, ev_min, ev_snilS, ev_snilR, ev_load1F, sb_lss, sb_leq, sb_gtr, sb_geq, sb_eql, sb_neq, sb_add, sb_sub, sb_mul, map_s, en_new, en_boxA, leaf_i, leaf_b, leaf_sl, leaf_ref, List.getElem?_set, List.length_set, List.length_map, List.length_append, List.getElem?_map, Option.map_some, Option.getD_some, ↓reduceIte, Nat.reduceLT, Nat.reduceEqDiff, Nat.zero_add, Nat.add_zero, decide_true, decide_false, Int.ofNat_lt, List.getElem?_cons_zero, List.getElem?_cons_succ, List.length_cons, List.length_nil, Nat.reduceAdd, Bool.not_true, Bool.not_false, Option.some.injEq, and_true, true_and, Bool.false_eq_true, Int.toNat_natCast, out_r, out_nm, pout_r, pout_nm, rs_n, rs_t, rs_c, one1, one2, one3, Option.bind_some, exists_eq_left', deep_eq, fz_lit, fz_sl, fz_fn0, fz_agg, fz_tup, mm_n, mm_c, ev_l1, ev_la, ew_1, ew_a, lk_0, lk_s, st_0, st_s, List.nil_append, List.cons_append, List.append_nil, List.drop_zero, List.drop_succ_cons, List.take_succ_cons, List.take_zero, List.take_nil, and_self, Nat.reduceLeDiff, Nat.le_refl, hd_n, hd_c, e3_n, e3_s, e3_a, mw_s, Option.map_none, rep_s, rep_0, bt_tf, bt_ff, bt_tt, bt_ft, ev_build, fp_0, fp_1, fp_a, spl_0, spl_s, Nat.mul_one, Nat.zero_mul, Nat.reduceMul, ev_iaddrPk, Int.reduceEq, true_or, or_true, or_self, hl', h0, h1']
  generalize hrw : finP fs (D.ts.map pw) 0 true (D.cells.map bs) = row at *
  have hrl : row.length = D.cells.length := by rw [← hrw, finP_len]; simp
  have hb : ∀ e ∈ row, e.length ≤ D.sz := by
    rw [← hrw]
    refine finP_bound fs _ _ _ _ (fun e he => ?_) fun y hy => ?_
    · obtain ⟨z, hz, rfl⟩ := List.mem_map.1 he
      exact (hok.cells z hz).same.2
    · obtain ⟨z, hz, rfl⟩ := List.mem_map.1 hy
      exact (hok.ts z hz).1.same.2
  have hz : ∀ x y z, ∃ cs, fz (look (x :: y :: z :: T)) 9 (.ref (3 + p) 0 D.cells.length 1 none) = some (.sl false D.cells.length none cs) ∧ cs.length = row.length ∧ ∀ (i : Nat) (e : By), row[i]? = some e → ∃ y, cs[i]? = some y ∧ Same e y := by
    intro x y z
    obtain ⟨cs, q1, q2, q3⟩ := row_fz (g := look ([x, y, z] ++ T)) (n := 6) hrow row hrow5.1 fun i w e e1 e2 => by
      rcases hrow5.2 i w e e1 e2 with hs | ⟨o, c, _, rfl, hg⟩
      · exact .inl hs
      · exact .inr ⟨_, c, rfl, by rw [← hg]; exact look_at [x, y, z] T o⟩
    refine ⟨cs, fz_refM 8 (3 + p) D.cells.length 1 none ((look_at [x, y, z] T p).trans hT) (by rw [hrow5.1]; omega) q1, q2, q3⟩
  obtain ⟨cs, q1, q2, q3⟩ := hz _ _ _
  try simp only [List.length_cons, List.length_nil, Nat.zero_add, Nat.reduceAdd]
  rw [q1]
  refine ⟨_, rfl, ⟨D.sz, cs, []⟩, ⟨false, none, true, some 0, fun h => (by cases h), fun _ => rfl, by simp [flat, q2, hrl]⟩, ⟨hok.s1, hok.s2, by simp only; omega, by simp only; omega, fun x hx => ?_, Nat.zero_le _, fun x hx => by cases hx⟩, rfl, rfl, row_bs cs row q2 q3⟩
  obtain ⟨i, hi, rfl⟩ := List.getElem_of_mem hx
  simp only at hi
  obtain ⟨y, hy, hs⟩ := q3 i row[i] (List.getElem?_eq_getElem (by omega))
  rw [List.getElem?_eq_getElem hi] at hy
  cases hy
  exact hs.dat (hb _ (List.getElem_mem _))
theorem done_bs : ∀ (ts : List T3) (row : List AV), (doneRow ts row).map bs = doneP (ts.map pw) (row.map bs)
  | [], row => rfl
  | (f, n, d) :: r, row => by
    show (doneRow r _).map bs = doneP (r.map pw) _
    rw [done_bs r]
    cases f with
    | true => rfl
    | false => simp only [Bool.false_eq_true, if_false, List.map_set]; rfl
theorem p12c {D : Dsk} (hok : DOk D) {v : AV} (hv : DR D v) : Pu tab 12 [v] (CrR D (doneP (D.ts.map pw) (D.cells.map bs))) :=
  (p12 hok hv).mono fun r hr => ⟨_, hr, hok.done, rfl, rfl, done_bs _ _⟩
theorem p21c {D : Dsk} (hok : DOk D) {v : AV} (hv : DR D v) : Pu tab 21 [v] (CrR D (doneP (D.ts.map pw) (D.cells.map bs))) :=
  (p21 hok hv).mono fun r hr => ⟨_, hr, hok.done, rfl, rfl, done_bs _ _⟩
end Go.Ev
