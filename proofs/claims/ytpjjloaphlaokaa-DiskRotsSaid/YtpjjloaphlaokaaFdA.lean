/- What the disk's functions compute. -/
import Derived.Test.YtpjjloaphlaokaaCodeD
set_option linter.unusedVariables false
set_option linter.unusedSimpArgs false
set_option maxRecDepth 20000
namespace Go.Ev
open Go Go.Proofs

theorem getE {α : Type} {xs : List α} {i : Nat} (h : i < xs.length) : xs[i]? = some xs[i] := List.getElem?_eq_getElem h
theorem wrapS {i n : Nat} (h : i < n) (hn : n ≤ 9223372036854775807) : IntKind.i64.wrap ((i : Int) + 1) = ((i + 1 : Nat) : Int) := wrap64 (by omega) (by omega)
theorem decT {p : Prop} [Decidable p] (h : p) : decide p = true := decide_eq_true h
theorem decF {p : Prop} [Decidable p] (h : ¬ p) : decide p = false := decide_eq_false h
theorem pu_closed {tab : FuncId → Option AFn} {f : FuncId} {n : Nat} {v : AV} {af : AFn} (ht : tab f = some af) (hp : af.plain = true) (he : evCall tab n f [] [] = some (v, [])) : Pu tab f [] (· = v) := by
  have h1 : af.isPure = true := by simp only [AFn.plain, Bool.and_eq_true] at hp; exact hp.1
  have h2 : af.ext = none := by simp only [AFn.plain, Bool.and_eq_true] at hp; simpa using hp.2
  refine ⟨v, rfl, n, af, ht, h1, fun g args0 ha hn h => ?_⟩
  simp only [evCall, ht, runFn, h1, h2, if_true, List.mapM_nil] at he
  unfold runFn
  rw [if_pos h1, ha]
  simp only [pure, List.length_nil, h2] at he ⊢
  cases hb : evC tab n af.body ([] ++ List.replicate (af.ntmps - 0) (.lit undef)) [] with
  | none => rw [hb] at he; cases he
  | some x =>
    obtain ⟨ex, fr, h1⟩ := x
    rw [hb] at he
    cases ex with
    | exit id => cases he
    | normal =>
      cases hr : evRes (look h1) fr af.res with
      | none => simp [hr] at he
      | some vs =>
        cases hz : fz (look h1) deep (oneOf vs) with
        | none => simp [hr, hz] at he
        | some u =>
          simp [hr, hz] at he
          subst he
          simp only [hr, hz]
          rw [if_pos hn]
    | ret =>
      cases hr : evRes (look h1) fr af.res with
      | none => simp [hr] at he
      | some vs =>
        cases hz : fz (look h1) deep (oneOf vs) with
        | none => simp [hr, hz] at he
        | some u =>
          simp [hr, hz] at he
          subst he
          simp only [hr, hz]
          rw [if_pos hn]
theorem p9 : Pu tab 9 [] (· = bv true) := by
  have ht : tab 9 = some (extFn sanF) := by unfold tab; rfl
  exact pu_ext ht rfl

def uv (b : UInt8) : AV := .lit (.int .u8 (b.toNat : Int))
/-- A row of bytes. -/
def Dat (sz : Nat) (x : AV) : Prop := ∃ (nl : Bool) (cap : Option Nat) (d : List UInt8), (nl = true → d = []) ∧ d.length ≤ sz ∧ x = .sl nl d.length cap (d.map uv)
def flat (ts : List T3) : List AV := ts.flatMap fun x => [.lit (.bool x.1), .lit (.int .i64 x.2.1), x.2.2]
theorem flat_len (ts : List T3) : (flat ts).length = ts.length * 3 := by
  induction ts with
  | nil => rfl
  | cons x r ih => simp only [flat, List.flatMap_cons] at ih ⊢; simp [ih]; omega
theorem flat_snoc (ts : List T3) (x : T3) : flat (ts ++ [x]) = flat ts ++ [.lit (.bool x.1), .lit (.int .i64 x.2.1), x.2.2] := by simp [flat]
structure Dsk where
  sz : Nat
  cells : List AV
  ts : List T3
structure DOk (D : Dsk) : Prop where
  s1 : 1 ≤ D.sz
  s2 : D.sz ≤ 65536
  c0 : 1 ≤ D.cells.length
  c1 : D.cells.length ≤ 4096
  cells : ∀ x ∈ D.cells, Dat D.sz x
  q1 : D.ts.length ≤ 1000000
  ts : ∀ x ∈ D.ts, Dat D.sz x.2.2 ∧ (x.1 = false → 0 ≤ x.2.1 ∧ x.2.1 < D.cells.length)
def DR (D : Dsk) (v : AV) : Prop := ∃ (nc : Bool) (cc : Option Nat) (nq : Bool) (cq : Option Nat), (nc = true → D.cells = []) ∧ (nq = true → D.ts = []) ∧
  v = .agg [iv D.sz, .sl nc D.cells.length cc D.cells, .sl nq D.ts.length cq (flat D.ts)]
def hasC (n : Nat) (t : Int) : Bool := decide (0 ≤ t) && decide (t < n)

theorem p26 {D : Dsk} {v : AV} (hv : DR D v) (t : Int) : Pu tab 26 [v, iv t] (· = bv (hasC D.cells.length t)) := by
  obtain ⟨nc, cc, nq, cq, _, _, rfl⟩ := hv
  refine pu2 _ tab26 rfl (by decide) fun fr hfl h0 h1 => ?_
  have hl' : fr.length = 14 := hfl
  unfold hasC
  by_cases h : 0 ≤ t
  · have hd := decT h
    simp only [A26, wk_skip, wk_reg, wk_dreg, wk_frz, wk_seq, wk_cond, wk_block, wk_loop, wk_exit, wk_scope, wk_ret, pk_nil, pk_seqN, pk_seqE, pk_seqR, pk_blkN, pk_blkE, pk_blkR, pk_invN, pk_invE, pk_invR, wo_nil, wo_cons, wd_nil, wd_cons, want_n, want_s, put_s, put_n, I.cls, List.map, opv_t, opv_i, opv_b, opv_n, opv_f, opv_s, ev_mv, ev_pick, ev_len, ev_lenR, ev_bin, ev_beqF, ev_beqT, ev_not, ev_conv, ev_ext, ev_mkfn, ev_faddr, ev_faddrF, ev_fieldF, ev_fieldT, ev_max, ev_min, ev_snilS, ev_snilR, ev_load1F, sb_lss, sb_leq, sb_gtr, sb_geq, sb_eql, sb_neq, sb_add, sb_sub, sb_mul, map_s, en_new, en_boxA, leaf_i, leaf_b, leaf_sl, leaf_ref, List.getElem?_set, List.length_set, List.length_map, List.length_append, List.getElem?_map, Option.map_some, Option.getD_some, ↓reduceIte, Nat.reduceLT, Nat.reduceEqDiff, Nat.zero_add, Nat.add_zero, decide_true, decide_false, Int.ofNat_lt, List.getElem?_cons_zero, List.getElem?_cons_succ, List.length_cons, List.length_nil, Nat.reduceAdd, Bool.not_true, Bool.not_false, Option.some.injEq, and_true, true_and, Bool.false_eq_true, Int.toNat_natCast, out_r, out_nm, pout_r, pout_nm, rs_n, rs_t, rs_c, one1, one2, one3, Option.bind_some, exists_eq_left', deep_eq, fz_lit, fz_sl, fz_fn0, fz_agg, fz_tup, mm_n, mm_c, ev_l1, ev_la, ew_1, ew_a, lk_0, lk_s, st_0, st_s, List.nil_append, List.cons_append, List.append_nil, List.drop_zero, List.drop_succ_cons, List.take_succ_cons, List.take_zero, List.take_nil, and_self, Nat.reduceLeDiff, Nat.le_refl, hd_n, hd_c, e3_n, e3_s, e3_a, mw_s, Option.map_none, rep_s, rep_0, bt_tf, bt_ff, bt_tt, bt_ft, ev_build, fp_0, fp_1, fp_a, spl_0, spl_s, Nat.mul_one, Nat.zero_mul, Nat.reduceMul, ev_iaddrPk, Int.reduceEq, true_or, or_true, or_self, hl', h0, h1, hd, ge_iff_le, h]
    rfl
  · have hd := decF h
    simp only [A26, wk_skip, wk_reg, wk_dreg, wk_frz, wk_seq, wk_cond, wk_block, wk_loop, wk_exit, wk_scope, wk_ret, pk_nil, pk_seqN, pk_seqE, pk_seqR, pk_blkN, pk_blkE, pk_blkR, pk_invN, pk_invE, pk_invR, wo_nil, wo_cons, wd_nil, wd_cons, want_n, want_s, put_s, put_n, I.cls, List.map, opv_t, opv_i, opv_b, opv_n, opv_f, opv_s, ev_mv, ev_pick, ev_len, ev_lenR, ev_bin, ev_beqF, ev_beqT, ev_not, ev_conv, ev_ext, ev_mkfn, ev_faddr, ev_faddrF, ev_fieldF, ev_fieldT, ev_max, ev_min, ev_snilS, ev_snilR, ev_load1F, sb_lss, sb_leq, sb_gtr, sb_geq, sb_eql, sb_neq, sb_add, sb_sub, sb_mul, map_s, en_new, en_boxA, leaf_i, leaf_b, leaf_sl, leaf_ref, List.getElem?_set, List.length_set, List.length_map, List.length_append, List.getElem?_map, Option.map_some, Option.getD_some, ↓reduceIte, Nat.reduceLT, Nat.reduceEqDiff, Nat.zero_add, Nat.add_zero, decide_true, decide_false, Int.ofNat_lt, List.getElem?_cons_zero, List.getElem?_cons_succ, List.length_cons, List.length_nil, Nat.reduceAdd, Bool.not_true, Bool.not_false, Option.some.injEq, and_true, true_and, Bool.false_eq_true, Int.toNat_natCast, out_r, out_nm, pout_r, pout_nm, rs_n, rs_t, rs_c, one1, one2, one3, Option.bind_some, exists_eq_left', deep_eq, fz_lit, fz_sl, fz_fn0, fz_agg, fz_tup, mm_n, mm_c, ev_l1, ev_la, ew_1, ew_a, lk_0, lk_s, st_0, st_s, List.nil_append, List.cons_append, List.append_nil, List.drop_zero, List.drop_succ_cons, List.take_succ_cons, List.take_zero, List.take_nil, and_self, Nat.reduceLeDiff, Nat.le_refl, hd_n, hd_c, e3_n, e3_s, e3_a, mw_s, Option.map_none, rep_s, rep_0, bt_tf, bt_ff, bt_tt, bt_ft, ev_build, fp_0, fp_1, fp_a, spl_0, spl_s, Nat.mul_one, Nat.zero_mul, Nat.reduceMul, ev_iaddrPk, Int.reduceEq, true_or, or_true, or_self, hl', h0, h1, hd, ge_iff_le, h]
    rfl
end Go.Ev
/- What the disk's functions compute: copies, Put, Fence. -/
namespace Go.Ev
open Go Go.Proofs

theorem look_at (h t : Heap) (k : Nat) : look (h ++ t) (h.length + k) = look t k := by
  unfold look
  rw [List.getElem?_append_right (by omega), Nat.add_sub_cancel_left]
theorem look_at0 (h t : Heap) : look (h ++ t) h.length = look t 0 := look_at h t 0
theorem set_at (h t : Heap) (k : Nat) (x : Option (List AV)) : (h ++ t).set (h.length + k) x = h ++ t.set k x := by
  rw [List.set_append_right _ _ (by omega), Nat.add_sub_cancel_left]
theorem set_at0 (h t : Heap) (x : Option (List AV)) : (h ++ t).set h.length x = h ++ t.set 0 x := set_at h t 0 x
theorem slC_slN (g : Look) (sz : Nat) (b : Bool) (n : Nat) (c : Option Nat) (xs : List AV) (h : xs.length = n * sz) : slC g sz (.sl b n c xs) = some (n, xs) := by
  simp only [slC]
  rw [if_pos h]
theorem slC_refN (g : Look) (sz o n : Nat) (c : Option Nat) {xs : List AV} (hl : g o = some xs) (h : xs.length = n * sz) : slC g sz (.ref o 0 n sz c) = some (n, xs) := by
  simp only [slC, rdM, hl, if_true]
  rw [if_pos (by omega)]
  simp only [List.drop_zero]
  rw [List.take_of_length_le (by omega)]
  rfl
theorem ew_app {h : Heap} {sz o m k b : Nat} {c : Option Nat} {xs ys : List AV} {y : AV} (hl : look h o = some xs) (hm : xs.length = m * sz) (hy : slC (look h) sz y = some (k, ys)) (hk : k ≠ 0) (hs : (2 * (m + k) + 192) * b ≤ 2 ^ 48) (hs2 : m + k ≤ 2 ^ 60) :
    evW h (.append sz b) [.ref o 0 m sz c, y] = some (.ref h.length 0 (m + k) sz (capFit (m + k) c), h.set o none ++ [some (xs ++ ys)]) := by
  simp only [evW, slC_refN _ sz o m c hl hm, hy]
  rw [if_neg hk, if_pos ⟨hs, hs2⟩]
theorem ew_app0 {h : Heap} {sz o m b : Nat} {c : Option Nat} {xs ys : List AV} {y : AV} (hl : look h o = some xs) (hm : xs.length = m * sz) (hy : slC (look h) sz y = some (0, ys)) :
    evW h (.append sz b) [.ref o 0 m sz c, y] = some (.ref o 0 m sz c, h) := by
  simp only [evW, slC_refN _ sz o m c hl hm, hy, if_true]
theorem cap0 {n : Nat} (hn : n ≠ 0) : capFit n (some 0) = none := by simp only [capFit]; rw [if_neg (by omega)]

theorem mapM_id {g : Look} {n : Nat} : ∀ {cs : List AV}, (∀ x ∈ cs, fz g n x = some x) → cs.mapM (fz g n) = some cs
  | [], _ => mm_n _
  | x :: xs, h => by
    rw [mm_c, h x List.mem_cons_self, mapM_id fun y hy => h y (List.mem_cons_of_mem _ hy)]
    rfl
theorem fz_refN {g : Look} (n o m sz : Nat) (c : Option Nat) {cs : List AV} (hg : g o = some cs) (hm : cs.length = m * sz) (hs : ∀ x ∈ cs, fz g n x = some x) : fz g (n + 1) (.ref o 0 m sz c) = some (.sl false m c cs) := by
  simp only [fz, rdM, hg]
  rw [if_pos (by omega), List.drop_zero, List.take_of_length_le (by omega)]
  simp only [mapM_id hs, Option.map_some]
/-- The same bytes. -/
def Same (d : List UInt8) (x : AV) : Prop := ∃ (nl : Bool) (cap : Option Nat), (nl = true → d = []) ∧ x = .sl nl d.length cap (d.map uv)
theorem Same.dat {d : List UInt8} {x : AV} {sz : Nat} (h : Same d x) (hd : d.length ≤ sz) : Dat sz x := by
  obtain ⟨nl, cap, h1, rfl⟩ := h
  exact ⟨nl, cap, d, h1, hd, rfl⟩
theorem p28 {d : List UInt8} {x : AV} (hx : Same d x) (hb : d.length ≤ 1000000) : Pu tab 28 [x] (Same d) := by
  obtain ⟨nl, cl, hnl, rfl⟩ := hx
  refine pu1 _ tab28 rfl (by decide) fun fr hfl h0 => ?_
  have hl' : fr.length = 8 := hfl
  cases nl with
  | true =>
    obtain rfl := hnl rfl
    simp only [A28, wk_skip, wk_reg, wk_dreg, wk_frz, wk_seq, wk_cond, wk_block, wk_loop, wk_exit, wk_scope, wk_ret, pk_nil, pk_seqN, pk_seqE, pk_seqR, pk_blkN, pk_blkE, pk_blkR, pk_invN, pk_invE, pk_invR, wo_nil, wo_cons, wd_nil, wd_cons, want_n, want_s, put_s, put_n, I.cls, List.map, opv_t, opv_i, opv_b, opv_n, opv_f, opv_s, ev_mv, ev_pick, ev_len, ev_lenR, ev_bin, ev_beqF, ev_beqT, ev_not, ev_conv, ev_ext, ev_mkfn, ev_faddr, ev_faddrF, ev_fieldF, ev_fieldT, ev_max, ev_min, ev_snilS, ev_snilR, ev_load1F, sb_lss, sb_leq, sb_gtr, sb_geq, sb_eql, sb_neq, sb_add, sb_sub, sb_mul, map_s, en_new, en_boxA, leaf_i, leaf_b, leaf_sl, leaf_ref, List.getElem?_set, List.length_set, List.length_map, List.length_append, List.getElem?_map, Option.map_some, Option.getD_some, ↓reduceIte, Nat.reduceLT, Nat.reduceEqDiff, Nat.zero_add, Nat.add_zero, decide_true, decide_false, Int.ofNat_lt, List.getElem?_cons_zero, List.getElem?_cons_succ, List.length_cons, List.length_nil, Nat.reduceAdd, Bool.not_true, Bool.not_false, Option.some.injEq, and_true, true_and, Bool.false_eq_true, Int.toNat_natCast, out_r, out_nm, pout_r, pout_nm, rs_n, rs_t, rs_c, one1, one2, one3, Option.bind_some, exists_eq_left', deep_eq, fz_lit, fz_sl, fz_fn0, fz_agg, fz_tup, mm_n, mm_c, ev_l1, ev_la, ew_1, ew_a, lk_0, lk_s, st_0, st_s, List.nil_append, List.cons_append, List.append_nil, List.drop_zero, List.drop_succ_cons, List.take_succ_cons, List.take_zero, List.take_nil, and_self, Nat.reduceLeDiff, Nat.le_refl, hd_n, hd_c, e3_n, e3_s, e3_a, mw_s, Option.map_none, rep_s, rep_0, bt_tf, bt_ff, bt_tt, bt_ft, ev_build, fp_0, fp_1, fp_a, spl_0, spl_s, Nat.mul_one, Nat.zero_mul, Nat.reduceMul, ev_iaddrPk, Int.reduceEq, true_or, or_true, or_self, hl', h0]
    exact ⟨true, some 0, fun _ => rfl, rfl⟩
  | false =>
    by_cases hl : d = []
    · subst hl
      have ha := @ew_app0 [some []] 1 0 0 1 (some 0) [] [] (.sl false 0 cl []) rfl rfl (slC_slN _ 1 false 0 cl [] rfl)
      simp only [A28, wk_skip, wk_reg, wk_dreg, wk_frz, wk_seq, wk_cond, wk_block, wk_loop, wk_exit, wk_scope, wk_ret, pk_nil, pk_seqN, pk_seqE, pk_seqR, pk_blkN, pk_blkE, pk_blkR, pk_invN, pk_invE, pk_invR, wo_nil, wo_cons, wd_nil, wd_cons, want_n, want_s, put_s, put_n, I.cls, List.map, opv_t, opv_i, opv_b, opv_n, opv_f, opv_s, ev_mv, ev_pick, ev_len, ev_lenR, ev_bin, ev_beqF, ev_beqT, ev_not, ev_conv, ev_ext, ev_mkfn, ev_faddr, ev_faddrF, ev_fieldF, ev_fieldT, ev_max, ev_min, ev_snilS, ev_snilR, ev_load1F, sb_lss, sb_leq, sb_gtr, sb_geq, sb_eql, sb_neq, sb_add, sb_sub, sb_mul, map_s, en_new, en_boxA, leaf_i, leaf_b, leaf_sl, leaf_ref, List.getElem?_set, List.length_set, List.length_map, List.length_append, List.getElem?_map, Option.map_some, Option.getD_some, ↓reduceIte, Nat.reduceLT, Nat.reduceEqDiff, Nat.zero_add, Nat.add_zero, decide_true, decide_false, Int.ofNat_lt, List.getElem?_cons_zero, List.getElem?_cons_succ, List.length_cons, List.length_nil, Nat.reduceAdd, Bool.not_true, Bool.not_false, Option.some.injEq, and_true, true_and, Bool.false_eq_true, Int.toNat_natCast, out_r, out_nm, pout_r, pout_nm, rs_n, rs_t, rs_c, one1, one2, one3, Option.bind_some, exists_eq_left', deep_eq, fz_lit, fz_sl, fz_fn0, fz_agg, fz_tup, mm_n, mm_c, ev_l1, ev_la, ew_1, ew_a, lk_0, lk_s, st_0, st_s, List.nil_append, List.cons_append, List.append_nil, List.drop_zero, List.drop_succ_cons, List.take_succ_cons, List.take_zero, List.take_nil, and_self, Nat.reduceLeDiff, Nat.le_refl, hd_n, hd_c, e3_n, e3_s, e3_a, mw_s, Option.map_none, rep_s, rep_0, bt_tf, bt_ff, bt_tt, bt_ft, ev_build, fp_0, fp_1, fp_a, spl_0, spl_s, Nat.mul_one, Nat.zero_mul, Nat.reduceMul, ev_iaddrPk, Int.reduceEq, true_or, or_true, or_self, hl', h0, en_bs0, ha, List.map_nil]
      exact ⟨_, fz_refN 9 0 0 1 (some 0) rfl rfl (fun x hx => by cases hx), false, some 0, fun h => (by cases h), rfl⟩
    · have hp : d.length ≠ 0 := fun e => hl (List.length_eq_zero_iff.1 e)
      have ha := @ew_app [some []] 1 0 0 d.length 1 (some 0) [] (d.map uv) (.sl false d.length cl (d.map uv)) rfl rfl (slC_slN _ 1 false d.length cl (d.map uv) (by simp)) hp (by omega) (by omega)
      simp only [A28, wk_skip, wk_reg, wk_dreg, wk_frz, wk_seq, wk_cond, wk_block, wk_loop, wk_exit, wk_scope, wk_ret, pk_nil, pk_seqN, pk_seqE, pk_seqR, pk_blkN, pk_blkE, pk_blkR, pk_invN, pk_invE, pk_invR, wo_nil, wo_cons, wd_nil, wd_cons, want_n, want_s, put_s, put_n, I.cls, List.map, opv_t, opv_i, opv_b, opv_n, opv_f, opv_s, ev_mv, ev_pick, ev_len, ev_lenR, ev_bin, ev_beqF, ev_beqT, ev_not, ev_conv, ev_ext, ev_mkfn, ev_faddr, ev_faddrF, ev_fieldF, ev_fieldT, ev_max, ev_min, ev_snilS, ev_snilR, ev_load1F, sb_lss, sb_leq, sb_gtr, sb_geq, sb_eql, sb_neq, sb_add, sb_sub, sb_mul, map_s, en_new, en_boxA, leaf_i, leaf_b, leaf_sl, leaf_ref, List.getElem?_set, List.length_set, List.length_map, List.length_append, List.getElem?_map, Option.map_some, Option.getD_some, ↓reduceIte, Nat.reduceLT, Nat.reduceEqDiff, Nat.zero_add, Nat.add_zero, decide_true, decide_false, Int.ofNat_lt, List.getElem?_cons_zero, List.getElem?_cons_succ, List.length_cons, List.length_nil, Nat.reduceAdd, Bool.not_true, Bool.not_false, Option.some.injEq, and_true, true_and, Bool.false_eq_true, Int.toNat_natCast, out_r, out_nm, pout_r, pout_nm, rs_n, rs_t, rs_c, one1, one2, one3, Option.bind_some, exists_eq_left', deep_eq, fz_lit, fz_sl, fz_fn0, fz_agg, fz_tup, mm_n, mm_c, ev_l1, ev_la, ew_1, ew_a, lk_0, lk_s, st_0, st_s, List.nil_append, List.cons_append, List.append_nil, List.drop_zero, List.drop_succ_cons, List.take_succ_cons, List.take_zero, List.take_nil, and_self, Nat.reduceLeDiff, Nat.le_refl, hd_n, hd_c, e3_n, e3_s, e3_a, mw_s, Option.map_none, rep_s, rep_0, bt_tf, bt_ff, bt_tt, bt_ft, ev_build, fp_0, fp_1, fp_a, spl_0, spl_s, Nat.mul_one, Nat.zero_mul, Nat.reduceMul, ev_iaddrPk, Int.reduceEq, true_or, or_true, or_self, hl', h0, en_bs0, ha, cap0 hp]
      exact ⟨_, fz_refN 9 1 d.length 1 none rfl (by simp) (fz_map 8 (fun b : UInt8 => Value.int .u8 b.toNat) d), false, none, fun h => (by cases h), rfl⟩

theorem trip_flat : ∀ (ts : List T3), (∀ x ∈ ts, isSl x.2.2 = true) → trip (flat ts) = some ts
  | [], _ => rfl
  | x :: r, h => by
    obtain ⟨f, n, y⟩ := x
    have h1 := h _ List.mem_cons_self
    have ih := trip_flat r fun z hz => h z (List.mem_cons_of_mem _ hz)
    simp only [flat] at ih
    cases y <;> first | cases h1 | skip
    simp [flat, trip, ih]
theorem Dat.sl {sz : Nat} {x : AV} (h : Dat sz x) : isSl x = true := by
  obtain ⟨nl, cap, d, _, _, rfl⟩ := h
  rfl
/-- A disk with one write more. -/
def Dsk.q (D : Dsk) (x : T3) : Dsk := { D with ts := D.ts ++ [x] }
theorem p27 {D : Dsk} {v : AV} (hv : DR D v) (hq : D.ts.length ≤ 1000000) (f : Bool) (t : Int) (i : Bool) (n : Nat) (c : Option Nat) (xs : List AV) :
    Pu tab 27 [v, .agg [.lit (.bool f), iv t, .sl i n c xs]] (DR (D.q (f, t, .sl i n c xs))) := by
  obtain ⟨nc, cc, nq, cq, h1, h2, rfl⟩ := hv
  have he : queueF [.agg [iv D.sz, .sl nc D.cells.length cc D.cells, .sl nq D.ts.length cq (flat D.ts)], .agg [.lit (.bool f), iv t, .sl i n c xs]] =
      some (.agg [iv D.sz, .sl nc D.cells.length cc D.cells, .sl false (D.ts.length + 1) none (flat D.ts ++ [.lit (.bool f), .lit (.int .i64 t), .sl i n c xs])]) := by
    simp only [queueF]
    rw [if_pos ⟨flat_len _, by omega⟩]
  have ht : tab 27 = some (extFn queueF) := by
    unfold tab
    rfl
  exact (pu_ext ht he).mono fun v hv => by
    subst hv
    refine ⟨nc, cc, false, none, h1, fun h => (by cases h), ?_⟩
    simp [Dsk.q, flat_snoc]
theorem p13 {D : Dsk} {v : AV} (hv : DR D v) (hq : D.ts.length ≤ 1000000) : Pu tab 13 [v] (DR (D.q (true, 0, .sl true 0 (some 0) []))) := by
  have h27 := p27 hv hq true 0 true 0 (some 0) []
  obtain ⟨nc, cc, nq, cq, h1, h2, rfl⟩ := hv
  refine pu1 _ tab13 rfl (by decide) fun fr hfl h0 => ?_
  have hl' : fr.length = 6 := hfl
  simp only [A13, wk_skip, wk_reg, wk_dreg, wk_frz, wk_seq, wk_cond, wk_block, wk_loop, wk_exit, wk_scope, wk_ret, pk_nil, pk_seqN, pk_seqE, pk_seqR, pk_blkN, pk_blkE, pk_blkR, pk_invN, pk_invE, pk_invR, wo_nil, wo_cons, wd_nil, wd_cons, want_n, want_s, put_s, put_n, I.cls, List.map, opv_t, opv_i, opv_b, opv_n, opv_f, opv_s, ev_mv, ev_pick, ev_len, ev_lenR, ev_bin, ev_beqF, ev_beqT, ev_not, ev_conv, ev_ext, ev_mkfn, ev_faddr, ev_faddrF, ev_fieldF, ev_fieldT, ev_max, ev_min, ev_snilS, ev_snilR, ev_load1F, sb_lss, sb_leq, sb_gtr, sb_geq, sb_eql, sb_neq, sb_add, sb_sub, sb_mul, map_s, en_new, en_boxA, leaf_i, leaf_b, leaf_sl, leaf_ref, List.getElem?_set, List.length_set, List.length_map, List.length_append, List.getElem?_map, Option.map_some, Option.getD_some, ↓reduceIte, Nat.reduceLT, Nat.reduceEqDiff, Nat.zero_add, Nat.add_zero, decide_true, decide_false, Int.ofNat_lt, List.getElem?_cons_zero, List.getElem?_cons_succ, List.length_cons, List.length_nil, Nat.reduceAdd, Bool.not_true, Bool.not_false, Option.some.injEq, and_true, true_and, Bool.false_eq_true, Int.toNat_natCast, out_r, out_nm, pout_r, pout_nm, rs_n, rs_t, rs_c, one1, one2, one3, Option.bind_some, exists_eq_left', deep_eq, fz_lit, fz_sl, fz_fn0, fz_agg, fz_tup, mm_n, mm_c, ev_l1, ev_la, ew_1, ew_a, lk_0, lk_s, st_0, st_s, List.nil_append, List.cons_append, List.append_nil, List.drop_zero, List.drop_succ_cons, List.take_succ_cons, List.take_zero, List.take_nil, and_self, Nat.reduceLeDiff, Nat.le_refl, hd_n, hd_c, e3_n, e3_s, e3_a, mw_s, Option.map_none, rep_s, rep_0, bt_tf, bt_ff, bt_tt, bt_ft, ev_build, fp_0, fp_1, fp_a, spl_0, spl_s, Nat.mul_one, Nat.zero_mul, Nat.reduceMul, ev_iaddrPk, Int.reduceEq, true_or, or_true, or_self, hl', h0]
  refine wc_pu h27 rfl ?_
  rintro w ⟨nc', cc', nq', cq', h1', h2', rfl⟩
  simp only [wk_skip, wk_reg, wk_dreg, wk_frz, wk_seq, wk_cond, wk_block, wk_loop, wk_exit, wk_scope, wk_ret, pk_nil, pk_seqN, pk_seqE, pk_seqR, pk_blkN, pk_blkE, pk_blkR, pk_invN, pk_invE, pk_invR, wo_nil, wo_cons, wd_nil, wd_cons, want_n, want_s, put_s, put_n, I.cls, List.map, opv_t, opv_i, opv_b, opv_n, opv_f, opv_s, ev_mv, ev_pick, ev_len, ev_lenR, ev_bin, ev_beqF, ev_beqT, ev_not, ev_conv, ev_ext, ev_mkfn, ev_faddr, ev_faddrF, ev_fieldF, ev_fieldT, ev_max, ev_min, ev_snilS, ev_snilR, ev_load1F, sb_lss, sb_leq, sb_gtr, sb_geq, sb_eql, sb_neq, sb_add, sb_sub, sb_mul, map_s, en_new, en_boxA, leaf_i, leaf_b, leaf_sl, leaf_ref, List.getElem?_set, List.length_set, List.length_map, List.length_append, List.getElem?_map, Option.map_some, Option.getD_some, ↓reduceIte, Nat.reduceLT, Nat.reduceEqDiff, Nat.zero_add, Nat.add_zero, decide_true, decide_false, Int.ofNat_lt, List.getElem?_cons_zero, List.getElem?_cons_succ, List.length_cons, List.length_nil, Nat.reduceAdd, Bool.not_true, Bool.not_false, Option.some.injEq, and_true, true_and, Bool.false_eq_true, Int.toNat_natCast, out_r, out_nm, pout_r, pout_nm, rs_n, rs_t, rs_c, one1, one2, one3, Option.bind_some, exists_eq_left', deep_eq, fz_lit, fz_sl, fz_fn0, fz_agg, fz_tup, mm_n, mm_c, ev_l1, ev_la, ew_1, ew_a, lk_0, lk_s, st_0, st_s, List.nil_append, List.cons_append, List.append_nil, List.drop_zero, List.drop_succ_cons, List.take_succ_cons, List.take_zero, List.take_nil, and_self, Nat.reduceLeDiff, Nat.le_refl, hd_n, hd_c, e3_n, e3_s, e3_a, mw_s, Option.map_none, rep_s, rep_0, bt_tf, bt_ff, bt_tt, bt_ft, ev_build, fp_0, fp_1, fp_a, spl_0, spl_s, Nat.mul_one, Nat.zero_mul, Nat.reduceMul, ev_iaddrPk, Int.reduceEq, true_or, or_true, or_self, hl', h0]
  exact ⟨nc', cc', nq', cq', h1', h2', rfl⟩
end Go.Ev
/- What the disk's functions compute: Put, and the reference's Put and Fence. -/
namespace Go.Ev
open Go Go.Proofs

/-- What Put answers. -/
def PutR (D : Dsk) (v : AV) (t : Int) (d : List UInt8) (r : AV) : Prop :=
  (hasC D.cells.length t = true ∧ d.length ≤ D.sz ∧ ∃ y v', Same d y ∧ DR (D.q (false, t, y)) v' ∧ r = .tup [v', iv 0]) ∨ (¬ (hasC D.cells.length t = true ∧ d.length ≤ D.sz) ∧ r = .tup [v, iv 230])
theorem DR.noRef {D : Dsk} {v : AV} (h : DR D v) : v.noRef deep = true := by
  obtain ⟨_, _, _, _, _, _, rfl⟩ := h
  rfl
theorem Same.noRef {d : List UInt8} {x : AV} (h : Same d x) : x.noRef deep = true := by
  obtain ⟨_, _, _, rfl⟩ := h
  rfl
theorem p11 {D : Dsk} {v x : AV} (hv : DR D v) (t : Int) {d : List UInt8} (hx : Same d x) (hq : D.ts.length ≤ 1000000) (hs : D.sz ≤ 65536) : Pu tab 11 [v, iv t, x] (PutR D v t d) := by
  have h26 := p26 hv t
  have hvr := hv.noRef
  have hxr := hx.noRef
  have hv0 := hv
  have hx0 := hx
  obtain ⟨nc, cc, nq, cq, h1, h2, rfl⟩ := hv
  obtain ⟨nl, cl, hnl, rfl⟩ := hx
  refine pu3 _ tab11 rfl (by decide) fun fr hfl h0 h1' h2' => ?_
  have hl' : fr.length = 26 := hfl
  simp only [A11, wk_skip, wk_reg, wk_dreg, wk_frz, wk_seq, wk_cond, wk_block, wk_loop, wk_exit, wk_scope, wk_ret, pk_nil, pk_seqN, pk_seqE, pk_seqR, pk_blkN, pk_blkE, pk_blkR, pk_invN, pk_invE, pk_invR, wo_nil, wo_cons, wd_nil, wd_cons, want_n, want_s, put_s, put_n, I.cls, List.map, opv_t, opv_i, opv_b, opv_n, opv_f, opv_s, ev_mv, ev_pick, ev_len, ev_lenR, ev_bin, ev_beqF, ev_beqT, ev_not, ev_conv, ev_ext, ev_mkfn, ev_faddr, ev_faddrF, ev_fieldF, ev_fieldT, ev_max, ev_min, ev_snilS, ev_snilR, ev_load1F, sb_lss, sb_leq, sb_gtr, sb_geq, sb_eql, sb_neq, sb_add, sb_sub, sb_mul, map_s, en_new, en_boxA, leaf_i, leaf_b, leaf_sl, leaf_ref, List.getElem?_set, List.length_set, List.length_map, List.length_append, List.getElem?_map, Option.map_some, Option.getD_some, ↓reduceIte, Nat.reduceLT, Nat.reduceEqDiff, Nat.zero_add, Nat.add_zero, decide_true, decide_false, Int.ofNat_lt, List.getElem?_cons_zero, List.getElem?_cons_succ, List.length_cons, List.length_nil, Nat.reduceAdd, Bool.not_true, Bool.not_false, Option.some.injEq, and_true, true_and, Bool.false_eq_true, Int.toNat_natCast, out_r, out_nm, pout_r, pout_nm, rs_n, rs_t, rs_c, one1, one2, one3, Option.bind_some, exists_eq_left', deep_eq, fz_lit, fz_sl, fz_fn0, fz_agg, fz_tup, mm_n, mm_c, ev_l1, ev_la, ew_1, ew_a, lk_0, lk_s, st_0, st_s, List.nil_append, List.cons_append, List.append_nil, List.drop_zero, List.drop_succ_cons, List.take_succ_cons, List.take_zero, List.take_nil, and_self, Nat.reduceLeDiff, Nat.le_refl, hd_n, hd_c, e3_n, e3_s, e3_a, mw_s, Option.map_none, rep_s, rep_0, bt_tf, bt_ff, bt_tt, bt_ft, ev_build, fp_0, fp_1, fp_a, spl_0, spl_s, Nat.mul_one, Nat.zero_mul, Nat.reduceMul, ev_iaddrPk, Int.reduceEq, true_or, or_true, or_self, hl', h0, h1', h2']
  refine wc_pu h26 rfl ?_
  rintro w rfl
  cases hh : hasC D.cells.length t with
  | false =>
    simp only [wk_skip, wk_reg, wk_dreg, wk_frz, wk_seq, wk_cond, wk_block, wk_loop, wk_exit, wk_scope, wk_ret, pk_nil, pk_seqN, pk_seqE, pk_seqR, pk_blkN, pk_blkE, pk_blkR, pk_invN, pk_invE, pk_invR, wo_nil, wo_cons, wd_nil, wd_cons, want_n, want_s, put_s, put_n, I.cls, List.map, opv_t, opv_i, opv_b, opv_n, opv_f, opv_s, ev_mv, ev_pick, ev_len, ev_lenR, ev_bin, ev_beqF, ev_beqT, ev_not, ev_conv, ev_ext, ev_mkfn, ev_faddr, ev_faddrF, ev_fieldF, ev_fieldT, ev_max, ev_min, ev_snilS, ev_snilR, ev_load1F, sb_lss, sb_leq, sb_gtr, sb_geq, sb_eql, sb_neq, sb_add, sb_sub, sb_mul, map_s, en_new, en_boxA, leaf_i, leaf_b, leaf_sl, leaf_ref, List.getElem?_set, List.length_set, List.length_map, List.length_append, List.getElem?_map, Option.map_some, Option.getD_some, ↓reduceIte, Nat.reduceLT, Nat.reduceEqDiff, Nat.zero_add, Nat.add_zero, decide_true, decide_false, Int.ofNat_lt, List.getElem?_cons_zero, List.getElem?_cons_succ, List.length_cons, List.length_nil, Nat.reduceAdd, Bool.not_true, Bool.not_false, Option.some.injEq, and_true, true_and, Bool.false_eq_true, Int.toNat_natCast, out_r, out_nm, pout_r, pout_nm, rs_n, rs_t, rs_c, one1, one2, one3, Option.bind_some, exists_eq_left', deep_eq, fz_lit, fz_sl, fz_fn0, fz_agg, fz_tup, mm_n, mm_c, ev_l1, ev_la, ew_1, ew_a, lk_0, lk_s, st_0, st_s, List.nil_append, List.cons_append, List.append_nil, List.drop_zero, List.drop_succ_cons, List.take_succ_cons, List.take_zero, List.take_nil, and_self, Nat.reduceLeDiff, Nat.le_refl, hd_n, hd_c, e3_n, e3_s, e3_a, mw_s, Option.map_none, rep_s, rep_0, bt_tf, bt_ff, bt_tt, bt_ft, ev_build, fp_0, fp_1, fp_a, spl_0, spl_s, Nat.mul_one, Nat.zero_mul, Nat.reduceMul, ev_iaddrPk, Int.reduceEq, true_or, or_true, or_self, hl', h0, h1', h2']
    exact .inr ⟨by simp [hh], rfl⟩
  | true =>
    by_cases hd : D.sz < d.length
    · have hd' := decT hd
      simp only [wk_skip, wk_reg, wk_dreg, wk_frz, wk_seq, wk_cond, wk_block, wk_loop, wk_exit, wk_scope, wk_ret, pk_nil, pk_seqN, pk_seqE, pk_seqR, pk_blkN, pk_blkE, pk_blkR, pk_invN, pk_invE, pk_invR, wo_nil, wo_cons, wd_nil, wd_cons, want_n, want_s, put_s, put_n, I.cls, List.map, opv_t, opv_i, opv_b, opv_n, opv_f, opv_s, ev_mv, ev_pick, ev_len, ev_lenR, ev_bin, ev_beqF, ev_beqT, ev_not, ev_conv, ev_ext, ev_mkfn, ev_faddr, ev_faddrF, ev_fieldF, ev_fieldT, ev_max, ev_min, ev_snilS, ev_snilR, ev_load1F, sb_lss, sb_leq, sb_gtr, sb_geq, sb_eql, sb_neq, sb_add, sb_sub, sb_mul, map_s, en_new, en_boxA, leaf_i, leaf_b, leaf_sl, leaf_ref, List.getElem?_set, List.length_set, List.length_map, List.length_append, List.getElem?_map, Option.map_some, Option.getD_some, ↓reduceIte, Nat.reduceLT, Nat.reduceEqDiff, Nat.zero_add, Nat.add_zero, decide_true, decide_false, Int.ofNat_lt, List.getElem?_cons_zero, List.getElem?_cons_succ, List.length_cons, List.length_nil, Nat.reduceAdd, Bool.not_true, Bool.not_false, Option.some.injEq, and_true, true_and, Bool.false_eq_true, Int.toNat_natCast, out_r, out_nm, pout_r, pout_nm, rs_n, rs_t, rs_c, one1, one2, one3, Option.bind_some, exists_eq_left', deep_eq, fz_lit, fz_sl, fz_fn0, fz_agg, fz_tup, mm_n, mm_c, ev_l1, ev_la, ew_1, ew_a, lk_0, lk_s, st_0, st_s, List.nil_append, List.cons_append, List.append_nil, List.drop_zero, List.drop_succ_cons, List.take_succ_cons, List.take_zero, List.take_nil, and_self, Nat.reduceLeDiff, Nat.le_refl, hd_n, hd_c, e3_n, e3_s, e3_a, mw_s, Option.map_none, rep_s, rep_0, bt_tf, bt_ff, bt_tt, bt_ft, ev_build, fp_0, fp_1, fp_a, spl_0, spl_s, Nat.mul_one, Nat.zero_mul, Nat.reduceMul, ev_iaddrPk, Int.reduceEq, true_or, or_true, or_self, hl', h0, h1', h2', hd']
      exact .inr ⟨by intro h; omega, rfl⟩
    · have hd' := decF hd
      simp only [wk_skip, wk_reg, wk_dreg, wk_frz, wk_seq, wk_cond, wk_block, wk_loop, wk_exit, wk_scope, wk_ret, pk_nil, pk_seqN, pk_seqE, pk_seqR, pk_blkN, pk_blkE, pk_blkR, pk_invN, pk_invE, pk_invR, wo_nil, wo_cons, wd_nil, wd_cons, want_n, want_s, put_s, put_n, I.cls, List.map, opv_t, opv_i, opv_b, opv_n, opv_f, opv_s, ev_mv, ev_pick, ev_len, ev_lenR, ev_bin, ev_beqF, ev_beqT, ev_not, ev_conv, ev_ext, ev_mkfn, ev_faddr, ev_faddrF, ev_fieldF, ev_fieldT, ev_max, ev_min, ev_snilS, ev_snilR, ev_load1F, sb_lss, sb_leq, sb_gtr, sb_geq, sb_eql, sb_neq, sb_add, sb_sub, sb_mul, map_s, en_new, en_boxA, leaf_i, leaf_b, leaf_sl, leaf_ref, List.getElem?_set, List.length_set, List.length_map, List.length_append, List.getElem?_map, Option.map_some, Option.getD_some, ↓reduceIte, Nat.reduceLT, Nat.reduceEqDiff, Nat.zero_add, Nat.add_zero, decide_true, decide_false, Int.ofNat_lt, List.getElem?_cons_zero, List.getElem?_cons_succ, List.length_cons, List.length_nil, Nat.reduceAdd, Bool.not_true, Bool.not_false, Option.some.injEq, and_true, true_and, Bool.false_eq_true, Int.toNat_natCast, out_r, out_nm, pout_r, pout_nm, rs_n, rs_t, rs_c, one1, one2, one3, Option.bind_some, exists_eq_left', deep_eq, fz_lit, fz_sl, fz_fn0, fz_agg, fz_tup, mm_n, mm_c, ev_l1, ev_la, ew_1, ew_a, lk_0, lk_s, st_0, st_s, List.nil_append, List.cons_append, List.append_nil, List.drop_zero, List.drop_succ_cons, List.take_succ_cons, List.take_zero, List.take_nil, and_self, Nat.reduceLeDiff, Nat.le_refl, hd_n, hd_c, e3_n, e3_s, e3_a, mw_s, Option.map_none, rep_s, rep_0, bt_tf, bt_ff, bt_tt, bt_ft, ev_build, fp_0, fp_1, fp_a, spl_0, spl_s, Nat.mul_one, Nat.zero_mul, Nat.reduceMul, ev_iaddrPk, Int.reduceEq, true_or, or_true, or_self, hl', h0, h1', h2', hd']
      refine wcd_pu (p28 hx0 (by omega)) rfl ?_
      rintro y hy
      have hy0 := hy
      obtain ⟨nl', cl', hnl', rfl⟩ := hy
      simp only [wk_skip, wk_reg, wk_dreg, wk_frz, wk_seq, wk_cond, wk_block, wk_loop, wk_exit, wk_scope, wk_ret, pk_nil, pk_seqN, pk_seqE, pk_seqR, pk_blkN, pk_blkE, pk_blkR, pk_invN, pk_invE, pk_invR, wo_nil, wo_cons, wd_nil, wd_cons, want_n, want_s, put_s, put_n, I.cls, List.map, opv_t, opv_i, opv_b, opv_n, opv_f, opv_s, ev_mv, ev_pick, ev_len, ev_lenR, ev_bin, ev_beqF, ev_beqT, ev_not, ev_conv, ev_ext, ev_mkfn, ev_faddr, ev_faddrF, ev_fieldF, ev_fieldT, ev_max, ev_min, ev_snilS, ev_snilR, ev_load1F, sb_lss, sb_leq, sb_gtr, sb_geq, sb_eql, sb_neq, sb_add, sb_sub, sb_mul, map_s, en_new, en_boxA, leaf_i, leaf_b, leaf_sl, leaf_ref, List.getElem?_set, List.length_set, List.length_map, List.length_append, List.getElem?_map, Option.map_some, Option.getD_some, ↓reduceIte, Nat.reduceLT, Nat.reduceEqDiff, Nat.zero_add, Nat.add_zero, decide_true, decide_false, Int.ofNat_lt, List.getElem?_cons_zero, List.getElem?_cons_succ, List.length_cons, List.length_nil, Nat.reduceAdd, Bool.not_true, Bool.not_false, Option.some.injEq, and_true, true_and, Bool.false_eq_true, Int.toNat_natCast, out_r, out_nm, pout_r, pout_nm, rs_n, rs_t, rs_c, one1, one2, one3, Option.bind_some, exists_eq_left', deep_eq, fz_lit, fz_sl, fz_fn0, fz_agg, fz_tup, mm_n, mm_c, ev_l1, ev_la, ew_1, ew_a, lk_0, lk_s, st_0, st_s, List.nil_append, List.cons_append, List.append_nil, List.drop_zero, List.drop_succ_cons, List.take_succ_cons, List.take_zero, List.take_nil, and_self, Nat.reduceLeDiff, Nat.le_refl, hd_n, hd_c, e3_n, e3_s, e3_a, mw_s, Option.map_none, rep_s, rep_0, bt_tf, bt_ff, bt_tt, bt_ft, ev_build, fp_0, fp_1, fp_a, spl_0, spl_s, Nat.mul_one, Nat.zero_mul, Nat.reduceMul, ev_iaddrPk, Int.reduceEq, true_or, or_true, or_self, hl', h0, h1', h2']
      refine wcd_pu (p27 hv0 hq false t nl' d.length cl' (d.map uv)) rfl ?_
      rintro w ⟨nc', cc', nq', cq', h1'', h2'', rfl⟩
      simp only [wk_skip, wk_reg, wk_dreg, wk_frz, wk_seq, wk_cond, wk_block, wk_loop, wk_exit, wk_scope, wk_ret, pk_nil, pk_seqN, pk_seqE, pk_seqR, pk_blkN, pk_blkE, pk_blkR, pk_invN, pk_invE, pk_invR, wo_nil, wo_cons, wd_nil, wd_cons, want_n, want_s, put_s, put_n, I.cls, List.map, opv_t, opv_i, opv_b, opv_n, opv_f, opv_s, ev_mv, ev_pick, ev_len, ev_lenR, ev_bin, ev_beqF, ev_beqT, ev_not, ev_conv, ev_ext, ev_mkfn, ev_faddr, ev_faddrF, ev_fieldF, ev_fieldT, ev_max, ev_min, ev_snilS, ev_snilR, ev_load1F, sb_lss, sb_leq, sb_gtr, sb_geq, sb_eql, sb_neq, sb_add, sb_sub, sb_mul, map_s, en_new, en_boxA, leaf_i, leaf_b, leaf_sl, leaf_ref, List.getElem?_set, List.length_set, List.length_map, List.length_append, List.getElem?_map, Option.map_some, Option.getD_some, ↓reduceIte, Nat.reduceLT, Nat.reduceEqDiff, Nat.zero_add, Nat.add_zero, decide_true, decide_false, Int.ofNat_lt, List.getElem?_cons_zero, List.getElem?_cons_succ, List.length_cons, List.length_nil, Nat.reduceAdd, Bool.not_true, Bool.not_false, Option.some.injEq, and_true, true_and, Bool.false_eq_true, Int.toNat_natCast, out_r, out_nm, pout_r, pout_nm, rs_n, rs_t, rs_c, one1, one2, one3, Option.bind_some, exists_eq_left', deep_eq, fz_lit, fz_sl, fz_fn0, fz_agg, fz_tup, mm_n, mm_c, ev_l1, ev_la, ew_1, ew_a, lk_0, lk_s, st_0, st_s, List.nil_append, List.cons_append, List.append_nil, List.drop_zero, List.drop_succ_cons, List.take_succ_cons, List.take_zero, List.take_nil, and_self, Nat.reduceLeDiff, Nat.le_refl, hd_n, hd_c, e3_n, e3_s, e3_a, mw_s, Option.map_none, rep_s, rep_0, bt_tf, bt_ff, bt_tt, bt_ft, ev_build, fp_0, fp_1, fp_a, spl_0, spl_s, Nat.mul_one, Nat.zero_mul, Nat.reduceMul, ev_iaddrPk, Int.reduceEq, true_or, or_true, or_self, hl', h0, h1', h2']
      exact .inl ⟨hh, by omega, _, _, hy0, ⟨nc', cc', nq', cq', h1'', h2'', rfl⟩, rfl⟩
end Go.Ev
/- What the disk's functions compute: finish. -/
namespace Go.Ev
open Go Go.Proofs

theorem c37 (h : Heap) (cl : Option Nat) (xs : List AV) (hx : xs ≠ []) (hb : xs.length ≤ 4096) : Cl tab 37 [.sl false xs.length cl xs] h (.ref (h.length + 1) 0 xs.length 1 none) (h ++ [none, some xs]) := by
  obtain ⟨r, h', ⟨rfl, rfl⟩, hc⟩ : ∃ r h', (r = .ref (h.length + 1) 0 xs.length 1 none ∧ h' = h ++ [none, some xs]) ∧ Cl tab 37 [.sl false xs.length cl xs] h r h' := by
    refine sh1 (fun r h' => r = .ref (h.length + 1) 0 xs.length 1 none ∧ h' = h ++ [none, some xs]) tab37 rfl (by decide) fun fr hfl h0 => ?_
    have hl' : fr.length = 8 := hfl
    have hp : xs.length ≠ 0 := fun e => hx (List.length_eq_zero_iff.1 e)
    have ha := @ew_app (h ++ [some []]) 1 h.length 0 xs.length 24 (some 0) [] xs (.sl false xs.length cl xs) (look_at0 h _) rfl (slC_slN _ 1 false xs.length cl xs (by simp)) hp (by omega) (by omega)
    simp only [A37, wk_skip, wk_reg, wk_dreg, wk_frz, wk_seq, wk_cond, wk_block, wk_loop, wk_exit, wk_scope, wk_ret, pk_nil, pk_seqN, pk_seqE, pk_seqR, pk_blkN, pk_blkE, pk_blkR, pk_invN, pk_invE, pk_invR, wo_nil, wo_cons, wd_nil, wd_cons, want_n, want_s, put_s, put_n, I.cls, List.map, opv_t, opv_i, opv_b, opv_n, opv_f, opv_s, ev_mv, ev_pick, ev_len, ev_lenR, ev_bin, ev_beqF, ev_beqT, ev_not, ev_conv, ev_ext, ev_mkfn, ev_faddr, ev_faddrF, ev_fieldF, ev_fieldT, ev_max, ev_min, ev_snilS, ev_snilR, ev_load1F, sb_lss, sb_leq, sb_gtr, sb_geq, sb_eql, sb_neq, sb_add, sb_sub, sb_mul, map_s, en_new, en_boxA, leaf_i, leaf_b, leaf_sl, leaf_ref, List.getElem?_set, List.length_set, List.length_map, List.length_append, List.getElem?_map, Option.map_some, Option.getD_some, ↓reduceIte, Nat.reduceLT, Nat.reduceEqDiff, Nat.zero_add, Nat.add_zero, decide_true, decide_false, Int.ofNat_lt, List.getElem?_cons_zero, List.getElem?_cons_succ, List.length_cons, List.length_nil, Nat.reduceAdd, Bool.not_true, Bool.not_false, Option.some.injEq, and_true, true_and, Bool.false_eq_true, Int.toNat_natCast, out_r, out_nm, pout_r, pout_nm, rs_n, rs_t, rs_c, one1, one2, one3, Option.bind_some, exists_eq_left', deep_eq, fz_lit, fz_sl, fz_fn0, fz_agg, fz_tup, mm_n, mm_c, ev_l1, ev_la, ew_1, ew_a, lk_0, lk_s, st_0, st_s, List.nil_append, List.cons_append, List.append_nil, List.drop_zero, List.drop_succ_cons, List.take_succ_cons, List.take_zero, List.take_nil, and_self, Nat.reduceLeDiff, Nat.le_refl, hd_n, hd_c, e3_n, e3_s, e3_a, mw_s, Option.map_none, rep_s, rep_0, bt_tf, bt_ff, bt_tt, bt_ft, ev_build, fp_0, fp_1, fp_a, spl_0, spl_s, Nat.mul_one, Nat.zero_mul, Nat.reduceMul, ev_iaddrPk, Int.reduceEq, true_or, or_true, or_self, hl', h0, en_bs0, ha, cap0 hp, set_at0, List.append_assoc]
  exact hc
abbrev actsA : AV := .agg [.fn 41 [], .fn 42 [], .fn 43 [], .fn 44 []]
theorem p39 : Pu tab 39 [] (· = actsA) := pu_closed tab39 rfl (n := 20) (by kernel_rfl)
theorem p30 (n : Int) : Pu tab 30 [iv n] (· = .agg [iv 0, iv 0]) := by
  refine pu1 _ tab30 rfl (by decide) fun fr hfl h0 => ?_
  have hl' : fr.length = 4 := hfl
  simp only [A30, wk_skip, wk_reg, wk_dreg, wk_frz, wk_seq, wk_cond, wk_block, wk_loop, wk_exit, wk_scope, wk_ret, pk_nil, pk_seqN, pk_seqE, pk_seqR, pk_blkN, pk_blkE, pk_blkR, pk_invN, pk_invE, pk_invR, wo_nil, wo_cons, wd_nil, wd_cons, want_n, want_s, put_s, put_n, I.cls, List.map, opv_t, opv_i, opv_b, opv_n, opv_f, opv_s, ev_mv, ev_pick, ev_len, ev_lenR, ev_bin, ev_beqF, ev_beqT, ev_not, ev_conv, ev_ext, ev_mkfn, ev_faddr, ev_faddrF, ev_fieldF, ev_fieldT, ev_max, ev_min, ev_snilS, ev_snilR, ev_load1F, sb_lss, sb_leq, sb_gtr, sb_geq, sb_eql, sb_neq, sb_add, sb_sub, sb_mul, map_s, en_new, en_boxA, leaf_i, leaf_b, leaf_sl, leaf_ref, List.getElem?_set, List.length_set, List.length_map, List.length_append, List.getElem?_map, Option.map_some, Option.getD_some, ↓reduceIte, Nat.reduceLT, Nat.reduceEqDiff, Nat.zero_add, Nat.add_zero, decide_true, decide_false, Int.ofNat_lt, List.getElem?_cons_zero, List.getElem?_cons_succ, List.length_cons, List.length_nil, Nat.reduceAdd, Bool.not_true, Bool.not_false, Option.some.injEq, and_true, true_and, Bool.false_eq_true, Int.toNat_natCast, out_r, out_nm, pout_r, pout_nm, rs_n, rs_t, rs_c, one1, one2, one3, Option.bind_some, exists_eq_left', deep_eq, fz_lit, fz_sl, fz_fn0, fz_agg, fz_tup, mm_n, mm_c, ev_l1, ev_la, ew_1, ew_a, lk_0, lk_s, st_0, st_s, List.nil_append, List.cons_append, List.append_nil, List.drop_zero, List.drop_succ_cons, List.take_succ_cons, List.take_zero, List.take_nil, and_self, Nat.reduceLeDiff, Nat.le_refl, hd_n, hd_c, e3_n, e3_s, e3_a, mw_s, Option.map_none, rep_s, rep_0, bt_tf, bt_ff, bt_tt, bt_ft, ev_build, fp_0, fp_1, fp_a, spl_0, spl_s, Nat.mul_one, Nat.zero_mul, Nat.reduceMul, ev_iaddrPk, Int.reduceEq, true_or, or_true, or_self, hl', h0]
/-- A write that is done. -/
theorem c41 (h : Heap) (o n : Nat) (cap : Option Nat) (row : List AV) (t : Nat) (i : Bool) (dn : Nat) (dc : Option Nat) (dx : List AV) (k : Int) (b : Bool) (hl : look h o = some row) (hr : row.length = n) (ht : t < n) :
    ∃ Z, Cl tab 41 [.ref o 0 n 1 cap, .agg [.lit (.bool b), iv t, .sl i dn dc dx], iv k] h (.tup []) (h.set o (some (row.set t (.sl i dn dc dx))) ++ Z) := by
  obtain ⟨r, h', ⟨rfl, Z, rfl⟩, hc⟩ : ∃ r h', (r = .tup [] ∧ ∃ Z, h' = h.set o (some (row.set t (.sl i dn dc dx))) ++ Z) ∧ Cl tab 41 [.ref o 0 n 1 cap, .agg [.lit (.bool b), iv t, .sl i dn dc dx], iv k] h r h' := by
    refine sh3 (fun r h' => r = .tup [] ∧ ∃ Z, h' = h.set o (some (row.set t (.sl i dn dc dx))) ++ Z) tab41 rfl (by decide) fun fr hfl h0 h1 h2 => ?_
    have hl' : fr.length = 12 := hfl
    have ho := look_lt hl
    have hl2 : look (h ++ [some [.lit (.bool b), iv t, .sl i dn dc dx]]) o = some row := by rw [look_app_lt ho]; exact hl
    have hw := @ew_one (h ++ [some [.lit (.bool b), iv t, .sl i dn dc dx]]) o t row (.sl i dn dc dx) hl2 (leaf_sl _ _ _ _) (by omega)
    simp only [A41, wk_skip, wk_reg, wk_dreg, wk_frz, wk_seq, wk_cond, wk_block, wk_loop, wk_exit, wk_scope, wk_ret, pk_nil, pk_seqN, pk_seqE, pk_seqR, pk_blkN, pk_blkE, pk_blkR, pk_invN, pk_invE, pk_invR, wo_nil, wo_cons, wd_nil, wd_cons, want_n, want_s, put_s, put_n, I.cls, List.map, opv_t, opv_i, opv_b, opv_n, opv_f, opv_s, ev_mv, ev_pick, ev_len, ev_lenR, ev_bin, ev_beqF, ev_beqT, ev_not, ev_conv, ev_ext, ev_mkfn, ev_faddr, ev_faddrF, ev_fieldF, ev_fieldT, ev_max, ev_min, ev_snilS, ev_snilR, ev_load1F, sb_lss, sb_leq, sb_gtr, sb_geq, sb_eql, sb_neq, sb_add, sb_sub, sb_mul, map_s, en_new, en_boxA, leaf_i, leaf_b, leaf_sl, leaf_ref, List.getElem?_set, List.length_set, List.length_map, List.length_append, List.getElem?_map, Option.map_some, Option.getD_some, ↓reduceIte, Nat.reduceLT, Nat.reduceEqDiff, Nat.zero_add, Nat.add_zero, decide_true, decide_false, Int.ofNat_lt, List.getElem?_cons_zero, List.getElem?_cons_succ, List.length_cons, List.length_nil, Nat.reduceAdd, Bool.not_true, Bool.not_false, Option.some.injEq, and_true, true_and, Bool.false_eq_true, Int.toNat_natCast, out_r, out_nm, pout_r, pout_nm, rs_n, rs_t, rs_c, one1, one2, one3, Option.bind_some, exists_eq_left', deep_eq, fz_lit, fz_sl, fz_fn0, fz_agg, fz_tup, mm_n, mm_c, ev_l1, ev_la, ew_1, ew_a, lk_0, lk_s, st_0, st_s, List.nil_append, List.cons_append, List.append_nil, List.drop_zero, List.drop_succ_cons, List.take_succ_cons, List.take_zero, List.take_nil, and_self, Nat.reduceLeDiff, Nat.le_refl, hd_n, hd_c, e3_n, e3_s, e3_a, mw_s, Option.map_none, rep_s, rep_0, bt_tf, bt_ff, bt_tt, bt_ft, ev_build, fp_0, fp_1, fp_a, spl_0, spl_s, Nat.mul_one, Nat.zero_mul, Nat.reduceMul, ev_iaddrPk, Int.reduceEq, true_or, or_true, or_self, hl', h0, h1, h2, look_at, look_at0, set_at, set_at0, ev_iaddrR, ht, hw]
    exact ⟨rfl, _, List.set_append_left _ _ ho⟩
  exact ⟨Z, hc⟩
end Go.Ev
