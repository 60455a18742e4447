/- What the disk's functions compute. -/
import Derived.Test.YtpjjloaphlaokaaCodeD
set_option linter.unusedVariables false
set_option linter.unusedSimpArgs false
set_option maxRecDepth 20000
namespace Go.Ev
open Go Go.Proofs

theorem getE {α : Type} {xs : List α} {i : Nat} (h : i < xs.length) : xs[i]? = some xs[i] := List.getElem?_eq_getElem h
theorem wrapS {i n : Nat} (h : i < n) (hn : n ≤ 9223372036854775807) : IntKind.i64.wrap ((i : Int) + 1) = ((i + 1 : Nat) : Int) := wrap64 (by omega) (by omega)
theorem decT {p : Prop} [Decidable p] (h : p) : decide p = true := decide_eq_true h
theorem decF {p : Prop} [Decidable p] (h : ¬ p) : decide p = false := decide_eq_false h
theorem pu_closed {tab : FuncId → Option AFn} {f : FuncId} {n : Nat} {v : AV} {af : AFn} (ht : tab f = some af) (hp : af.plain = true) (he : evCall tab n f [] [] = some (v, [])) : Pu tab f [] (· = v) := by
  have h1 : af.isPure = true := by simp only [AFn.plain, Bool.and_eq_true] at hp; exact hp.1
  have h2 : af.ext = none := by simp only [AFn.plain, Bool.and_eq_true] at hp; simpa using hp.2
  refine ⟨v, rfl, n, af, ht, h1, fun g args0 ha hn h => ?_⟩
  simp only [evCall, ht, runFn, h1, h2, if_true, List.mapM_nil] at he
  unfold runFn
  rw [if_pos h1, ha]
  simp only [pure, List.length_nil, h2] at he ⊢
  cases hb : evC tab n af.body ([] ++ List.replicate (af.ntmps - 0) (.lit undef)) [] with
  | none => rw [hb] at he; cases he
  | some x =>
    obtain ⟨ex, fr, h1⟩ := x
    rw [hb] at he
    cases ex with
    | exit id => cases he
    | normal =>
      cases hr : evRes (look h1) fr af.res with
      | none => simp [hr] at he
      | some vs =>
        cases hz : fz (look h1) deep (oneOf vs) with
        | none => simp [hr, hz] at he
        | some u =>
          simp [hr, hz] at he
          subst he
          simp only [hr, hz]
          rw [if_pos hn]
    | ret =>
      cases hr : evRes (look h1) fr af.res with
      | none => simp [hr] at he
      | some vs =>
        cases hz : fz (look h1) deep (oneOf vs) with
        | none => simp [hr, hz] at he
        | some u =>
          simp [hr, hz] at he
          subst he
          simp only [hr, hz]
          rw [if_pos hn]
theorem sanity9 : evCall tab 60 9 [] [] = some (bv true, []) := by kernel_rfl
theorem p9 : Pu tab 9 [] (· = bv true) := pu_closed tab9 rfl sanity9

def uv (b : UInt8) : AV := .lit (.int .u8 (b.toNat : Int))
/-- A row of bytes. -/
def Dat (sz : Nat) (x : AV) : Prop := ∃ (nl : Bool) (cap : Option Nat) (d : List UInt8), (nl = true → d = []) ∧ d.length ≤ sz ∧ x = .sl nl d.length cap (d.map uv)
def flat (ts : List T3) : List AV := ts.flatMap fun x => [.lit (.bool x.1), .lit (.int .i64 x.2.1), x.2.2]
theorem flat_len (ts : List T3) : (flat ts).length = ts.length * 3 := by
  induction ts with
  | nil => rfl
  | cons x r ih => simp only [flat, List.flatMap_cons] at ih ⊢; simp [ih]; omega
theorem flat_snoc (ts : List T3) (x : T3) : flat (ts ++ [x]) = flat ts ++ [.lit (.bool x.1), .lit (.int .i64 x.2.1), x.2.2] := by simp [flat]
structure Dsk where
  sz : Nat
  cells : List AV
  ts : List T3
structure DOk (D : Dsk) : Prop where
  s1 : 1 ≤ D.sz
  s2 : D.sz ≤ 65536
  c0 : 1 ≤ D.cells.length
  c1 : D.cells.length ≤ 4096
  cells : ∀ x ∈ D.cells, Dat D.sz x
  q1 : D.ts.length ≤ 1000000
  ts : ∀ x ∈ D.ts, Dat D.sz x.2.2 ∧ (x.1 = false → 0 ≤ x.2.1 ∧ x.2.1 < D.cells.length)
def DR (D : Dsk) (v : AV) : Prop := ∃ (nc : Bool) (cc : Option Nat) (nq : Bool) (cq : Option Nat), (nc = true → D.cells = []) ∧ (nq = true → D.ts = []) ∧
  v = .agg [iv D.sz, .sl nc D.cells.length cc D.cells, .sl nq D.ts.length cq (flat D.ts)]
def hasC (n : Nat) (t : Int) : Bool := decide (0 ≤ t) && decide (t < n)

theorem p26 {D : Dsk} {v : AV} (hv : DR D v) (t : Int) : Pu tab 26 [v, iv t] (· = bv (hasC D.cells.length t)) := by
  obtain ⟨nc, cc, nq, cq, _, _, rfl⟩ := hv
  refine pu2 _ tab26 rfl (by decide) fun fr hfl h0 h1 => ?_
  have hl' : fr.length = 14 := hfl
  unfold hasC
  by_cases h : 0 ≤ t
  · have hd := decT h
    simp only [A26, wk_skip, wk_reg, wk_dreg, wk_frz, wk_seq, wk_cond, wk_block, wk_loop, wk_exit, wk_scope, wk_ret, pk_nil, pk_seqN, pk_seqE, pk_seqR, pk_blkN, pk_blkE, pk_blkR, pk_invN, pk_invE, pk_invR, wo_nil, wo_cons, wd_nil, wd_cons, want_n, want_s, put_s, put_n, I.cls, List.map, opv_t, opv_i, opv_b, opv_n, opv_f, opv_s, ev_mv, ev_pick, ev_len, ev_lenR, ev_bin, ev_beqF, ev_beqT, ev_not, ev_conv, ev_ext, ev_mkfn, ev_faddr, ev_faddrF, ev_fieldF, ev_fieldT, ev_max, ev_min, ev_snilS, ev_snilR, ev_load1F, sb_lss, sb_leq, sb_gtr, sb_geq, sb_eql, sb_neq, sb_add, sb_sub, sb_mul, map_s, en_new, en_boxA, leaf_i, leaf_b, leaf_sl, leaf_ref, List.getElem?_set, List.length_set, List.length_map, List.length_append, List.getElem?_map, Option.map_some, Option.getD_some, ↓reduceIte, Nat.reduceLT, Nat.reduceEqDiff, Nat.zero_add, Nat.add_zero, decide_true, decide_false, Int.ofNat_lt, List.getElem?_cons_zero, List.getElem?_cons_succ, List.length_cons, List.length_nil, Nat.reduceAdd, Bool.not_true, Bool.not_false, Option.some.injEq, and_true, true_and, Bool.false_eq_true, Int.toNat_natCast, out_r, out_nm, pout_r, pout_nm, rs_n, rs_t, rs_c, one1, one2, one3, Option.bind_some, exists_eq_left', deep_eq, fz_lit, fz_sl, fz_fn0, fz_agg, fz_tup, mm_n, mm_c, ev_l1, ev_la, ew_1, ew_a, lk_0, lk_s, st_0, st_s, List.nil_append, List.cons_append, List.append_nil, List.drop_zero, List.drop_succ_cons, List.take_succ_cons, List.take_zero, List.take_nil, and_self, Nat.reduceLeDiff, Nat.le_refl, hd_n, hd_c, e3_n, e3_s, e3_a, mw_s, Option.map_none, rep_s, rep_0, bt_tf, bt_ff, bt_tt, bt_ft, ev_build, fp_0, fp_1, fp_a, spl_0, spl_s, Nat.mul_one, Nat.zero_mul, Nat.reduceMul, ev_iaddrPk, Int.reduceEq, true_or, or_true, or_self, hl', h0, h1, hd, ge_iff_le, h]
    rfl
  · have hd := decF h
    simp only [A26, wk_skip, wk_reg, wk_dreg, wk_frz, wk_seq, wk_cond, wk_block, wk_loop, wk_exit, wk_scope, wk_ret, pk_nil, pk_seqN, pk_seqE, pk_seqR, pk_blkN, pk_blkE, pk_blkR, pk_invN, pk_invE, pk_invR, wo_nil, wo_cons, wd_nil, wd_cons, want_n, want_s, put_s, put_n, I.cls, List.map, opv_t, opv_i, opv_b, opv_n, opv_f, opv_s, ev_mv, ev_pick, ev_len, ev_lenR, ev_bin, ev_beqF, ev_beqT, ev_not, ev_conv, ev_ext, ev_mkfn, ev_faddr, ev_faddrF, ev_fieldF, ev_fieldT, ev_max, ev_min, ev_snilS, ev_snilR, ev_load1F, sb_lss, sb_leq, sb_gtr, sb_geq, sb_eql, sb_neq, sb_add, sb_sub, sb_mul, map_s, en_new, en_boxA, leaf_i, leaf_b, leaf_sl, leaf_ref, List.getElem?_set, List.length_set, List.length_map, List.length_append, List.getElem?_map, Option.map_some, Option.getD_some, ↓reduceIte, Nat.reduceLT, Nat.reduceEqDiff, Nat.zero_add, Nat.add_zero, decide_true, decide_false, Int.ofNat_lt, List.getElem?_cons_zero, List.getElem?_cons_succ, List.length_cons, List.length_nil, Nat.reduceAdd, Bool.not_true, Bool.not_false, Option.some.injEq, and_true, true_and, Bool.false_eq_true, Int.toNat_natCast, out_r, out_nm, pout_r, pout_nm, rs_n, rs_t, rs_c, one1, one2, one3, Option.bind_some, exists_eq_left', deep_eq, fz_lit, fz_sl, fz_fn0, fz_agg, fz_tup, mm_n, mm_c, ev_l1, ev_la, ew_1, ew_a, lk_0, lk_s, st_0, st_s, List.nil_append, List.cons_append, List.append_nil, List.drop_zero, List.drop_succ_cons, List.take_succ_cons, List.take_zero, List.take_nil, and_self, Nat.reduceLeDiff, Nat.le_refl, hd_n, hd_c, e3_n, e3_s, e3_a, mw_s, Option.map_none, rep_s, rep_0, bt_tf, bt_ff, bt_tt, bt_ft, ev_build, fp_0, fp_1, fp_a, spl_0, spl_s, Nat.mul_one, Nat.zero_mul, Nat.reduceMul, ev_iaddrPk, Int.reduceEq, true_or, or_true, or_self, hl', h0, h1, hd, ge_iff_le, h]
    rfl
end Go.Ev
