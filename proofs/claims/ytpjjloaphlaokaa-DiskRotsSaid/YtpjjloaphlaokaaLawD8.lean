/- DiskRots holds of the program for every input that the row lets in. Conditions: none. -/
import Derived.Test.YtpjjloaphlaokaaRows
import Derived.Test.YtpjjloaphlaokaaLwR
import Derived.Test.YtpjjloaphlaokaaLwF
import Derived.WalkKit
import Derived.ProofKit
import Derived.OpenShut
import Derived.ChangeOld
import Derived.Below
namespace Go.Proofs.Ytpjjloaphlaokaa.diskRots
open Go.ChangeShapes Go.WideShapes Go.ChangeAt Go.RowKit Go.Ev
set_option linter.unusedVariables false
theorem own : ownKnob Try.prog.godebug = none := by kernel_rfl
theorem laidOut : laidOutB Try.prog = true := by kernel_rfl
set_option maxRecDepth 100000 in
theorem lifted (os : Os) (started : os.Started) (H : Type) (enc : TypeId × Value → H) :
    ReturnsInHanded {} Try.checked os 8 .any (Rows.diskRotsSpec.pre6 enc Try.prog Try.f8 Rows.diskRotsRow.domain false) (Rows.diskRotsSpec.post enc Try.prog Try.f8 false true false false) := by
  refine returnsInHanded_of_change (C := Try.checked) own started (by kernel_rfl) Try.func8
    (ChangeSpec.witness6 (enc := enc) (C := Try.checked) false ⟨#[], #[.agg #[.int .u8 0, .int .u8 0], .slice none 0 0, .agg #[.int .i16 0, .int .i16 0, .int .i16 0]], []⟩ 8 (by kernel_rfl) (by kernel_rfl) (by kernel_rfl) (by kernel_rfl)) ?_
  intro W base args ds gs before hval0 hW hcnd _
  have hval : ∀ (j : Nat) t v, Try.f8.params[j]? = some t → args[j]? = some v → Value.okWide Try.prog W .any base t v := hval0
  have hW' := hW
  obtain ⟨p, q, hA0, hV, rfl, hfz, hnd⟩ := hW
  have hA : DataW.TrodAll enc Try.prog W 0 (fun _ => true) true Try.f8.params.toList args.toList ds p := hA0
  rw [Try.params8] at hA hval
  obtain ⟨v0, vs0, d0, ds0, p0, q0, hargs, rfl, rfl, h0, r0⟩ := trodAll_cons hA
  obtain ⟨v1, vs1, d1, ds1, p1, q1, rfl, rfl, rfl, h1, r1⟩ := trodAll_cons r0
  obtain ⟨v2, vs2, d2, ds2, p2, q2, rfl, rfl, rfl, h2, r2⟩ := trodAll_cons r1
  obtain ⟨rfl, rfl, rfl⟩ := trodAll_nil r2
  obtain rfl : args = #[v0, v1, v2] := by cases args; simp_all
  obtain ⟨rfl, rfl⟩ := trodVars_none hV
  obtain ⟨x0, s0, e0⟩ : ∃ xs, _ ∧ _ := rd_agg (n := 8) (s := pairSh) (by kernel_rfl) (by obtain ⟨cs, rfl, _⟩ := ok_arr Try.underlying22 (hval 0 22 v0 rfl rfl); exact ⟨cs, rfl⟩) h0
  have lt0 : ∀ x ∈ p0, x.block < W.heap.size := by obtain ⟨m, hm⟩ := h0; exact DataW.trod_lt m _ _ _ hm
  obtain ⟨a1, len1, cap1, rfl⟩ := okWide_slice Try.underlying23 (hval 1 23 v1 rfl rfl)
  obtain ⟨x1, s1, e1⟩ := rd_sl (n := 8) (s := rawSh) (by kernel_rfl) h1
  have lt1 : ∀ x ∈ p1, x.block < W.heap.size := by obtain ⟨m, hm⟩ := h1; exact DataW.trod_lt m _ _ _ hm
  obtain ⟨x2, s2, e2⟩ : ∃ xs, _ ∧ _ := rd_agg (n := 8) (s := (.cons (.int .i16) (.cons (.int .i16) (.cons (.int .i16) .nil)))) (by kernel_rfl) (by obtain ⟨cs, rfl, _⟩ := ok_arr Try.underlying59 (hval 2 59 v2 rfl rfl); exact ⟨cs, rfl⟩) h2
  have lt2 : ∀ x ∈ p2, x.block < W.heap.size := by obtain ⟨m, hm⟩ := h2; exact DataW.trod_lt m _ _ _ hm
  clear hA0 hval0
  obtain ⟨a, b, ha, hb, rfl⟩ := pair_of s0
  obtain ⟨l, hl⟩ := raws_of s1
  obtain ⟨_, _, rfl, ⟨z0, rfl, g0⟩, _, _, rfl, ⟨z1, rfl, g1⟩, _, _, rfl, ⟨z2, rfl, g2⟩, rfl⟩ := s2
  have := law_calls extOk_S orders (p8 ha hb hl (wf_i16 g0).1 (wf_i16 g0).2 (wf_i16 g1).1 (wf_i16 g1).2) (by simp [hl.noRef]; exact ⟨rfl, rfl⟩) (args3 e0 e1 e2)
  refine this.mono fun e W' ⟨he, bel⟩ => ?_
  subst he
  exact ⟨_, rfl, _, _, _, [], _, [], hW', trodAll_mk1 (shut_bool Try.underlying4 _), (trodAll_cons_mk (Below.trod laidOut (by kernel_rfl) (of_decide_eq_true (by kernel_rfl)) h0 bel lt0) (trodAll_cons_mk (Below.trod laidOut (by kernel_rfl) (of_decide_eq_true (by kernel_rfl)) h1 bel lt1) (trodAll_cons_mk (Below.trod laidOut (by kernel_rfl) (of_decide_eq_true (by kernel_rfl)) h2 bel lt2) trodAll_mk0))), rfl, bel.frame _, fun h => by cases h⟩
theorem over : Rows.diskRotsRow.holds Try.pinned (OpenSpec.ofChange Rows.diskRotsSpec) :=
  OpenClaim.holds_of_wide 8 Try.f8 rfl rfl rfl rfl rfl rfl rfl ⟨rfl, rfl, rfl, rfl, rfl⟩ rfl rfl rfl rfl rfl (by kernel_rfl) Try.func8 (by kernel_rfl)
    (of_decide_eq_true (by kernel_rfl)) (by unfold Func.isWrapper; first | (rw [if_pos (by decide +kernel)]; kernel_rfl) | (rw [if_neg (by decide +kernel)]; exact ⟨rfl, rfl⟩))
    (fun os started H enc _ => lifted os started H enc)
theorem proved : Rows.DiskRotsSaid := over
end Go.Proofs.Ytpjjloaphlaokaa.diskRots
namespace Go.Proofs.Ytpjjloaphlaokaa
theorem diskRots_holds : Rows.DiskRotsSaid := diskRots.proved
#print axioms diskRots_holds
end Go.Proofs.Ytpjjloaphlaokaa

