/- The examples, by the kernel; handed on as a rule. -/
import Derived.Test.YtpjjloaphlaokaaChecked
import Derived.Test.YtpjjloaphlaokaaEwB
import Derived.KernelRfl
import Derived.Test.YtpjjloaphlaokaaQueA
set_option linter.unusedVariables false
set_option maxRecDepth 20000
namespace Go.Ev
open Go Go.Proofs

theorem orders : Try.prog.follows .mixedOrders = true := by kernel_rfl
def polS : Pol := fun f => (!([15, 29, 32, 36, 37, 41, 42, 43, 44] : List Nat).contains f, [])
noncomputable def tabS : FuncId → Option AFn := tabOf Try.prog polS xQ
theorem sanS : evCall tabS 60 9 [] [] = some (bv true, []) := by kernel_rfl
def sanF : List AV → Option AV
  | [] => some (bv true)
  | _ => none
def xS : Ext := fun f => if f = 9 then some sanF else xQ f
theorem extOk_S : ExtOk Try.prog xS := by
  intro f e he
  by_cases hf : f = 9
  · subst hf
    obtain rfl : sanF = e := by simpa [xS] using he
    refine ⟨⟨_, _, Try.func9, rfl, by decide⟩, fun args v hv Ow w vs hOw ha => ?_⟩
    cases args with
    | cons a r => cases hv
    | nil =>
      cases hv
      have hr : HR Ow [] noPhi w := HR.nil hOw
      refine (evCall_sound extOk_Q orders sanS hr (by rw [own_nil]; exact ha)).mono fun e w' hret => ?_
      obtain ⟨u, φ', rfl, _, hst, hv, _, _⟩ := hret
      cases hv
      refine ⟨_, rfl, ⟨hst.os, hst.tape, hst.output, hst.size, fun k hk => hst.keep k hk ?_⟩, .lit _⟩
      rintro ⟨o, cs, base, h1, _⟩
      simp [look] at h1
  · exact extOk_Q f e (by simpa [xS, hf] using he)
end Go.Ev
