/- Words for the walks over the evaluator's code. -/
import Derived.Test.YtpjjloaphlaokaaEvX
set_option linter.unusedVariables false
set_option linter.unusedSimpArgs false
set_option linter.unnecessarySimpa false
namespace Go.Ev
open Go
section
variable {tab : FuncId → Option AFn}

abbrev iv (n : Int) : AV := .lit (.int .i64 n)
abbrev bv (b : Bool) : AV := .lit (.bool b)

theorem frame_get {args : List AV} {m i : Nat} {x : AV} (h : args[i]? = some x) : (args ++ List.replicate m (.lit undef))[i]? = some x := by
  have := (List.getElem?_eq_some_iff.1 h).1
  rw [List.getElem?_append_left this]
  exact h
theorem frame_len {args : List AV} {m : Nat} (h : args.length ≤ m) : (args ++ List.replicate (m - args.length) (AV.lit undef)).length = m := by simp; omega

/-- What a function of the evaluator leaves. -/
def Out' (res : List (Nat × Option (Bool × Nat))) (R : AV → Heap → Prop) : Ex → List AV → Heap → Prop := fun ex fr h => match ex with
  | .exit _ => False
  | _ => ∃ vs, evRes (look h) fr res = some vs ∧ R (oneOf vs) h
theorem shared1 {f : FuncId} {af : AFn} {a : AV} {h : Heap} (R : AV → Heap → Prop) (hf : tab f = some af) (hp : af.isPure = false) (hn : 1 ≤ af.ntmps)
    (hw : ∀ fr, fr.length = af.ntmps → fr[0]? = some a → wp tab af.body (Out' af.res R) fr h) : ∃ v h', R v h' ∧ Cl tab f [a] h v h' :=
  cl_shared hf hp (hw _ (frame_len hn) (frame_get rfl))
theorem shared2 {f : FuncId} {af : AFn} {a b : AV} {h : Heap} (R : AV → Heap → Prop) (hf : tab f = some af) (hp : af.isPure = false) (hn : 2 ≤ af.ntmps)
    (hw : ∀ fr, fr.length = af.ntmps → fr[0]? = some a → fr[1]? = some b → wp tab af.body (Out' af.res R) fr h) : ∃ v h', R v h' ∧ Cl tab f [a, b] h v h' :=
  cl_shared hf hp (hw _ (frame_len hn) (frame_get rfl) (frame_get rfl))
theorem shared3 {f : FuncId} {af : AFn} {a b c : AV} {h : Heap} (R : AV → Heap → Prop) (hf : tab f = some af) (hp : af.isPure = false) (hn : 3 ≤ af.ntmps)
    (hw : ∀ fr, fr.length = af.ntmps → fr[0]? = some a → fr[1]? = some b → fr[2]? = some c → wp tab af.body (Out' af.res R) fr h) : ∃ v h', R v h' ∧ Cl tab f [a, b, c] h v h' :=
  cl_shared hf hp (hw _ (frame_len hn) (frame_get rfl) (frame_get rfl) (frame_get rfl))

/-- A pure call, wherever it is made. -/
def Pu (tab : FuncId → Option AFn) (f : FuncId) (args : List AV) (R : AV → Prop) : Prop := ∃ v, R v ∧ ∃ n af, tab f = some af ∧ af.isPure = true ∧ ∀ (g : Look) (args0 : List AV), args0.mapM (fz g deep) = some args → (args0.all (AV.noRef deep) || v.noMem deep) = true → ∀ h, runFn (evC tab n) af g args0 h = some (v, h)
theorem Pu.cl {f : FuncId} {args : List AV} {R : AV → Prop} (hp : Pu tab f args R) {args0 : List AV} {h : Heap} (ha : args0.mapM (fz (look h) deep) = some args) (hn : ∀ v, R v → (args0.all (AV.noRef deep) || v.noMem deep) = true) : ∃ v, R v ∧ Cl tab f args0 h v h := by
  obtain ⟨v, h1, n, af, h2, h3, h4⟩ := hp
  exact ⟨v, h1, n, by unfold evCall; rw [h2]; exact h4 _ _ ha (hn v h1) h⟩
theorem Pu.clD {f : FuncId} {args : List AV} {R : AV → Prop} (hp : Pu tab f args R) {fb : List Nat} {args0 : List AV} {h : Heap} (ha : args0.mapM (fz (hide h fb) deep) = some args) (hn : ∀ v, R v → (args0.all (AV.noRef deep) || v.noMem deep) = true) : ∃ v, R v ∧ ClD tab fb f args0 h v := by
  obtain ⟨v, h1, n, af, h2, h3, h4⟩ := hp
  exact ⟨v, h1, n, af, h2, h3, h4 _ _ ha (hn v h1) h⟩

theorem plain_of {af : AFn} (h : af.plain = true) : af.isPure = true ∧ af.ext = none := by
  simp only [AFn.plain, Bool.and_eq_true, Option.isNone_iff_eq_none] at h
  exact h
theorem pure_of {f : FuncId} {af : AFn} {args : List AV} {R : AV → Prop} (hf : tab f = some af) (hp0 : af.plain = true)
    (hw : wp tab af.body (fun ex fr h => match ex with | .exit _ => False | _ => ∃ vs, evRes (look h) fr af.res = some vs ∧ ∃ v, fz (look h) deep (oneOf vs) = some v ∧ R v) (args ++ List.replicate (af.ntmps - args.length) (.lit undef)) []) : Pu tab f args R := by
  obtain ⟨hp, hx0⟩ := plain_of hp0
  obtain ⟨n, ex, fr, h1, e, q⟩ := wp_sound _ _ _ _ hw
  have key : ∀ vs v, (∀ id, ex ≠ .exit id) → evRes (look h1) fr af.res = some vs → fz (look h1) deep (oneOf vs) = some v → R v → Pu tab f args R := by
    intro vs v hx q1 q2 q3
    refine ⟨v, q3, n, af, hf, hp, fun g args0 ha hn h => ?_⟩
    unfold runFn
    rw [if_pos hp, ha]
    simp only [hx0, e]
    cases ex with
    | exit id => exact absurd rfl (hx id)
    | normal => simp only [q1, q2]; rw [if_pos hn]
    | ret => simp only [q1, q2]; rw [if_pos hn]
  cases ex with
  | exit id => cases q
  | normal => obtain ⟨vs, q1, v, q2, q3⟩ := q; exact key vs v (by intro id e; cases e) q1 q2 q3
  | ret => obtain ⟨vs, q1, v, q2, q3⟩ := q; exact key vs v (by intro id e; cases e) q1 q2 q3
def Pout (res : List (Nat × Option (Bool × Nat))) (R : AV → Prop) : Ex → List AV → Heap → Prop := fun ex fr h => match ex with
  | .exit _ => False
  | _ => ∃ vs, evRes (look h) fr res = some vs ∧ ∃ v, fz (look h) deep (oneOf vs) = some v ∧ R v
/-- A function with a rule. -/
theorem pu_ext {f : FuncId} {e : List AV → Option AV} {args : List AV} {v : AV} (hf : tab f = some (extFn e)) (he : e args = some v) : Pu tab f args (· = v) := by
  refine ⟨v, rfl, 0, extFn e, hf, rfl, fun g args0 ha hn h => ?_⟩
  simp only [runFn, extFn, if_true, ha, he]
  rw [if_pos hn]
theorem pure0 {f : FuncId} {af : AFn} (R : AV → Prop) (hf : tab f = some af) (hp : af.plain = true)
    (hw : ∀ fr, fr.length = af.ntmps → wp tab af.body (Pout af.res R) fr []) : Pu tab f [] R := pure_of hf hp (hw _ (frame_len (Nat.zero_le _)))
theorem pure1 {f : FuncId} {af : AFn} {a : AV} (R : AV → Prop) (hf : tab f = some af) (hp : af.plain = true) (hn : 1 ≤ af.ntmps)
    (hw : ∀ fr, fr.length = af.ntmps → fr[0]? = some a → wp tab af.body (Pout af.res R) fr []) : Pu tab f [a] R := pure_of hf hp (hw _ (frame_len hn) (frame_get rfl))
theorem pure2 {f : FuncId} {af : AFn} {a b : AV} (R : AV → Prop) (hf : tab f = some af) (hp : af.plain = true) (hn : 2 ≤ af.ntmps)
    (hw : ∀ fr, fr.length = af.ntmps → fr[0]? = some a → fr[1]? = some b → wp tab af.body (Pout af.res R) fr []) : Pu tab f [a, b] R := pure_of hf hp (hw _ (frame_len hn) (frame_get rfl) (frame_get rfl))
theorem pure3 {f : FuncId} {af : AFn} {a b c : AV} (R : AV → Prop) (hf : tab f = some af) (hp : af.plain = true) (hn : 3 ≤ af.ntmps)
    (hw : ∀ fr, fr.length = af.ntmps → fr[0]? = some a → fr[1]? = some b → fr[2]? = some c → wp tab af.body (Pout af.res R) fr []) : Pu tab f [a, b, c] R := pure_of hf hp (hw _ (frame_len hn) (frame_get rfl) (frame_get rfl) (frame_get rfl))

theorem wrap64 {n : Int} (h1 : -9223372036854775808 ≤ n) (h2 : n < 9223372036854775808) : IntKind.i64.wrap n = n := by
  show (if (true && decide (n % 18446744073709551616 ≥ 9223372036854775808)) = true then n % 18446744073709551616 - 18446744073709551616 else n % 18446744073709551616) = n
  simp only [Bool.true_and, decide_eq_true_eq]
  split <;> omega
theorem natOf_nat (n : Nat) : natOf (.lit (.int .i64 (n : Int))) = some n := by simp [natOf]
theorem look_app_lt {h : Heap} {x : Option (List AV)} {o : Nat} (ho : o < h.length) : look (h ++ [x]) o = look h o := by
  unfold look; rw [List.getElem?_append_left ho]
theorem look_app_eq {h : Heap} {x : Option (List AV)} : look (h ++ [x]) h.length = x := by simp [look]
theorem look_set_ne {h : Heap} {x : Option (List AV)} {o s : Nat} (ho : s ≠ o) : look (h.set s x) o = look h o := by
  unfold look; rw [List.getElem?_set_ne ho]
theorem look_set_eq {h : Heap} {x : Option (List AV)} {o : Nat} (ho : o < h.length) : look (h.set o x) o = x := by
  unfold look; rw [List.getElem?_set_self ho]; rfl
theorem get_set_eq {fr : List AV} {i : Nat} {v : AV} (h : i < fr.length) : (fr.set i v)[i]? = some v := List.getElem?_set_self h
theorem get_set_ne {fr : List AV} {i j : Nat} {v : AV} (h : i ≠ j) : (fr.set i v)[j]? = fr[j]? := List.getElem?_set_ne h
end
end Go.Ev
