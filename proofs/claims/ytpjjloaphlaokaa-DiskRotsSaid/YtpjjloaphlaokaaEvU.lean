/- Functions and code. -/
import Derived.Test.YtpjjloaphlaokaaEvT
import Derived.Scope
import Derived.Below
set_option linter.unusedVariables false
set_option linter.unusedSimpArgs false
set_option linter.unnecessarySimpa false
namespace Go.Ev
open Go Go.RowKit
section
variable {P : Program}

/-- What a call leaves. -/
def Ret (B : Nat → Prop) (h : Heap) (φ : Phi) (w : World) (v : AV) (h' : Heap) : Ending → World → Prop := fun e w' =>
  ∃ (u : Value) (φ' : Phi), e = .returned u ∧ HR B h' φ' w' ∧ Stp φ (Live h φ) w φ' (Live h' φ') w' ∧ VR w' (Own B h' φ') φ' v u ∧ h.length ≤ h'.length ∧ ∀ o, o < h.length → φ' o = φ o
def exOf : Ex → Exit
  | .normal => .normal
  | .exit id => .exit id
  | .ret => .ret
/-- What code leaves. -/
def Pst (B : Nat → Prop) (h : Heap) (φ : Phi) (w : World) (h' : Heap) (fr' : List AV) (ex : Ex) : Exit → Act → World → Prop := fun e a' w' =>
  e = exOf ex ∧ ∃ φ', HR B h' φ' w' ∧ Stp φ (Live h φ) w φ' (Live h' φ') w' ∧ FR w' (Own B h' φ') φ' fr' a'.tmps ∧ a'.defers = [] ∧ h.length ≤ h'.length ∧ ∀ o, o < h.length → φ' o = φ o

theorem Pst.after {B : Nat → Prop} {h h1 h' : Heap} {φ φ1 : Phi} {w w1 w' : World} {fr' : List AV} {ex : Ex} {e : Exit} {a' : Act} (s : Stp φ (Live h φ) w φ1 (Live h1 φ1) w1) (hl : h.length ≤ h1.length) (hφ : ∀ o, o < h.length → φ1 o = φ o)
    (p : Pst B h1 φ1 w1 h' fr' ex e a' w') : Pst B h φ w h' fr' ex e a' w' := by
  obtain ⟨h0, φ', q1, q2, q3, q4, q5, q6⟩ := p
  exact ⟨h0, φ', q1, s.trans q2, q3, q4, Nat.le_trans hl q5, fun o ho => by rw [q6 o (by omega), hφ o ho]⟩

def FnOk1 (P : Program) (tab : FuncId → Option AFn) (n : Nat) : Prop := ∀ f af, tab f = some af → ∀ (B : Nat → Prop) (args : List AV) (g : Look) (h : Heap) (v : AV) (h' : Heap), runFn (evC tab n) af g args h = some (v, h') → (∀ o cs, g o = some cs → look h o = some cs) →
  ∀ (φ : Phi) (w : World) (vs : Array Value), HR B h φ w → ArgsR w (Own B h φ) φ args vs →
    (∃ (fn : Func) (b : Code), P.funcs[f]? = some fn ∧ fn.body = some b ∧ fn.name ≠ "runtime.NumGoroutine") ∧ Calls P f vs w (Ret B h φ w v h')
/-- The same of a function that is run on the caller's heap. -/
def ShOk (P : Program) (tab : FuncId → Option AFn) (n : Nat) : Prop := ∀ f af, tab f = some af → af.ext = none → ∀ (B : Nat → Prop) (args : List AV) (g : Look) (h : Heap) (v : AV) (h' : Heap), runFn (evC tab n) { af with isPure := false } g args h = some (v, h') →
  ∀ (φ : Phi) (w : World) (vs : Array Value), HR B h φ w → ArgsR w (Own B h φ) φ args vs →
    (∃ (fn : Func) (b : Code), P.funcs[f]? = some fn ∧ fn.body = some b ∧ fn.name ≠ "runtime.NumGoroutine") ∧ Calls P f vs w (Ret B h φ w v h')
def FnOk (P : Program) (tab : FuncId → Option AFn) (n : Nat) : Prop := FnOk1 P tab n ∧ ShOk P tab n
def CodeOk (P : Program) (tab : FuncId → Option AFn) (n : Nat) : Prop := ∀ (c : Code) (frz : Frz) (ac : AC), comp P frz c = some ac →
  ∀ (B : Nat → Prop) (fr fr' : List AV) (h h' : Heap) (φ : Phi) (w : World) (a : Act) (ex : Ex), evC tab n ac fr h = some (ex, fr', h') → HR B h φ w → FR w (Own B h φ) φ fr a.tmps → a.defers = [] →
    c.wp P (Pst B h φ w h' fr' ex) a w
def LoopOk (P : Program) (tab : FuncId → Option AFn) (n : Nat) : Prop := ∀ (c : Code) (frz : Frz) (ac : AC), comp P frz c = some ac →
  ∀ (B : Nat → Prop) (fr fr' : List AV) (h h' : Heap) (φ : Phi) (w : World) (a : Act) (ex : Ex), evC tab n (.loop ac) fr h = some (ex, fr', h') → HR B h φ w → FR w (Own B h φ) φ fr a.tmps → a.defers = [] →
    ∀ Q : Exit → Act → World → Prop, (∀ e a' w', Pst B h φ w h' fr' ex e a' w' → Q e a' w') → Code.rounds P c Q n a w

theorem FR.init {w : World} {Ow : Nat → Prop} {φ : Phi} {args : List AV} {vs : Array Value} (ha : ArgsR w Ow φ args vs) (m : Nat) :
    FR w Ow φ (args ++ List.replicate (m - args.length) (.lit undef)) (vs ++ Array.replicate (m - vs.size) undef) := by
  obtain ⟨h1, h2⟩ := ha
  refine ⟨by simp [h1], fun i x v e e' => ?_⟩
  by_cases hi : i < args.length
  · rw [List.getElem?_append_left hi] at e
    rw [Array.getElem?_append_left (by omega)] at e'
    exact h2 i x v e e'
  · rw [List.getElem?_append_right (by omega), List.getElem?_replicate] at e
    rw [Array.getElem?_append_right (by omega), Array.getElem?_replicate] at e'
    split at e
    · cases e
      split at e'
      · cases e'; exact .lit _
      · cases e'
    · cases e

/-- A heap that is kept. -/
theorem HR.kept {B : Nat → Prop} {h : Heap} {φ : Phi} {w w' : World} (hr : HR B h φ w) (hs : w.heap.size ≤ w'.heap.size) (hk : ∀ b, b < w.heap.size → w'.heap[b]? = w.heap[b]?) (hsh : Shapes w w') : HR B h φ w' := by
  refine ⟨fun b hb => Nat.lt_of_lt_of_le (hr.bsz b hb) hs, fun o cs e => ?_, hr.inj, hr.dom⟩
  obtain ⟨b, base, c, T, fz, h1, h2, h3, h4, h5, h6⟩ := hr.live o cs e
  have hb : b < w.heap.size := (Array.getElem?_eq_some_iff.1 h2).1
  refine ⟨b, base, c, T, fz, h1, by rw [hk b hb]; exact h2, h3, h4, fun j hj => ?_, fun j x e => ?_⟩
  · rw [← h5 j hj]
    exact World.frozen?_of_block (w := w) (hk b hb)
  · obtain ⟨v, e1, e2, e3⟩ := h6 j x e
    exact ⟨v, e1, e2, e3.step (fun _ _ e => e) hs (fun b hb _ => hk b hb) (fun _ _ e => e) hsh⟩

theorem own_nil (B : Nat → Prop) (φ : Phi) : Own B [] φ = B := by
  funext b
  apply propext
  constructor
  · rintro (h | ⟨o, cs, base, h, _⟩)
    · exact h
    · simp [look] at h
  · exact .inl
theorem HR.nil {B : Nat → Prop} {w : World} (hB : ∀ b, B b → b < w.heap.size) : HR B [] noPhi w :=
  ⟨hB, fun o cs e => by simp [look] at e, fun o o' cs cs' b base base' e => by simp [look] at e, fun o p e => by cases e⟩

theorem compFn_spec {pol : Pol} {f : FuncId} {af : AFn} (h : compFn P pol f = some af) : ∃ fn b, P.funcs[f]? = some fn ∧ fn.body = some b ∧ fn.name ≠ "runtime.NumGoroutine" ∧ comp P (pol f).2 b = some af.body ∧ fn.results.toList.mapM (trR P) = some af.res ∧ af.ntmps = fn.ntmps ∧ af.ext = none := by
  simp only [compFn] at h
  split at h
  · rename_i fn hfn
    split at h
    · cases h
    · rename_i hname
      split at h
      · rename_i b hb
        split at h
        · rename_i c rs hc hrs
          cases h
          exact ⟨fn, b, hfn, hb, by simpa using hname, hc, hrs, rfl, rfl⟩
        · cases h
      · cases h
  · cases h

/-- What is asked of a rule. -/
def ExtOk (P : Program) (X : Ext) : Prop := ∀ f e, X f = some e → (∃ (fn : Func) (b : Code), P.funcs[f]? = some fn ∧ fn.body = some b ∧ fn.name ≠ "runtime.NumGoroutine") ∧
  ∀ (args : List AV) (v : AV), e args = some v → ∀ (Ow : Nat → Prop) (w : World) (vs : Array Value), (∀ b, Ow b → b < w.heap.size) → ArgsR w Ow noPhi args vs → Calls P f vs w fun e w' => ∃ u, e = .returned u ∧ Below w.heap.size w w' ∧ VR w' Ow noPhi v u
theorem extOk_no : ExtOk P noX := fun f e h => by cases h
theorem Below.shapes {w w' : World} (h : Below w.heap.size w w') : Shapes w w' := fun b cs T fz e => ⟨cs, fz, by rw [h.block b (Array.getElem?_eq_some_iff.1 e).1]; exact e, rfl⟩
theorem own_lt {B : Nat → Prop} {h : Heap} {φ : Phi} {w : World} (hr : HR B h φ w) : ∀ b, Own B h φ b → b < w.heap.size := by
  rintro b (h3 | ⟨o, cs, base, h3, h4⟩)
  · exact hr.bsz b h3
  · obtain ⟨b1, base1, c, T, fz, q1, q2, _⟩ := hr.live o cs h3
    rw [h4] at q1
    cases q1
    exact (Array.getElem?_eq_some_iff.1 q2).1
theorem fnOk1_of {pol : Pol} {X : Ext} (hX : ExtOk P X) {n : Nat} (hc : CodeOk P (tabOf P pol X) n) : FnOk1 P (tabOf P pol X) n := by
  intro f af hf B args g h v h' he hg φ w vs hr ha
  cases hxf : X f with
  | some e =>
    simp only [tabOf, hxf, Option.some.injEq] at hf
    subst hf
    obtain ⟨hfn, hcall⟩ := hX f e hxf
    refine ⟨hfn, ?_⟩
    simp only [runFn, extFn, if_true] at he
    split at he
    · cases he
    · rename_i args' hargs
      split at he
      · cases he
      · rename_i v' hv'
        split at he
        · rename_i hcond
          simp only [Option.some.injEq, Prod.mk.injEq] at he
          obtain ⟨rfl, rfl⟩ := he
          rw [Bool.or_eq_true] at hcond
          have hlen := (mapM_some hargs).1
          have go : ∀ B1 : Nat → Prop, (∀ b, B1 b → Own B h φ b) → ((args.all (AV.noRef deep) = true) ∨ ∀ b, Live h φ b → ¬ B1 b) →
              (∀ w' u, VR w' B1 noPhi v' u → VR w' (Own B h φ) φ v' u) → Calls P f vs w (Ret B h φ w v' h) := by
            intro B1 hB1 hno hfin
            have hA : ArgsR w B1 noPhi args' vs := by
              refine ⟨by rw [ha.1, hlen], fun j y v1 e e' => ?_⟩
              obtain ⟨x, e1, e2⟩ := mapM_mem hargs j y e
              refine fz_VR hr hg hB1 deep x y v1 ?_ (ha.2 j x v1 e1 e') e2
              rcases hno with h3 | h3
              · exact .inl ⟨deep, List.all_eq_true.1 h3 x (List.mem_of_getElem? e1)⟩
              · exact .inr h3
            refine (hcall args' v' hv' B1 w vs (fun b hb => own_lt hr b (hB1 b hb)) hA).mono fun e w' hp => ?_
            obtain ⟨u, rfl, hb, hv⟩ := hp
            have hkeep : ∀ b, b < w.heap.size → w'.heap[b]? = w.heap[b]? := fun b hlt => hb.block b hlt
            exact ⟨u, φ, rfl, hr.kept hb.size hkeep (Below.shapes hb), ⟨fun _ _ e => e, hb.size, fun b hlt _ => hkeep b hlt, fun _ _ e => e, Below.shapes hb, hb.os, hb.tape, hb.output⟩, hfin w' u hv, Nat.le_refl _, fun _ _ => rfl⟩
          rcases hcond with hcond | hcond
          · exact go (Own B h φ) (fun _ e => e) (.inl hcond) fun w' u hv => hv.noPhi
          · exact go (fun _ => False) (fun _ e => e.elim) (.inr fun _ _ e => e) fun w' u hv => noMem_VR deep v' u hcond hv
        · cases he
  | none =>
  simp only [tabOf, hxf] at hf
  obtain ⟨fn, b, hfn, hb, hname, hcb, hrs, hnt, hext⟩ := compFn_spec hf
  refine ⟨⟨fn, b, hfn, hb, hname⟩, calls_of_wp hfn hb ?_⟩
  -- what the body leaves is what the call leaves
  have fin : ∀ (B1 : Nat → Prop) (h1 : Heap) (φ1 : Phi) (fr1 fr2 : List AV) (h2 : Heap) (ex : Ex) (vs1 : List AV), evC (tabOf P pol X) n af.body fr1 h1 = some (ex, fr2, h2) → (∀ id, ex ≠ .exit id) → HR B1 h1 φ1 w →
      FR w (Own B1 h1 φ1) φ1 fr1 (vs ++ Array.replicate (fn.ntmps - vs.size) undef) → evRes (look h2) fr2 af.res = some vs1 →
      (∀ φ2 w' u, HR B1 h2 φ2 w' → Stp φ1 (Live h1 φ1) w φ2 (Live h2 φ2) w' → VR w' (Own B1 h2 φ2) φ2 (oneOf vs1) u → h1.length ≤ h2.length → (∀ o, o < h1.length → φ2 o = φ1 o) → Ret B h φ w v h' (.returned u) w') →
      b.wp P (bodyPost P fn (Ret B h φ w v h')) { tmps := vs ++ Array.replicate (fn.ntmps - vs.size) undef, defers := [] } w := by
    intro B1 h1 φ1 fr1 fr2 h2 ex vs1 q1 q2 q3 q4 q5 q6
    refine wp_mono (hc b _ _ hcb B1 fr1 fr2 h1 h2 φ1 w _ ex q1 q3 q4 rfl) fun e a' w' hp => ?_
    obtain ⟨rfl, φ2, r1, r2, r3, r4, r5, r6⟩ := hp
    obtain ⟨u, r7, r8⟩ := results_run (P := P) (fn := fn) r1 (fun _ _ e => e) r3 hrs q5
    have := q6 φ2 w' u r1 r2 r8 r5 r6
    cases ex with
    | normal => exact ⟨r4, u, r7, this⟩
    | ret => exact ⟨r4, u, r7, this⟩
    | exit id => exact absurd rfl (q2 id)
  unfold runFn at he
  split at he
  · -- pure
    split at he
    · cases he
    · rename_i args' hargs
      simp only [hext] at he
      split at he
      · cases he
      · cases he
      · rename_i ex fr2 h2 hne hev
        split at he
        · cases he
        · rename_i vs1 hvs1
          split at he
          · cases he
          · rename_i v' hv'
            split at he
            · rename_i hcond
              simp only [Option.some.injEq, Prod.mk.injEq] at he
              obtain ⟨rfl, rfl⟩ := he
              rw [Bool.or_eq_true] at hcond
              have hlen := (mapM_some hargs).1
              -- what is in the background of the callee
              have go : ∀ B1 : Nat → Prop, (∀ b, B1 b → Own B h φ b) → ((args.all (AV.noRef deep) = true) ∨ ∀ b, Live h φ b → ¬ B1 b) →
                  (∀ w' h3 φ3 u, HR B1 h3 φ3 w' → VR w' B1 noPhi v' u → VR w' (Own B h φ) φ v' u) →
                  b.wp P (bodyPost P fn (Ret B h φ w v' h)) { tmps := vs ++ Array.replicate (fn.ntmps - vs.size) undef, defers := [] } w := by
                intro B1 hB1 hno hfin
                have hO : ∀ b, Own B h φ b → b < w.heap.size := by
                  rintro b (h3 | ⟨o, cs, base, h3, h4⟩)
                  · exact hr.bsz b h3
                  · obtain ⟨b1, base1, c, T, fz, q1, q2, _⟩ := hr.live o cs h3
                    rw [h4] at q1
                    cases q1
                    exact (Array.getElem?_eq_some_iff.1 q2).1
                have hA : ArgsR w (Own B1 [] noPhi) noPhi args' vs := by
                  rw [own_nil]
                  refine ⟨by rw [ha.1, hlen], fun j y v1 e e' => ?_⟩
                  obtain ⟨x, e1, e2⟩ := mapM_mem hargs j y e
                  refine fz_VR hr hg hB1 deep x y v1 ?_ (ha.2 j x v1 e1 e') e2
                  rcases hno with h3 | h3
                  · exact .inl ⟨deep, List.all_eq_true.1 h3 x (List.mem_of_getElem? e1)⟩
                  · exact .inr h3
                have hF := FR.init hA af.ntmps
                rw [hnt] at hF
                rw [hnt] at hev
                refine fin B1 [] noPhi _ fr2 h2 ex vs1 hev (fun id e => hne id e) (HR.nil fun b hb => hO b (hB1 b hb)) hF hvs1 fun φ2 w' u r1 r2 r3 r4 r5 => ?_
                have hkeep : ∀ b, b < w.heap.size → w'.heap[b]? = w.heap[b]? := fun b hb => r2.keep b hb (by rintro ⟨o, cs, base, h3, _⟩; simp [look] at h3)
                have hv1 : VR w' B1 noPhi v' u := fz_VR r1 (fun _ _ e => e) (fun b hb => .inl hb) deep _ v' u (.inr fun b hb hB => by
                  obtain ⟨o, cs, base, h3, h4⟩ := hb
                  obtain ⟨b1, base1, c, T, fz, q1, q2, q3, _⟩ := r1.live o cs h3
                  rw [h4] at q1
                  cases q1
                  exact q3 hB) r3 hv'
                exact ⟨u, φ, rfl, hr.kept r2.size hkeep r2.shape, ⟨fun _ _ e => e, r2.size, fun b hb _ => hkeep b hb, fun _ _ e => e, r2.shape, r2.os, r2.tape, r2.output⟩, hfin w' h2 φ2 u r1 hv1, Nat.le_refl _, fun _ _ => rfl⟩
              rcases hcond with hcond | hcond
              · exact go (Own B h φ) (fun _ e => e) (.inl hcond) fun w' h3 φ3 u _ hv => hv.noPhi
              · exact go (fun _ => False) (fun _ e => e.elim) (.inr fun _ _ e => e) fun w' h3 φ3 u _ hv => noMem_VR deep v' u hcond hv
            · cases he
  · -- it shares the heap
    split at he
    · cases he
    · cases he
    · rename_i ex fr2 h2 hne hev
      simp only [Option.map_eq_some_iff, Prod.mk.injEq] at he
      obtain ⟨vs1, hvs1, rfl, rfl⟩ := he
      have hF := FR.init ha af.ntmps
      rw [hnt] at hF hev
      exact fin B h φ _ fr2 h2 ex vs1 hev (fun id e => hne id e) hr hF hvs1 fun φ2 w' u r1 r2 r3 r4 r5 => ⟨u, φ2, rfl, r1, r2, r3, r4, r5⟩

theorem shOk_of {pol : Pol} {X : Ext} (hX : ExtOk P X) {n : Nat} (hc : CodeOk P (tabOf P pol X) n) : ShOk P (tabOf P pol X) n := by
  intro f af hf hx B args g h v h' he φ w vs hr ha
  cases hxf : X f with
  | some e =>
    simp only [tabOf, hxf, Option.some.injEq] at hf
    subst hf
    simp [extFn] at hx
  | none =>
  simp only [tabOf, hxf] at hf
  obtain ⟨fn, b, hfn, hb, hname, hcb, hrs, hnt, hext⟩ := compFn_spec hf
  refine ⟨⟨fn, b, hfn, hb, hname⟩, calls_of_wp hfn hb ?_⟩
  -- what the body leaves is what the call leaves
  have fin : ∀ (B1 : Nat → Prop) (h1 : Heap) (φ1 : Phi) (fr1 fr2 : List AV) (h2 : Heap) (ex : Ex) (vs1 : List AV), evC (tabOf P pol X) n af.body fr1 h1 = some (ex, fr2, h2) → (∀ id, ex ≠ .exit id) → HR B1 h1 φ1 w →
      FR w (Own B1 h1 φ1) φ1 fr1 (vs ++ Array.replicate (fn.ntmps - vs.size) undef) → evRes (look h2) fr2 af.res = some vs1 →
      (∀ φ2 w' u, HR B1 h2 φ2 w' → Stp φ1 (Live h1 φ1) w φ2 (Live h2 φ2) w' → VR w' (Own B1 h2 φ2) φ2 (oneOf vs1) u → h1.length ≤ h2.length → (∀ o, o < h1.length → φ2 o = φ1 o) → Ret B h φ w v h' (.returned u) w') →
      b.wp P (bodyPost P fn (Ret B h φ w v h')) { tmps := vs ++ Array.replicate (fn.ntmps - vs.size) undef, defers := [] } w := by
    intro B1 h1 φ1 fr1 fr2 h2 ex vs1 q1 q2 q3 q4 q5 q6
    refine wp_mono (hc b _ _ hcb B1 fr1 fr2 h1 h2 φ1 w _ ex q1 q3 q4 rfl) fun e a' w' hp => ?_
    obtain ⟨rfl, φ2, r1, r2, r3, r4, r5, r6⟩ := hp
    obtain ⟨u, r7, r8⟩ := results_run (P := P) (fn := fn) r1 (fun _ _ e => e) r3 hrs q5
    have := q6 φ2 w' u r1 r2 r8 r5 r6
    cases ex with
    | normal => exact ⟨r4, u, r7, this⟩
    | ret => exact ⟨r4, u, r7, this⟩
    | exit id => exact absurd rfl (q2 id)
  unfold runFn at he
  simp only [Bool.false_eq_true, if_false] at he
  · -- it shares the heap
    split at he
    · cases he
    · cases he
    · rename_i ex fr2 h2 hne hev
      simp only [Option.map_eq_some_iff, Prod.mk.injEq] at he
      obtain ⟨vs1, hvs1, rfl, rfl⟩ := he
      have hF := FR.init ha af.ntmps
      rw [hnt] at hF hev
      exact fin B h φ _ fr2 h2 ex vs1 hev (fun id e => hne id e) hr hF hvs1 fun φ2 w' u r1 r2 r3 r4 r5 => ⟨u, φ2, rfl, r1, r2, r3, r4, r5⟩

theorem fnOk_of {pol : Pol} {X : Ext} (hX : ExtOk P X) {n : Nat} (hc : CodeOk P (tabOf P pol X) n) : FnOk P (tabOf P pol X) n := ⟨fnOk1_of hX hc, shOk_of hX hc⟩

/-- What functions that are run on their own answer. -/
def mkT (tab : FuncId → Option AFn) (n : Nat) : FuncId → List AV → Option (Nat × Nat × Option Nat × List AV) := fun f args => match tab f with
  | some af => mkRun (evC tab n) af args
  | none => none
theorem mkOk_of {tab : FuncId → Option AFn} {n : Nat} (hf : FnOk P tab n) (r : FuncId → List AV → Heap → Option (AV × Heap)) : MkOk P ⟨r, mkT tab n⟩ := by
  intro f args m sz cap ys h
  simp only [mkT] at h
  split at h
  case h_2 => cases h
  rename_i af haf
  unfold mkRun at h
  split at h
  · cases h
  · rename_i hx
    split at h
    · rename_i o m' sz' cap' h1 he
      split at h
      · rename_i ys' hl
        split at h
        · rename_i hcond
          simp only [Option.some.injEq, Prod.mk.injEq] at h
          obtain ⟨rfl, rfl, rfl, rfl⟩ := h
          obtain ⟨hc1, hc2⟩ := hcond
          refine ⟨hc1, fun Ow w vs hOw ha => ?_⟩
          obtain ⟨q1, q2⟩ := hf.2 f af haf (by simpa using hx) Ow args _ [] _ h1 he noPhi w vs (HR.nil hOw) (by rw [own_nil]; exact ha)
          refine ⟨q1, q2.mono fun e w' hq => ?_⟩
          obtain ⟨u, φ', rfl, hr, hst, hv, _, _⟩ := hq
          cases hv with
          | ref _ _ _ _ c b base _ a hφ hadr hn hcap hrr =>
            obtain ⟨b1, base1, arr, T, fz, e1, e2, e3, e4, e5, e6⟩ := hr.live o ys' hl
            rw [hφ] at e1
            cases e1
            have hnl : ∀ b', ¬ Live [] noPhi b' := by rintro b' ⟨o, cs, base, h3, _⟩; simp [look] at h3
            obtain ⟨arr2, T2, fz2, e7, e8⟩ := hrr
            rw [e2] at e7
            cases e7
            refine ⟨b, base, c, a, arr, T, fz, rfl, ?_, e2, e4, e5, fun j x hj => ?_, fun h0 => by rw [hadr h0, Nat.add_zero], hn, hcap, by omega, hst.size, fun b' hb' => hst.keep b' hb' (hnl b'), hst.shape, hst.os, hst.tape, hst.output⟩
            · apply Classical.byContradiction
              intro hlt
              exact hnl b (hst.own b (by omega) ⟨o, ys', base, hl, hφ⟩)
            · obtain ⟨v, g1, g2, g3⟩ := e6 j x hj
              have hlit := List.all_eq_true.1 hc2 x (List.mem_of_getElem? hj)
              cases g3 with
              | lit v => exact ⟨v, rfl, g1, g2⟩
              | _ => simp [AV.isLit] at hlit
        · cases h
      · cases h
    · cases h

theorem callOk_of {tab : FuncId → Option AFn} {n : Nat} (hf : FnOk P tab n) {B : Nat → Prop} (f : FuncId) (args : List AV) (h : Heap) (v : AV) (h' : Heap) :
    CallOk P B ⟨fun f args h => match tab f with | some af => runFn (evC tab n) af (look h) args h | none => none, mkT tab n⟩ f args h v h' := by
  intro he φ w vs hr ha
  simp only at he
  split at he
  · rename_i af haf
    obtain ⟨q1, q2⟩ := hf.1 f af haf B args _ h v h' he (fun _ _ e => e) φ w vs hr ha
    exact ⟨q1, q2⟩
  · cases he
theorem callOkD_of {tab : FuncId → Option AFn} {n : Nat} (hf : FnOk P tab n) {B : Nat → Prop} (fb : List Nat) (f : FuncId) (args : List AV) (h : Heap) (v : AV) (h' : Heap) :
    CallOk P B ⟨fun f args h => match tab f with | some af => if af.isPure then runFn (evC tab n) af (hide h fb) args h else none | none => none, mkT tab n⟩ f args h v h' := by
  intro he φ w vs hr ha
  simp only at he
  split at he
  · rename_i af haf
    split at he
    · obtain ⟨q1, q2⟩ := hf.1 f af haf B args _ h v h' he (hide_sub h fb) φ w vs hr ha
      exact ⟨q1, q2⟩
    · cases he
  · cases he
theorem pureC_of {tab : FuncId → Option AFn} {n : Nat} : PureC (fun (fb : List Nat) => ⟨fun f args h => match tab f with | some af => if af.isPure then runFn (evC tab n) af (hide h fb) args h else none | none => none, mkT tab n⟩) := by
  intro fb f args h v h' he
  simp only at he
  split at he
  · rename_i af haf
    split at he
    · rename_i hp
      -- a pure call answers with the heap that it was given
      have key : ∀ (g : Look) (h1 : Heap), runFn (evC tab n) af g args h1 = (runFn (evC tab n) af g args []).map fun x => (x.1, h1) := by
        intro g h1
        unfold runFn
        rw [if_pos hp, if_pos hp]
        cases args.mapM (fz g deep) with
        | none => rfl
        | some args' =>
          simp only
          split
          · split
            · rfl
            · split <;> rfl
          · split
            · rfl
            · rfl
            · split
              · rfl
              · split
                · rfl
                · split <;> rfl
      rw [key] at he
      simp only [Option.map_eq_some_iff, Prod.mk.injEq] at he
      obtain ⟨x, hx, rfl, rfl⟩ := he
      refine ⟨rfl, fun h2 hh => ?_⟩
      simp only [haf]
      rw [if_pos hp, hh, key, hx]
      rfl
    · cases he
  · cases he
end
end Go.Ev
