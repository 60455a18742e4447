/- Operations that change objects: the theorem. -/
import Derived.Test.YtimeokpdnmggaaaEvM
set_option linter.unusedVariables false
set_option linter.unusedSimpArgs false
set_option linter.unnecessarySimpa false
namespace Go.Ev
open Go
section
variable {P : Program} {B : Nat → Prop} {h : Heap} {φ : Phi} {w : World}

set_option maxHeartbeats 1000000 in
theorem evW_sound {fr : List AV} {a : Act} {o : Oper} {i : I} {args : List Operand} {x : AV} {h' : Heap} (hr : HR B h φ w) (hf : FR w (Own B h φ) φ fr a.tmps)
    (ht : tr P o.op = some (i, args)) (he : evW h i (args.map (opv fr)) = some (x, h')) : Wrote P B h φ w (execOp a.eval o) x h' := by
  have hv : ∀ y, VR w (Own B h φ) φ (opv fr y) (a.eval y) := fun y => opv_VR hf y
  obtain ⟨dst, op, type, pos, after, guard⟩ := o
  cases op with
  | store t p y =>
    simp only [tr, Option.map_eq_some_iff] at ht
    obtain ⟨k, hs, h1⟩ := ht
    cases h1
    exact store_W hr hs (hv p) (hv y) he
  | call c =>
    obtain ⟨callee, cargs, argTypes⟩ := c
    cases callee with
    | value f => simp only [tr, Option.some.injEq, Prod.mk.injEq] at ht; obtain ⟨rfl, rfl⟩ := ht; simp [evW] at he
    | invoke r m => simp [tr] at ht
    | builtin b =>
      have hargs : ∀ l : List Operand, cargs.toList = l → (cargs.map a.eval) = (l.map a.eval).toArray := by
        intro l hl
        apply Array.ext'
        simp [hl]
      cases b with
      | append =>
        have key : ∀ {t u e : TypeId} {s y : Operand} {sz by_ : Nat} {zero : List AV}, argTypes[0]? = some t → argTypes[1]? = some u → cargs.toList = [s, y] → P.underlying t = some (.slice e) →
            ((∃ e', P.underlying u = some (.slice e')) ∨ P.underlying u = some .string) → szOf P e = some sz → byOf P e = some by_ → zeroOf P e = some zero → zero.length = sz →
            evW h (.append sz by_) [opv fr s, opv fr y] = some (x, h') →
            Wrote P B h φ w (execOp a.eval { dst := dst, op := .call { callee := .builtin .append, args := cargs, argTypes := argTypes }, type := type, pos := pos, after := after, guard := guard }) x h' := by
          intro t u e s y sz by_ zero h1 h2 h3 h4 h5 h6 h7 h8 h9 h10
          obtain ⟨r, v, w', φ', g1, g2⟩ := append_W (ty := type) (t := t) (u := u) hr h4 h5 h6 h7 h8 h9 (hv s) (hv y) h10
          have hbody : Builtin.append_ argTypes type #[a.eval s, a.eval y] = Builtin.append_ #[t, u] type #[a.eval s, a.eval y] := by
            unfold Builtin.append_
            rw [h1, h2]
            rfl
          refine ⟨r, v, w', φ', ?_, g2⟩
          have : execOp a.eval { dst := dst, op := .call { callee := .builtin .append, args := cargs, argTypes := argTypes }, type := type, pos := pos, after := after, guard := guard } =
              (do pure (Next.value (← Builtin.append_ argTypes type (cargs.map a.eval)))) := rfl
          rw [this, hargs _ h3]
          simp only [List.map_cons, List.map_nil]
          rw [hbody]
          exact g1
        simp only [tr] at ht
        split at ht
        · rename_i t u s y h1 h2 h3
          split at ht
          · rename_i e e' h4 h5
            split at ht
            · rename_i sz by_ zero h6 h7 h8
              split at ht
              · rename_i h9
                cases ht
                exact key h1 h2 h3 h4 (.inl ⟨_, h5⟩) h6 h7 h8 h9 he
              · cases ht
            · cases ht
          · rename_i e h4 h5
            split at ht
            · rename_i sz by_ zero h6 h7 h8
              split at ht
              · rename_i h9
                cases ht
                exact key h1 h2 h3 h4 (.inr h5) h6 h7 h8 h9 he
              · cases ht
            · cases ht
          · cases ht
        · cases ht
      | copy =>
        simp only [tr] at ht
        split at ht
        · rename_i t d y h1 h2
          split at ht
          · rename_i e hu
            simp only [Option.map_eq_some_iff] at ht
            obtain ⟨sz, hs, h3⟩ := ht
            cases h3
            obtain ⟨r, v, w', φ', g1, g2⟩ := copy_W (ty := type) (tys := argTypes) hr h1 hu hs (hv d) (hv y) he
            refine ⟨r, v, w', φ', ?_, g2⟩
            have : execOp a.eval { dst := dst, op := .call { callee := .builtin .copy, args := cargs, argTypes := argTypes }, type := type, pos := pos, after := after, guard := guard } =
                (do pure (Next.value (← Builtin.copy_ argTypes type (cargs.map a.eval)))) := rfl
            rw [this, hargs _ h2]
            exact g1
          · cases ht
        · cases ht
      | len =>
        simp only [tr] at ht
        split at ht
        · split at ht <;> first | (cases ht; simp [evW] at he; done) | (cases ht; done)
        · cases ht
      | max => simp only [tr] at ht; split at ht <;> first | (cases ht; simp [evW] at he; done) | (cases ht; done)
      | min => simp only [tr] at ht; split at ht <;> first | (cases ht; simp [evW] at he; done) | (cases ht; done)
      | _ => simp [tr] at ht
  | alloc t => simp only [tr, Option.map_eq_some_iff] at ht; obtain ⟨_, _, h1⟩ := ht; cases h1; simp [evW] at he
  | box t y => simp only [tr, Option.some.injEq, Prod.mk.injEq] at ht; obtain ⟨rfl, rfl⟩ := ht; simp [evW] at he
  | buildSlice t len parts =>
    simp only [tr] at ht
    split at ht
    · split at ht
      · split at ht
        · cases ht
        · split at ht
          · split at ht
            · cases ht; simp [evW] at he
            · cases ht
          · cases ht
      · cases ht
    · cases ht
  | makeSlice t l c =>
    simp only [tr] at ht
    split at ht
    · split at ht
      · cases ht; simp [evW] at he
      · cases ht
    · cases ht
  | convert s d y =>
    simp only [tr] at ht
    split at ht
    · cases ht; simp [evW] at he
    · cases ht; simp [evW] at he
    · split at ht
      · cases ht; simp [evW] at he
      · cases ht
    · split at ht
      · cases ht; simp [evW] at he
      · cases ht
    · cases ht
  | move y => simp only [tr, Option.some.injEq, Prod.mk.injEq] at ht; obtain ⟨rfl, rfl⟩ := ht; simp [evW] at he
  | assign y => simp only [tr, Option.some.injEq, Prod.mk.injEq] at ht; obtain ⟨rfl, rfl⟩ := ht; simp [evW] at he
  | pick x y z => simp only [tr, Option.some.injEq, Prod.mk.injEq] at ht; obtain ⟨rfl, rfl⟩ := ht; simp [evW] at he
  | build t parts =>
    simp only [tr] at ht
    split at ht
    · split at ht
      · simp only [Option.map_eq_some_iff] at ht; obtain ⟨qs, _, h1⟩ := ht; cases h1; simp [evW] at he
      · cases ht
    · simp only [Option.map_eq_some_iff] at ht; obtain ⟨qs, _, h1⟩ := ht; cases h1; simp [evW] at he
    · cases ht
  | load t p => simp only [tr, Option.map_eq_some_iff] at ht; obtain ⟨⟨ag, k⟩, _, h2⟩ := ht; cases h2; simp [evW] at he
  | binOp op t y z yt =>
    simp only [tr] at ht
    split at ht
    · cases ht; simp [evW] at he
    · cases ht; simp [evW] at he
    · split at ht <;> first | (cases ht; simp [evW] at he; done) | (cases ht; done)
    · split at ht <;> first | (cases ht; simp [evW] at he; done) | (cases ht; done)
    · cases ht
  | unOp op t y => simp only [tr, Option.some.injEq, Prod.mk.injEq] at ht; obtain ⟨rfl, rfl⟩ := ht; simp [evW] at he
  | makeFunc f first cs =>
    cases f with
    | func f =>
      simp only [tr] at ht
      split at ht
      · cases ht; simp [evW] at he
      · cases ht
    | _ => simp [tr] at ht
  | slice t y lo hi mx =>
    simp only [tr] at ht
    split at ht
    · simp only [Option.map_eq_some_iff] at ht; obtain ⟨_, _, h1⟩ := ht; cases h1; simp [evW] at he
    · split at ht
      · cases ht
      · cases ht; simp [evW] at he
    · cases ht
  | fieldAddr s y f =>
    simp only [tr] at ht
    split at ht
    · split at ht
      · split at ht <;> first | (cases ht; simp [evW] at he; done) | (cases ht; done)
      · cases ht
    · cases ht
  | field t y f =>
    simp only [tr] at ht
    split at ht
    · split at ht
      · simp only [Option.map_eq_some_iff] at ht; obtain ⟨⟨ag, k⟩, _, h2⟩ := ht; cases h2; simp [evW] at he
      · cases ht
    · cases ht
  | indexAddr t y ix =>
    simp only [tr] at ht
    split at ht
    · simp only [Option.map_eq_some_iff] at ht; obtain ⟨_, _, h1⟩ := ht; cases h1; simp [evW] at he
    · simp only [Option.map_eq_some_iff] at ht; obtain ⟨_, _, h1⟩ := ht; cases h1; simp [evW] at he
    · cases ht
  | index t y ix =>
    simp only [tr] at ht
    split at ht
    · cases ht; simp [evW] at he
    · split at ht
      · split at ht
        · cases ht; simp [evW] at he
        · cases ht
      · cases ht
    · cases ht
  | extract y j => simp only [tr, Option.some.injEq, Prod.mk.injEq] at ht; obtain ⟨rfl, rfl⟩ := ht; simp [evW] at he
  | nilCheck y => simp only [tr, Option.some.injEq, Prod.mk.injEq] at ht; obtain ⟨rfl, rfl⟩ := ht; simp [evW] at he
  | _ => simp [tr] at ht

/-! ### Calls -/
/-- A call of the model whose callee the evaluator knows. -/
theorem tr_call {o : Oper} {args : List Operand} (ht : tr P o.op = some (.call, args)) : ∃ f cargs argTypes, o.op = .call { callee := .value f, args := cargs, argTypes := argTypes } ∧ args = f :: cargs.toList := by
  obtain ⟨dst, op, type, pos, after, guard⟩ := o
  cases op with
  | call c =>
    obtain ⟨callee, cargs, argTypes⟩ := c
    cases callee with
    | value f => simp only [tr, Option.some.injEq, Prod.mk.injEq] at ht; obtain ⟨_, rfl⟩ := ht; exact ⟨f, cargs, argTypes, rfl, rfl⟩
    | invoke r m => simp [tr] at ht
    | builtin b =>
      exfalso
      cases b <;> simp only [tr] at ht
      all_goals first
        | (cases ht; done)
        | ((repeat' (first | split at ht | (simp only [Option.map_eq_some_iff] at ht; obtain ⟨_, _, ht⟩ := ht))) <;> first | (cases ht; done) | (simp at ht; done))
  | makeFunc fn first cs =>
    exfalso
    cases fn with
    | func f => simp only [tr] at ht; split at ht <;> cases ht
    | _ => simp [tr] at ht
  | _ =>
    exfalso
    simp only [tr] at ht
    first
      | (cases ht; done)
      | ((repeat' (first | split at ht | (simp only [Option.map_eq_some_iff] at ht; obtain ⟨_, _, ht⟩ := ht))) <;> first | (cases ht; done) | (simp at ht; done))
end
end Go.Ev
