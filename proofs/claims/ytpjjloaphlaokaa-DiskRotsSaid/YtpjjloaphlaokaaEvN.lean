/- Operations that change objects: the theorem. -/
import Derived.Test.YtpjjloaphlaokaaEvM
set_option linter.unusedVariables false
set_option linter.unusedSimpArgs false
set_option linter.unnecessarySimpa false
namespace Go.Ev
open Go
section
variable {P : Program} {B : Nat → Prop} {h : Heap} {φ : Phi} {w : World}

/-- A row of bytes off a constant text is marked: it is told as frozen. -/
theorem mark_W {s d e1 e : TypeId} {p x : AV} {vp : Value} {h' : Heap} (hr : HR B h φ w) (hu1 : P.underlying s = some (.slice e1)) (hu2 : P.underlying d = some (.slice e)) (hsd : s = d) (hu3 : P.underlying e = some (.int .u8))
    (hp : VR w (Own B h φ) φ p vp) (he : evW h .markS [p] = some (x, h')) : Wrote P B h φ w (do pure (Next.value (← convert s d vp))) x h' := by
  simp only [evW] at he
  split at he
  · rename_i o off n sz cap heq
    simp only [List.cons.injEq, and_true] at heq
    subst heq
    split at he
    · rename_i cs hl
      split at he
      · rename_i hcond
        obtain ⟨hn0, rfl, hle, hlit⟩ := hcond
        simp only [Option.some.injEq, Prod.mk.injEq] at he
        obtain ⟨rfl, rfl⟩ := he
        cases hp with
        | ref _ _ _ _ c b base _ a hφ ha hn hcap hrr =>
          have hc0 : c ≠ 0 := by omega
          obtain ⟨b1, base1, arr, T, fz, e1, e2, e3, e4, e5, e6⟩ := hr.live o cs hl
          rw [hφ] at e1
          cases e1
          have ha' := ha hc0
          subst ha'
          have hb := (Array.getElem?_eq_some_iff.1 e2).1
          obtain ⟨w', hw'⟩ : ∃ w', w.freeze ⟨b, arr.size, none⟩ 1 = w' := ⟨_, rfl⟩
          have hheap : w'.heap.size = w.heap.size ∧ w'.os = w.os ∧ w'.tape = w.tape ∧ w'.output = w.output := by
            rw [← hw']
            simp [World.freeze]
          have hother : ∀ b', b' ≠ b → w'.heap[b']? = w.heap[b']? := by
            intro b' hne
            rw [← hw']
            simp only [World.freeze, Nat.one_ne_zero, if_false]
            rw [Array.getElem?_modify, if_neg (fun e => hne e.symm)]
          have hsame : ∃ fz', w'.heap[b]? = some (Obj.cells arr T fz') := by
            rw [← hw']
            simp only [World.freeze, Nat.one_ne_zero, if_false]
            rw [Array.getElem?_modify, if_pos rfl, e2]
            obtain ⟨lo, hi⟩ := fz
            exact ⟨_, rfl⟩
          obtain ⟨fz', hsame⟩ := hsame
          have hcell : ∀ p : Addr, w'.cell? p = w.cell? p := by
            intro p
            unfold World.cell?
            by_cases hpb : p.block = b
            · rw [hpb, hsame, e2]
            · rw [hother _ hpb]
          have hsub : ∀ o' cs', look (h.set o none) o' = some cs' → look h o' = some cs' ∧ o' ≠ o := by
            intro o' cs' e'
            rw [look_set] at e'
            split at e'
            · cases e'
            · rename_i hx
              refine ⟨e', ?_⟩
              rintro rfl
              exact hx ⟨rfl, look_lt hl⟩
          have hsh : Shapes w w' := by
            intro b' cs' T' fz1 e'
            by_cases hpb : b' = b
            · subst hpb
              rw [e2] at e'
              cases e'
              exact ⟨arr, fz', hsame, rfl⟩
            · exact ⟨cs', fz1, by rw [hother _ hpb]; exact e', rfl⟩
          have stp : Stp φ (Live h φ) w φ (Live (h.set o none) φ) w' :=
            ⟨fun _ _ e => e, by omega, fun b' hb' hno => hother b' (by rintro rfl; exact hno ⟨o, cs, base, hl, hφ⟩), fun b' hb' e => by
              obtain ⟨o', cs', base', h1, h2⟩ := e
              exact ⟨o', cs', base', (hsub o' cs' h1).1, h2⟩, hsh, hheap.2.1, hheap.2.2.1, hheap.2.2.2⟩
          have hnob : ∀ o' cs' base', look (h.set o none) o' = some cs' → φ o' = some (b, base') → False := by
            intro o' cs' base' h1 h2
            obtain ⟨h3, h4⟩ := hsub o' cs' h1
            exact h4 (hr.inj o' o cs' cs b base' base h3 hl h2 hφ)
          have hrun : (convert s d (.slice (some ⟨b, base + off, none⟩) n c)).run P w = .ok (.slice (some ⟨b, base + off, none⟩) n c) w' := by
            subst hsd
            have hee := hu1.symm.trans hu2
            simp only [Option.some.injEq, TypeDesc.slice.injEq] at hee
            subst hee
            simp only [convert, Sem.run_bind, run_underlying' hu1, run_underlying' hu2, run_underlying' hu3, Result.andThen_ok, beq_self_eq_true, markStringish, run_shape, World.shape?, e2, run_freeze, Sem.run_pure]
            rw [hw']
          have hrd : rdM (look h) (.ptr o off) n = some ((cs.drop off).take n) := by
            simp only [rdM, hl]
            rw [if_pos hle]
          obtain ⟨b', o', he', hlen, vs, hcl, hmem⟩ := rdM_VR hr (fun _ _ e => e) (.ptr o off b base hφ) hrd
          simp only [Value.pointer.injEq, Option.some.injEq, Addr.mk.injEq, and_true] at he'
          obtain ⟨rfl, rfl⟩ := he'
          refine ⟨.value (.slice (some ⟨b, base + off, none⟩) n c), _, w', φ, by simp [hrun], .inl rfl, ⟨fun b' e => by rw [hheap.1]; exact hr.bsz b' e, fun o' cs' e => ?_, fun o1 o2 c1 c2 b1 p1 p2 q1 q2 => hr.inj o1 o2 c1 c2 b1 p1 p2 (hsub _ _ q1).1 (hsub _ _ q2).1, fun o' p e => by rw [List.length_set]; exact hr.dom o' p e⟩, stp, ?_, by simp, fun _ _ => rfl⟩
          · obtain ⟨h1, h2⟩ := hsub o' cs' e
            obtain ⟨b2, base2, arr2, T2, fz2, q1, q2, q3, q4, q5, q6⟩ := hr.live o' cs' h1
            have hne : b2 ≠ b := by
              rintro rfl
              exact hnob o' cs' base2 e q1
            refine ⟨b2, base2, arr2, T2, fz2, q1, by rw [hother b2 hne]; exact q2, q3, q4, fun j hj => ?_, fun j y e' => ?_⟩
            · rw [← q5 j hj]
              exact World.frozen?_of_block (w := w) (hother b2 hne)
            · obtain ⟨u, u1, u2, u3⟩ := q6 j y e'
              exact ⟨u, u1, u2, u3.stp stp⟩
          · refine .sl false n c cap _ (some ⟨b, base + off, none⟩) vs rfl hn hcap hcl.1 (fun j y u q1 q2 => ?_) hcl.2.2 fun _ => ⟨b, base + off, rfl, by omega, ?_, fun j u e => by rw [hcell]; exact hmem j u e⟩
            · have hy : y ∈ cs := List.mem_of_mem_drop (List.mem_of_mem_take (List.mem_of_getElem? q1))
              have hyl := List.all_eq_true.1 hlit y hy
              have hvv := hcl.2.1 j y u q1 q2
              cases hvv <;> simp [AV.isLit] at hyl
              exact .lit _
            · rintro (hb' | ⟨o', cs', base', h1, h2⟩)
              · exact e3 hb'
              · exact hnob o' cs' base' h1 h2
      · cases he
    · cases he
  · cases he
set_option maxHeartbeats 1000000 in
theorem evW_sound {fr : List AV} {a : Act} {o : Oper} {i : I} {args : List Operand} {x : AV} {h' : Heap} (hr : HR B h φ w) (hf : FR w (Own B h φ) φ fr a.tmps)
    (ht : tr P o.op = some (i, args)) (he : evW h i (args.map (opv fr)) = some (x, h')) : Wrote P B h φ w (execOp a.eval o) x h' := by
  have hv : ∀ y, VR w (Own B h φ) φ (opv fr y) (a.eval y) := fun y => opv_VR hf y
  obtain ⟨dst, op, type, pos, after, guard⟩ := o
  cases op with
  | store t p y =>
    simp only [tr, Option.map_eq_some_iff] at ht
    obtain ⟨k, hs, h1⟩ := ht
    cases h1
    exact store_W hr hs (hv p) (hv y) he
  | call c =>
    obtain ⟨callee, cargs, argTypes⟩ := c
    cases callee with
    | value f => simp only [tr, Option.some.injEq, Prod.mk.injEq] at ht; obtain ⟨rfl, rfl⟩ := ht; simp [evW] at he
    | invoke r m => simp [tr] at ht
    | builtin b =>
      have hargs : ∀ l : List Operand, cargs.toList = l → (cargs.map a.eval) = (l.map a.eval).toArray := by
        intro l hl
        apply Array.ext'
        simp [hl]
      cases b with
      | append =>
        have key : ∀ {t u e : TypeId} {s y : Operand} {sz by_ : Nat} {zero : List AV}, argTypes[0]? = some t → argTypes[1]? = some u → cargs.toList = [s, y] → P.underlying t = some (.slice e) →
            ((∃ e', P.underlying u = some (.slice e')) ∨ P.underlying u = some .string) → szOf P e = some sz → byOf P e = some by_ → zeroOf P e = some zero → zero.length = sz →
            evW h (.append sz by_) [opv fr s, opv fr y] = some (x, h') →
            Wrote P B h φ w (execOp a.eval { dst := dst, op := .call { callee := .builtin .append, args := cargs, argTypes := argTypes }, type := type, pos := pos, after := after, guard := guard }) x h' := by
          intro t u e s y sz by_ zero h1 h2 h3 h4 h5 h6 h7 h8 h9 h10
          obtain ⟨r, v, w', φ', g1, g2⟩ := append_W (ty := type) (t := t) (u := u) hr h4 h5 h6 h7 h8 h9 (hv s) (hv y) h10
          have hbody : Builtin.append_ argTypes type #[a.eval s, a.eval y] = Builtin.append_ #[t, u] type #[a.eval s, a.eval y] := by
            unfold Builtin.append_
            rw [h1, h2]
            rfl
          refine ⟨r, v, w', φ', ?_, g2⟩
          have : execOp a.eval { dst := dst, op := .call { callee := .builtin .append, args := cargs, argTypes := argTypes }, type := type, pos := pos, after := after, guard := guard } =
              (do pure (Next.value (← Builtin.append_ argTypes type (cargs.map a.eval)))) := rfl
          rw [this, hargs _ h3]
          simp only [List.map_cons, List.map_nil]
          rw [hbody]
          exact g1
        simp only [tr] at ht
        split at ht
        · rename_i t u s y h1 h2 h3
          split at ht
          · rename_i e e' h4 h5
            split at ht
            · rename_i sz by_ zero h6 h7 h8
              split at ht
              · rename_i h9
                cases ht
                exact key h1 h2 h3 h4 (.inl ⟨_, h5⟩) h6 h7 h8 h9 he
              · cases ht
            · cases ht
          · rename_i e h4 h5
            split at ht
            · rename_i sz by_ zero h6 h7 h8
              split at ht
              · rename_i h9
                cases ht
                exact key h1 h2 h3 h4 (.inr h5) h6 h7 h8 h9 he
              · cases ht
            · cases ht
          · cases ht
        · cases ht
      | copy =>
        simp only [tr] at ht
        split at ht
        · rename_i t d y h1 h2
          split at ht
          · rename_i e hu
            simp only [Option.map_eq_some_iff] at ht
            obtain ⟨sz, hs, h3⟩ := ht
            cases h3
            obtain ⟨r, v, w', φ', g1, g2⟩ := copy_W (ty := type) (tys := argTypes) hr h1 hu hs (hv d) (hv y) he
            refine ⟨r, v, w', φ', ?_, g2⟩
            have : execOp a.eval { dst := dst, op := .call { callee := .builtin .copy, args := cargs, argTypes := argTypes }, type := type, pos := pos, after := after, guard := guard } =
                (do pure (Next.value (← Builtin.copy_ argTypes type (cargs.map a.eval)))) := rfl
            rw [this, hargs _ h2]
            exact g1
          · cases ht
        · cases ht
      | len =>
        simp only [tr] at ht
        split at ht
        · split at ht <;> first | (cases ht; simp [evW] at he; done) | (cases ht; done)
        · cases ht
      | max => simp only [tr] at ht; split at ht <;> first | (cases ht; simp [evW] at he; done) | (cases ht; done)
      | min => simp only [tr] at ht; split at ht <;> first | (cases ht; simp [evW] at he; done) | (cases ht; done)
      | _ => simp [tr] at ht
  | alloc t => simp only [tr, Option.map_eq_some_iff] at ht; obtain ⟨_, _, h1⟩ := ht; cases h1; simp [evW] at he
  | box t y => simp only [tr, Option.some.injEq, Prod.mk.injEq] at ht; obtain ⟨rfl, rfl⟩ := ht; simp [evW] at he
  | buildSlice t len parts =>
    simp only [tr] at ht
    split at ht
    · split at ht
      · split at ht
        · cases ht
        · split at ht
          · split at ht
            · cases ht; simp [evW] at he
            · cases ht
          · cases ht
      · cases ht
    · cases ht
  | makeSlice t l c =>
    simp only [tr] at ht
    split at ht
    · split at ht
      · cases ht; simp [evW] at he
      · cases ht
    · cases ht
  | convert s d y =>
    simp only [tr] at ht
    split at ht
    · cases ht; simp [evW] at he
    · cases ht; simp [evW] at he
    · split at ht
      · cases ht; simp [evW] at he
      · cases ht
    · split at ht
      · cases ht; simp [evW] at he
      · cases ht
    · rename_i e1 e hs hd
      split at ht
      · rename_i hsd
        split at ht
        · rename_i hu
          cases ht
          exact mark_W hr hs hd (Nat.eq_of_beq_eq_true hsd) hu (hv y) he
        · cases ht
      · cases ht
    · cases ht
  | move y => simp only [tr, Option.some.injEq, Prod.mk.injEq] at ht; obtain ⟨rfl, rfl⟩ := ht; simp [evW] at he
  | assign y => simp only [tr, Option.some.injEq, Prod.mk.injEq] at ht; obtain ⟨rfl, rfl⟩ := ht; simp [evW] at he
  | pick x y z => simp only [tr, Option.some.injEq, Prod.mk.injEq] at ht; obtain ⟨rfl, rfl⟩ := ht; simp [evW] at he
  | build t parts =>
    simp only [tr] at ht
    split at ht
    · split at ht
      · simp only [Option.map_eq_some_iff] at ht; obtain ⟨qs, _, h1⟩ := ht; cases h1; simp [evW] at he
      · cases ht
    · simp only [Option.map_eq_some_iff] at ht; obtain ⟨qs, _, h1⟩ := ht; cases h1; simp [evW] at he
    · cases ht
  | load t p => simp only [tr, Option.map_eq_some_iff] at ht; obtain ⟨⟨ag, k⟩, _, h2⟩ := ht; cases h2; simp [evW] at he
  | binOp op t y z yt =>
    simp only [tr] at ht
    split at ht
    · cases ht; simp [evW] at he
    · cases ht; simp [evW] at he
    · split at ht <;> first | (cases ht; simp [evW] at he; done) | (cases ht; done)
    · split at ht <;> first | (cases ht; simp [evW] at he; done) | (cases ht; done)
    · cases ht
  | unOp op t y => simp only [tr, Option.some.injEq, Prod.mk.injEq] at ht; obtain ⟨rfl, rfl⟩ := ht; simp [evW] at he
  | makeFunc f first cs =>
    cases f with
    | func f =>
      simp only [tr] at ht
      split at ht
      · cases ht; simp [evW] at he
      · cases ht
    | _ => simp [tr] at ht
  | slice t y lo hi mx =>
    simp only [tr] at ht
    split at ht
    · simp only [Option.map_eq_some_iff] at ht; obtain ⟨_, _, h1⟩ := ht; cases h1; simp [evW] at he
    · split at ht
      · cases ht
      · cases ht; simp [evW] at he
    · cases ht
  | fieldAddr s y f =>
    simp only [tr] at ht
    split at ht
    · split at ht
      · split at ht <;> first | (cases ht; simp [evW] at he; done) | (cases ht; done)
      · cases ht
    · cases ht
  | field t y f =>
    simp only [tr] at ht
    split at ht
    · split at ht
      · simp only [Option.map_eq_some_iff] at ht; obtain ⟨⟨ag, k⟩, _, h2⟩ := ht; cases h2; simp [evW] at he
      · cases ht
    · cases ht
  | indexAddr t y ix =>
    simp only [tr] at ht
    split at ht
    · simp only [Option.map_eq_some_iff] at ht; obtain ⟨_, _, h1⟩ := ht; cases h1; simp [evW] at he
    · simp only [Option.map_eq_some_iff] at ht; obtain ⟨_, _, h1⟩ := ht; cases h1; simp [evW] at he
    · cases ht
  | index t y ix =>
    simp only [tr] at ht
    split at ht
    · cases ht; simp [evW] at he
    · split at ht
      · split at ht
        · cases ht; simp [evW] at he
        · cases ht
      · cases ht
    · cases ht
  | extract y j => simp only [tr, Option.some.injEq, Prod.mk.injEq] at ht; obtain ⟨rfl, rfl⟩ := ht; simp [evW] at he
  | nilCheck y => simp only [tr, Option.some.injEq, Prod.mk.injEq] at ht; obtain ⟨rfl, rfl⟩ := ht; simp [evW] at he
  | _ => simp [tr] at ht

theorem tr_append {o : Oper} {sz by_ : Nat} {args : List Operand} (ht : tr P o.op = some (.append sz by_, args)) : ∃ (t u e : TypeId) (s y : Operand) (zero : List AV) (cargs : Array Operand) (argTypes : Array TypeId), o.op = .call { callee := .builtin .append, args := cargs, argTypes := argTypes } ∧ args = [s, y] ∧ argTypes[0]? = some t ∧ argTypes[1]? = some u ∧ cargs.toList = [s, y] ∧ P.underlying t = some (.slice e) ∧
    ((∃ e', P.underlying u = some (.slice e')) ∨ P.underlying u = some .string) ∧ szOf P e = some sz ∧ byOf P e = some by_ ∧ zeroOf P e = some zero ∧ zero.length = sz := by
  obtain ⟨dst, op, type, pos, after, guard⟩ := o
  cases op with
  | call c =>
    obtain ⟨callee, cargs, argTypes⟩ := c
    cases callee with
    | value f => simp only [tr, Option.some.injEq, Prod.mk.injEq] at ht; exact absurd ht.1 (by simp)
    | invoke r m => simp [tr] at ht
    | builtin b =>
      cases b with
      | append =>
        simp only [tr] at ht
        split at ht
        · rename_i t u s y h1 h2 h3
          split at ht
          · rename_i e e' h4 h5
            split at ht
            · rename_i sz by_ zero h6 h7 h8
              split at ht
              · rename_i h9
                cases ht
                exact ⟨t, u, e, s, y, zero, cargs, argTypes, rfl, rfl, h1, h2, h3, h4, .inl ⟨_, h5⟩, h6, h7, h8, h9⟩
              · cases ht
            · cases ht
          · rename_i e h4 h5
            split at ht
            · rename_i sz by_ zero h6 h7 h8
              split at ht
              · rename_i h9
                cases ht
                exact ⟨t, u, e, s, y, zero, cargs, argTypes, rfl, rfl, h1, h2, h3, h4, .inr h5, h6, h7, h8, h9⟩
              · cases ht
            · cases ht
          · cases ht
        · cases ht
      | _ =>
        exfalso
        simp only [tr] at ht
        first
          | (cases ht; done)
          | ((repeat' (first | split at ht | (simp only [Option.map_eq_some_iff] at ht; obtain ⟨_, _, ht⟩ := ht))) <;> first | (cases ht; done) | (simp at ht; done))
  | makeFunc fn first cs =>
    exfalso
    cases fn with
    | func f => simp only [tr] at ht; split at ht <;> cases ht
    | _ => simp [tr] at ht
  | _ =>
    exfalso
    simp only [tr] at ht
    first
      | (cases ht; done)
      | ((repeat' (first | split at ht | (simp only [Option.map_eq_some_iff] at ht; obtain ⟨_, _, ht⟩ := ht))) <;> first | (cases ht; done) | (simp at ht; done))
theorem evWS_sound {fr : List AV} {a : Act} {o : Oper} {l : List Nat} {s0 sz by_ : Nat} {args : List Operand} {x : AV} {h' : Heap} (hr : HR B h φ w) (hf : FR w (Own B h φ) φ fr a.tmps)
    (ht : tr P o.op = some (.append sz by_, args)) (hs1 : s0 < h.length) (hs2 : look h s0 = none) (hs3 : φ s0 = none) (he : evWS l h s0 sz by_ (args.map (opv fr)) = some (x, h')) : WroteS P B h φ w s0 (execOp a.eval o) x h' := by
  have hv : ∀ y, VR w (Own B h φ) φ (opv fr y) (a.eval y) := fun y => opv_VR hf y
  obtain ⟨t, u, e, s, y, zero, cargs, argTypes, hop, rfl, h1, h2, h3, h4, h5, h6, h7, h8, h9⟩ := tr_append ht
  obtain ⟨dst, op, type, pos, after, guard⟩ := o
  simp only at hop
  subst hop
  obtain ⟨r, v, w', φ', g1, g2⟩ := append_WS (ty := type) (t := t) (u := u) hr h4 h5 h6 h7 h8 h9 (hv s) (hv y) hs1 hs2 hs3 he
  have hbody : Builtin.append_ argTypes type #[a.eval s, a.eval y] = Builtin.append_ #[t, u] type #[a.eval s, a.eval y] := by
    unfold Builtin.append_
    rw [h1, h2]
    rfl
  refine ⟨r, v, w', φ', ?_, g2⟩
  have hx : execOp a.eval { dst := dst, op := .call { callee := .builtin .append, args := cargs, argTypes := argTypes }, type := type, pos := pos, after := after, guard := guard } =
      (do pure (Next.value (← Builtin.append_ argTypes type (cargs.map a.eval)))) := rfl
  have hargs : (cargs.map a.eval) = #[a.eval s, a.eval y] := by
    apply Array.ext'
    simp [h3]
  rw [hx, hargs, hbody]
  exact g1
/-- What may change objects, in either way. -/
theorem evW3_sound {fr : List AV} {a : Act} {o : Oper} {wr : Option (List Nat)} {s0 : Nat} {i : I} {args : List Operand} {x : AV} {h' : Heap} (hr : HR B h φ w) (hf : FR w (Own B h φ) φ fr a.tmps)
    (ht : tr P o.op = some (i, args)) (hs : wr ≠ none → s0 < h.length ∧ look h s0 = none ∧ φ s0 = none) (he : evW3 wr h s0 i (args.map (opv fr)) = some (x, h')) : WroteS P B h φ w s0 (execOp a.eval o) x h' := by
  unfold evW3 at he
  split at he
  · exact (evW_sound hr hf ht he).wroteS
  · obtain ⟨s1, s2, s3⟩ := hs (by simp)
    split at he
    · exact evWS_sound hr hf ht s1 s2 s3 he
    · split at he
      · exact (evW_sound hr hf ht he).wroteS
      · cases he
    · cases he

/-! ### Calls -/
/-- A call of the model whose callee the evaluator knows. -/
theorem tr_call {o : Oper} {args : List Operand} (ht : tr P o.op = some (.call, args)) : ∃ f cargs argTypes, o.op = .call { callee := .value f, args := cargs, argTypes := argTypes } ∧ args = f :: cargs.toList := by
  obtain ⟨dst, op, type, pos, after, guard⟩ := o
  cases op with
  | call c =>
    obtain ⟨callee, cargs, argTypes⟩ := c
    cases callee with
    | value f => simp only [tr, Option.some.injEq, Prod.mk.injEq] at ht; obtain ⟨_, rfl⟩ := ht; exact ⟨f, cargs, argTypes, rfl, rfl⟩
    | invoke r m => simp [tr] at ht
    | builtin b =>
      exfalso
      cases b <;> simp only [tr] at ht
      all_goals first
        | (cases ht; done)
        | ((repeat' (first | split at ht | (simp only [Option.map_eq_some_iff] at ht; obtain ⟨_, _, ht⟩ := ht))) <;> first | (cases ht; done) | (simp at ht; done))
  | makeFunc fn first cs =>
    exfalso
    cases fn with
    | func f => simp only [tr] at ht; split at ht <;> cases ht
    | _ => simp [tr] at ht
  | _ =>
    exfalso
    simp only [tr] at ht
    first
      | (cases ht; done)
      | ((repeat' (first | split at ht | (simp only [Option.map_eq_some_iff] at ht; obtain ⟨_, _, ht⟩ := ht))) <;> first | (cases ht; done) | (simp at ht; done))
/-- No operation of the program is flagged. -/
theorem tr_plain {o : Oper} {i : I} {args : List Operand} (ht : tr P o.op = some (i, args)) : i ≠ .bcall ∧ i ≠ .mcall := by
  have key : ∀ j, (j = I.bcall ∨ j = I.mcall) → tr P o.op = some (j, args) → False := by
    intro j hj ht
    obtain ⟨dst, op, type, pos, after, guard⟩ := o
    cases op with
    | call c =>
      obtain ⟨callee, cargs, argTypes⟩ := c
      cases callee with
      | value f => simp only [tr, Option.some.injEq, Prod.mk.injEq] at ht; obtain ⟨rfl, _⟩ := ht; rcases hj with h | h <;> cases h
      | invoke r m => simp [tr] at ht
      | builtin b =>
        rcases hj with rfl | rfl
        all_goals
          cases b <;> simp only [tr] at ht
          all_goals first
            | (cases ht; done)
            | ((repeat' (first | split at ht | (simp only [Option.map_eq_some_iff] at ht; obtain ⟨_, _, ht⟩ := ht))) <;> first | (cases ht; done) | (simp at ht; done))
    | makeFunc fn first cs =>
      cases fn with
      | func f => simp only [tr] at ht; rcases hj with rfl | rfl <;> split at ht <;> cases ht
      | _ => simp [tr] at ht
    | _ =>
      rcases hj with rfl | rfl
      all_goals
        simp only [tr] at ht
        first
          | (cases ht; done)
          | ((repeat' (first | split at ht | (simp only [Option.map_eq_some_iff] at ht; obtain ⟨_, _, ht⟩ := ht))) <;> first | (cases ht; done) | (simp at ht; done))
  exact ⟨fun e => key i (.inl e) ht, fun e => key i (.inr e) ht⟩
end
end Go.Ev
