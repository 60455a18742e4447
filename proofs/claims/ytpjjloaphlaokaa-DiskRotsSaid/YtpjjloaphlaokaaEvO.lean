/- One operation; a region in the order of the text. -/
import Derived.Test.YtpjjloaphlaokaaEvN
import Derived.Tactics
set_option linter.unusedVariables false
set_option linter.unusedSimpArgs false
set_option linter.unnecessarySimpa false
namespace Go.Ev
open Go
section
variable {P : Program} {B : Nat → Prop}

/-- Values of arguments. -/
def ArgsR (w : World) (Ow : Nat → Prop) (φ : Phi) (xs : List AV) (vs : Array Value) : Prop :=
  vs.size = xs.length ∧ ∀ (j : Nat) (x : AV) (v : Value), xs[j]? = some x → vs[j]? = some v → VR w Ow φ x v
/-- What is known behind a step. -/
structure Aft (B : Nat → Prop) (h : Heap) (φ : Phi) (w : World) (s : Nat) (h' : Heap) (φ' : Phi) (w' : World) : Prop where
  hr : HR B h' φ' w'
  stp : Stp φ (Live h φ) w φ' (Live h' φ') w'
  len : h.length ≤ h'.length
  slot : ∀ o, o < h.length → o ≠ s → φ' o = φ o

/-- What the evaluator says of a call is so; 'h' is what the objects are. -/
def CallOk (P : Program) (B : Nat → Prop) (cf : CallF) (f : FuncId) (args : List AV) (h : Heap) (v : AV) (h' : Heap) : Prop :=
  cf f args h = some (v, h') → ∀ (φ : Phi) (w : World) (vs : Array Value), HR B h φ w → ArgsR w (Own B h φ) φ args vs →
    (∃ (fn : Func) (b : Code), P.funcs[f]? = some fn ∧ fn.body = some b ∧ fn.name ≠ "runtime.NumGoroutine") ∧
    Calls P f vs w fun e w' => ∃ (u : Value) (φ' : Phi), e = .returned u ∧ HR B h' φ' w' ∧ Stp φ (Live h φ) w φ' (Live h' φ') w' ∧ VR w' (Own B h' φ') φ' v u ∧ h.length ≤ h'.length ∧ ∀ o, o < h.length → φ' o = φ o

/-- What is said of functions that are run on their own. -/
def MkOk (P : Program) (cf : CallF) : Prop := ∀ (f : FuncId) (args : List AV) (m sz : Nat) (cap : Option Nat) (ys : List AV), cf.own f args = some (m, sz, cap, ys) → ys.length = m * sz ∧
  ∀ (Ow : Nat → Prop) (w : World) (vs : Array Value), (∀ b, Ow b → b < w.heap.size) → ArgsR w Ow noPhi args vs → (∃ (fn : Func) (b : Code), P.funcs[f]? = some fn ∧ fn.body = some b ∧ fn.name ≠ "runtime.NumGoroutine") ∧ Calls P f vs w fun e w' =>
    ∃ (b base c : Nat) (a : Addr) (cs : Array Value) (T : TypeId) (fz : Nat × Nat), e = .returned (.slice (some a) m c) ∧ w.heap.size ≤ b ∧ w'.heap[b]? = some (Obj.cells cs T fz) ∧ base + ys.length ≤ cs.size ∧
      (∀ j, j < cs.size → w'.frozen? ⟨b, j, none⟩ = false) ∧ (∀ (j : Nat) (x : AV), ys[j]? = some x → ∃ v, x = .lit v ∧ cs[base + j]? = some v ∧ v.oneCell' = true) ∧
      (c ≠ 0 → a = ⟨b, base, none⟩) ∧ m ≤ c ∧ (∀ k, cap = some k → c = k) ∧ base + c * sz ≤ cs.size ∧
      w.heap.size ≤ w'.heap.size ∧ (∀ b', b' < w.heap.size → w'.heap[b']? = w.heap[b']?) ∧ Shapes w w' ∧ w'.os = w.os ∧ w'.tape = w.tape ∧ w'.output = w.output

theorem want_sound {ops : Array Oper} {o : Oper} {g : Option (Nat × Bool)} {fr : List AV} {a : Act} {w : World} {Ow : Nat → Prop} {φ : Phi} {b : Bool} (hf : FR w Ow φ fr a.tmps)
    (ht : trG ops o.guard = some g) (hw : wantA fr g = some b) : Region.wanted o (yielded ops a.tmps) = b := by
  unfold Region.wanted
  cases hg : o.guard with
  | none =>
    rw [hg] at ht
    simp only [trG, Option.some.injEq] at ht
    subst ht
    simp only [wantA, Option.some.injEq] at hw
    exact hw
  | some p =>
    obtain ⟨j, want⟩ := p
    rw [hg] at ht
    simp only [trG] at ht
    split at ht
    · rename_i t hd
      cases ht
      simp only [wantA] at hw
      split at hw
      · rename_i c hc
        cases hw
        have hlt : t < a.tmps.size := by rw [hf.1]; exact (List.getElem?_eq_some_iff.1 hc).1
        have hv := hf.2 t _ _ hc (Array.getElem?_eq_getElem hlt)
        generalize hu : a.tmps[t] = u at hv
        cases hv
        simp [yielded, hd, hlt, hu]
      · rename_i v hne hc
        cases hw
        have hlt : t < a.tmps.size := by rw [hf.1]; exact (List.getElem?_eq_some_iff.1 hc).1
        have hv := hf.2 t _ _ hc (Array.getElem?_eq_getElem hlt)
        generalize hu : a.tmps[t] = u at hv
        cases hv
        have : yielded ops a.tmps j = none := by
          unfold yielded
          rw [hd]
          simp only [Option.bind_some, Array.getElem?_eq_getElem hlt, hu]
          cases v <;> first | rfl | exact absurd rfl (hne _)
        simp [this]
      · cases hw
    · cases ht

theorem aft_same {h : Heap} {φ : Phi} {w : World} (s : Nat) (hr : HR B h φ w) : Aft B h φ w s h φ w := ⟨hr, Stp.refl _ _ _, Nat.le_refl _, fun _ _ _ => rfl⟩
theorem Aft.trans {h h' h'' : Heap} {φ φ' φ'' : Phi} {w w' w'' : World} {s s' : Nat} (k : Aft B h φ w s h' φ' w') (k' : Aft B h' φ' w' s' h'' φ'' w'') : Stp φ (Live h φ) w φ'' (Live h'' φ'') w'' := k.stp.trans k'.stp

theorem args_VR {w : World} {Ow : Nat → Prop} {φ : Phi} {fr : List AV} {a : Act} (hf : FR w Ow φ fr a.tmps) (l : Array Operand) : ArgsR w Ow φ (l.toList.map (opv fr)) (l.map a.eval) := by
  refine ⟨by simp, fun j x v e e' => ?_⟩
  simp only [List.getElem?_map, Option.map_eq_some_iff] at e
  obtain ⟨y, hy, rfl⟩ := e
  simp only [Array.getElem?_map, Option.map_eq_some_iff] at e'
  obtain ⟨y', hy', rfl⟩ := e'
  have : y = y' := by
    have h2 : l.toList[j]? = some y' := by simpa using hy'
    rw [hy] at h2
    cases h2
    rfl
  subst this
  exact opv_VR hf _

/-- An operation of the evaluator's code, flagged or not. -/
def TrR (P : Program) (ops : Array Oper) (o : Oper) (ao : AOp) : Prop := ∃ ao0 bl mk, trO P ops o = some ao0 ∧ ao = ao0.flag bl mk
theorem flag_cases (o : AOp) (bl mk : List Nat) : o.flag bl mk = o ∨ (o.ins = .call ∧ (o.flag bl mk = { o with ins := .bcall } ∨ o.flag bl mk = { o with ins := .mcall })) := by
  unfold AOp.flag
  split
  · rename_i d h1 h2
    split
    · exact .inr ⟨h1, .inl rfl⟩
    · split
      · exact .inr ⟨h1, .inr rfl⟩
      · exact .inl rfl
  · exact .inl rfl
theorem flag_nil (o : AOp) : o.flag [] [] = o := by
  unfold AOp.flag
  split
  · rfl
  · rfl
theorem TrR.of {ops : Array Oper} {o : Oper} {ao : AOp} (h : trO P ops o = some ao) : TrR P ops o ao := ⟨ao, [], [], h, (flag_nil ao).symm⟩
theorem noRef_noPhi {w : World} {Ow : Nat → Prop} {φ φ' : Phi} : ∀ (n : Nat) (x : AV) (v : Value), x.noRef n = true → VR w Ow φ x v → VR w Ow φ' x v
  | 0, x, v, e, _ => by simp [AV.noRef] at e
  | n + 1, x, v, e, hv => by
    cases hv with
    | und v => exact .und v
    | lit v => exact .lit v
    | sl isNil m c cap xs a cs hnil hn hcap hlen hx ho hm => exact .sl isNil m c cap xs a cs hnil hn hcap hlen hx ho hm
    | fptr xs cs b o hlen hx ho hm => exact .fptr xs cs b o hlen hx ho hm
    | ptr => simp [AV.noRef] at e
    | ref => simp [AV.noRef] at e
    | fn f xs cs hlen hx =>
      simp only [AV.noRef] at e
      exact .fn f xs cs hlen fun j x v e1 e2 => noRef_noPhi n x v (List.all_eq_true.1 e x (List.mem_of_getElem? e1)) (hx j x v e1 e2)
    | iface t x v hx =>
      simp only [AV.noRef] at e
      exact .iface t x v (noRef_noPhi n x v e hx)
    | agg xs cs hlen hx ho =>
      simp only [AV.noRef] at e
      exact .agg xs cs hlen (fun j x v e1 e2 => noRef_noPhi n x v (List.all_eq_true.1 e x (List.mem_of_getElem? e1)) (hx j x v e1 e2)) ho
    | tup xs cs hlen hx =>
      simp only [AV.noRef] at e
      exact .tup xs cs hlen fun j x v e1 e2 => noRef_noPhi n x v (List.all_eq_true.1 e x (List.mem_of_getElem? e1)) (hx j x v e1 e2)

/-- What freezing leaves. -/
structure Frzn (B : Nat → Prop) (h : Heap) (φ : Phi) (w : World) (h' : Heap) : Prop where
  hr : HR B h' φ w
  sub : ∀ o cs, look h' o = some cs → look h o = some cs
  len : h'.length = h.length
theorem blind_VR {w : World} {Ow : Nat → Prop} {φ : Phi} {x : AV} {v : Value} (h : VR w Ow φ x v) : VR w Ow φ x.blind v := by
  cases h with
  | ref o off n sz c b base cap a hφ ha hn hcap hr => exact .sl false n c cap [] (some a) [] rfl hn hcap rfl (by simp) (by simp) (by simp)
  | und v => exact .und v
  | lit v => exact .lit v
  | sl isNil n c cap xs a cs h1 h2 h3 h4 h5 h6 h7 => exact .sl isNil n c cap xs a cs h1 h2 h3 h4 h5 h6 h7
  | ptr o off b base hφ => exact .ptr o off b base hφ
  | fptr xs cs b o h1 h2 h3 h4 => exact .fptr xs cs b o h1 h2 h3 h4
  | fn f xs cs h1 h2 => exact .fn f xs cs h1 h2
  | iface t x v h1 => exact .iface t x v h1
  | agg xs cs h1 h2 h3 => exact .agg xs cs h1 h2 h3
  | tup xs cs h1 h2 => exact .tup xs cs h1 h2
theorem trO_plain {ops : Array Oper} {o : Oper} {ao : AOp} (h : trO P ops o = some ao) : ao.ins ≠ .bcall ∧ ao.ins ≠ .mcall := by
  unfold trO at h
  split at h
  · rename_i hi _
    cases h
    exact tr_plain hi
  · cases h
/-- One operation. -/
theorem evOp_sound {ops : Array Oper} {o : Oper} {ao : AOp} {cf : CallF} {g : Look} {s : Nat} {wr : Option (List Nat)} {fr fr' : List AV} {h h' : Heap} {φ : Phi} {w : World} {a : Act} {K : Act → World → Prop} {Q : Exit → Act → World → Prop}
    (ht : TrR P ops o ao) (he : evOp cf g s wr ao fr h = some (fr', h')) (hg : ∀ o cs, g o = some cs → look h o = some cs)
    (hcf : ∀ f args v, CallOk P B cf f args h v h') (hmk : MkOk P cf) (hr : HR B h φ w) (hf : FR w (Own B h φ) φ fr a.tmps) (hd : a.defers = [])
    (hs : ao.ins.cls = 2 ∨ ao.ins.cls = 3 ∧ wr ≠ none ∨ ao.ins = .mcall → s < h.length ∧ look h s = none ∧ φ s = none)
    (hK : ∀ φ' w' a', Aft B h φ w s h' φ' w' → FR w' (Own B h' φ') φ' fr' a'.tmps → a'.defers = [] → K a' w') :
    if Region.wanted o (yielded ops a.tmps) then o.wp P a w K Q else K (a.put o.dst undef) w := by
  obtain ⟨ao0, bl, mk, ht, rfl⟩ := ht
  unfold trO at ht
  split at ht
  case h_2 => cases ht
  rename_i i args gd hi hgd
  cases ht
  obtain ⟨i', hao, hi'⟩ : ∃ i', AOp.flag bl mk ⟨o.dst, i, args, gd⟩ = ⟨o.dst, i', args, gd⟩ ∧ (i' = i ∨ i = .call ∧ (i' = .bcall ∨ i' = .mcall)) := by
    rcases flag_cases ⟨o.dst, i, args, gd⟩ bl mk with h1 | ⟨h1, h2 | h2⟩
    · exact ⟨i, h1, .inl rfl⟩
    · exact ⟨.bcall, h2, .inr ⟨h1, .inl rfl⟩⟩
    · exact ⟨.mcall, h2, .inr ⟨h1, .inr rfl⟩⟩
  rw [hao] at he hs
  have notc : i'.cls ≠ 4 → i' = i := by
    intro h
    rcases hi' with h1 | ⟨_, h1 | h1⟩
    · exact h1
    · subst h1; exact absurd rfl h
    · subst h1; exact absurd rfl h
  simp only [evOp, Option.map_eq_some_iff, Prod.mk.injEq] at he
  obtain ⟨⟨v, hN⟩, he, rfl, rfl⟩ := he
  simp only [evCore] at he
  split at he
  · cases he
  · rename_i hw
    rw [want_sound hf hgd hw]
    simp only [Bool.false_eq_true, if_false]
    simp only [Option.some.injEq, Prod.mk.injEq] at he
    obtain ⟨rfl, rfl⟩ := he
    exact hK φ w _ (aft_same s hr) (hf.put _ (.lit _)) (by cases o.dst <;> simpa [Act.put] using hd)
  · rename_i hw
    rw [want_sound hf hgd hw]
    simp only [if_true]
    have hput : ∀ (d : Option Nat) (u : Value), (a.put d u).defers = [] := by intro d u; cases d <;> simpa [Act.put] using hd
    split at he
    · -- an object is made
      rename_i hcls
      obtain rfl := notc (by rw [hcls]; decide)
      simp only [Option.map_eq_some_iff, Prod.mk.injEq] at he
      obtain ⟨⟨cs, mk⟩, hev, rfl, rfl⟩ := he
      obtain ⟨s1, s2, s3⟩ := hs (.inl hcls)
      obtain ⟨u, w', p, q1, q2, q3, q4⟩ := evN_sound (P := P) hr hf hi hev (Nat.le_refl _) (fun _ _ e => e) s1 s2 s3
      unfold Oper.wp
      rw [q1, Oper.upon_value]
      exact hK _ w' _ ⟨q2, q3, by simp, fun o _ ho => by simp [upd, ho]⟩ ((hf.stp q3).put _ q4) (hput _ _)
    · -- objects change
      rename_i hcls
      obtain rfl := notc (by rw [hcls]; decide)
      obtain ⟨r, u, w', φ', q1, q2, q3, q4, q5, q6, q7⟩ := evW3_sound (P := P) hr hf hi (fun hw => hs (.inr (.inl ⟨hcls, hw⟩))) he
      unfold Oper.wp
      rw [q1]
      have := hK φ' w' (a.put o.dst u) ⟨q3, q4, q6, fun o ho hos => q7 o ho hos⟩ ((hf.stp q4).put _ q5) (hput _ _)
      rcases q2 with rfl | ⟨rfl, rfl⟩
      · rw [Oper.upon_value]; exact this
      · rw [Oper.upon_skip]; exact this
    · -- a call
      rename_i hcls
      have hcall : i = .call := by
        rcases hi' with h1 | ⟨h1, _⟩
        · subst h1
          obtain ⟨q1, q2⟩ := tr_plain hi
          cases i' <;> first | rfl | exact absurd rfl q1 | exact absurd rfl q2 | (simp [I.cls] at hcls; done)
        · exact h1
      subst hcall
      obtain ⟨f, cargs, argTypes, hop, hargs⟩ := tr_call hi
      subst hargs
      simp only [List.map_cons] at he
      split at he
      · rename_i f' cs xs heq
        simp only [List.cons.injEq] at heq
        obtain ⟨h1, rfl⟩ := heq
        have hfv := opv_VR hf f
        rw [h1] at hfv
        generalize hfe : a.eval f = fv at hfv
        cases hfv with
        | fn _ _ caps hlen hx =>
          have hA := args_VR hf cargs
          have hA2 : ArgsR w (Own B h φ) φ (cargs.toList.map (opv fr) ++ cs) (cargs.map a.eval ++ caps) := by
            refine ⟨by simp [hA.1, hlen], fun j x v e e' => ?_⟩
            by_cases hj : j < (cargs.toList.map (opv fr)).length
            · rw [List.getElem?_append_left hj] at e
              rw [Array.getElem?_append_left (by rw [hA.1]; exact hj)] at e'
              exact hA.2 j x v e e'
            · rw [List.getElem?_append_right (by omega)] at e
              rw [Array.getElem?_append_right (by rw [hA.1]; omega), hA.1] at e'
              exact hx _ x v e e'
          have hrun : ∀ fn bd, P.funcs[f']? = some fn → fn.body = some bd → fn.name ≠ "runtime.NumGoroutine" → (execOp a.eval o).run P w = .ok (.enter f' (cargs.map a.eval ++ caps)) w := by
            intro fn bd hfn hbody hname
            obtain ⟨dst, op, type, pos, after, guard⟩ := o
            simp only at hop
            subst hop
            simp [execOp, resolve, hfe, Deferred.ofValue, invoke, callFunc, hfn, hbody, hname]
          have usual : ∀ l, ArgsR w (Own B h φ) φ l (cargs.map a.eval ++ caps) → cf f' l h = some (v, hN) → o.wp P a w K Q := by
            intro l hl hev
            obtain ⟨⟨fn, bd, hfn, hbody, hname⟩, hc⟩ := hcf f' _ v hev φ w _ hr hl
            unfold Oper.wp
            rw [hrun fn bd hfn hbody hname, Oper.upon_enter]
            refine hc.mono fun e w' hq => ?_
            obtain ⟨u, φ', rfl, q1, q2, q3, q4, q5⟩ := hq
            exact hK φ' w' _ ⟨q1, q2, q4, fun o ho _ => q5 o ho⟩ ((hf.stp q2).put _ q3) (hput _ _)
          rcases hi' with rfl | ⟨_, rfl | rfl⟩
          · exact usual _ hA2 he
          · exact usual _ ⟨by simpa using hA2.1, fun j x v e e' => by
              rw [List.getElem?_map, Option.map_eq_some_iff] at e
              obtain ⟨y, hy, rfl⟩ := e
              exact blind_VR (hA2.2 j y v hy e')⟩ he
          · -- a row comes back
            simp only at he
            split at he
            · rename_i hnr
              simp only [Option.map_eq_some_iff, Prod.mk.injEq] at he
              obtain ⟨⟨m, sz, cap, ys⟩, hown, rfl, rfl⟩ := he
              obtain ⟨hyl, hall⟩ := hmk f' _ m sz cap ys hown
              obtain ⟨s1, s2, s3⟩ := hs (.inr (.inr rfl))
              have hO : ∀ b, Own B h φ b → b < w.heap.size := by
                rintro b (h3 | ⟨o, cs, base, h3, h4⟩)
                · exact hr.bsz b h3
                · obtain ⟨b1, base1, c, T, fz, q1, q2, _⟩ := hr.live o cs h3
                  rw [h4] at q1
                  cases q1
                  exact (Array.getElem?_eq_some_iff.1 q2).1
              have hA3 : ArgsR w (Own B h φ) noPhi (cargs.toList.map (opv fr) ++ cs) (cargs.map a.eval ++ caps) :=
                ⟨hA2.1, fun j x v e e' => noRef_noPhi deep x v (List.all_eq_true.1 hnr x (List.mem_of_getElem? e)) (hA2.2 j x v e e')⟩
              obtain ⟨⟨fn, bd, hfn, hbody, hname⟩, hc⟩ := hall _ w _ hO hA3
              unfold Oper.wp
              rw [hrun fn bd hfn hbody hname, Oper.upon_enter]
              refine hc.mono fun e w' hq => ?_
              obtain ⟨b, base, c, ad, arr, T, fz, rfl, r1, r2, r3, r4, r5, r6, r7, r8, r9, r10, r11, r12, r13, r14, r15⟩ := hq
              obtain ⟨g1, g2⟩ := hr.lay (h1 := h) (s := s) (w' := w') (b := b) (base := base) (c := arr) (T := T) (fz := fz) (xs := ys) (Nat.le_refl _) (fun _ _ e => e) s1 s2 s3 r10 (fun b' h1 _ => r11 b' h1) r12 r13 r14 r15 r2 (fun hb => by have := hr.bsz b hb; omega)
                (fun o cs base' h3 h4 => by
                  obtain ⟨b1, base1, c1, T1, fz1, q1, q2, _⟩ := hr.live o cs h3
                  rw [h4] at q1
                  cases q1
                  have := (Array.getElem?_eq_some_iff.1 q2).1
                  omega) (.inl r1) r3 r4 (fun j x e => by
                  obtain ⟨v, rfl, e1, e2⟩ := r5 j x e
                  exact ⟨v, e1, e2, .lit v⟩)
              refine hK _ w' _ ⟨g1, g2, by simp, fun o _ ho => by simp [upd, ho]⟩ ((hf.stp g2).put _ ?_) (hput _ _)
              exact .ref s 0 m sz c b base cap ad (by simp [upd]) (fun h => by rw [r6 h, Nat.add_zero]) r7 r8 ⟨arr, T, fz, r2, by rw [Nat.add_zero]; exact r9⟩
            · cases he
      · cases he
    · -- it reads at most
      simp only [Option.map_eq_some_iff, Prod.mk.injEq] at he
      rename_i n2 n3 n4
      obtain rfl := notc n4
      obtain ⟨v', hev, rfl, rfl⟩ := he
      obtain ⟨u, q1, q2⟩ := evR_sound (P := P) hr hg hf hi hev
      unfold Oper.wp
      rw [q1, Oper.upon_value]
      exact hK φ w _ (aft_same s hr) (hf.put _ q2) (hput _ _)

theorem look_pad (h : Heap) (n : Nat) : look (h ++ List.replicate n none) = look h := by
  funext o
  unfold look
  rcases Nat.lt_or_ge o h.length with h1 | h1
  · rw [List.getElem?_append_left h1]
  · rw [List.getElem?_append_right h1, List.getElem?_eq_none h1, List.getElem?_replicate]
    split <;> rfl
theorem HR.pad {h : Heap} {φ : Phi} {w : World} (hr : HR B h φ w) (n : Nat) : HR B (h ++ List.replicate n none) φ w := by
  have hl := look_pad h n
  have hO : Own B (h ++ List.replicate n none) φ = Own B h φ := by funext b; unfold Own Live; rw [hl]
  refine ⟨hr.bsz, ?_, ?_, fun o p e => by have := hr.dom o p e; simp; omega⟩
  · rw [hl, hO]; exact hr.live
  · rw [hl]; exact hr.inj
theorem own_pad (h : Heap) (φ : Phi) (n : Nat) : Own B (h ++ List.replicate n none) φ = Own B h φ := by funext b; unfold Own Live; rw [look_pad]
theorem live_pad (h : Heap) (φ : Phi) (n : Nat) : Live (h ++ List.replicate n none) φ = Live h φ := by funext b; unfold Live; rw [look_pad]

/-- A region in the order of the text. -/
theorem evOps_sound {ops : Array Oper} {cf : CallF} {Q : Exit → Act → World → Prop} (hcf : ∀ f args h v h', CallOk P B cf f args h v h') (hmk : MkOk P cf) : ∀ (l : List Oper) (al : List AOp), l.mapM (trO P ops) = some al →
    ∀ (fr fr' : List AV) (h h' : Heap) (φ : Phi) (w : World) (a : Act), evOps cf al fr h = some (fr', h') → HR B h φ w → FR w (Own B h φ) φ fr a.tmps → a.defers = [] →
      (∀ φ' w' a', HR B h' φ' w' → Stp φ (Live h φ) w φ' (Live h' φ') w' → FR w' (Own B h' φ') φ' fr' a'.tmps → a'.defers = [] → h.length ≤ h'.length → (∀ o, o < h.length → φ' o = φ o) → Q .normal a' w') →
      wpList P ops Q l a w
  | [], al, hl, fr, fr', h, h', φ, w, a, he, hr, hf, hd, hQ => by
    simp at hl
    subst hl
    simp only [evOps, Option.some.injEq, Prod.mk.injEq] at he
    obtain ⟨rfl, rfl⟩ := he
    exact hQ φ w a hr (Stp.refl _ _ _) hf hd (Nat.le_refl _) (fun _ _ => rfl)
  | o :: l, al, hl, fr, fr', h, h', φ, w, a, he, hr, hf, hd, hQ => by
    simp only [List.mapM_cons, Option.bind_eq_bind, Option.bind_eq_some_iff, Option.pure_def, Option.some.injEq] at hl
    obtain ⟨ao, hao, al', hal, rfl⟩ := hl
    have main : ∀ (h0 : Heap) (s : Nat) (fr1 : List AV) (h1 : Heap), HR B h0 φ w → Live h0 φ = Live h φ → look h0 = look h → h.length ≤ h0.length → (ao.ins.cls = 2 → s < h0.length ∧ look h0 s = none ∧ φ s = none) → (∀ o, o < h.length → o ≠ s) →
        evOp cf (look h) s none ao fr h0 = some (fr1, h1) → evOps cf al' fr1 h1 = some (fr', h') → wpList P ops Q (o :: l) a w := by
      intro h0 s fr1 h1 hr0 hO hL hlen hs hns he1 he2
      have := evOp_sound (K := wpList P ops Q l) (Q := Q) (TrR.of hao) he1 (by rw [hL]; exact fun _ _ e => e) (fun f args v => hcf f args _ v _) hmk hr0 (by unfold Own; rw [hO]; exact hf) hd (fun e => hs (e.resolve_right fun q => q.elim (fun q => q.2 rfl) (trO_plain hao).2)) (fun φ' w' a' haft hf' hd' => by
        refine evOps_sound hcf hmk l al' hal fr1 fr' h1 h' φ' w' a' he2 haft.hr hf' hd' (fun φ'' w'' a'' q1 q2 q3 q4 q5 q6 => hQ φ'' w'' a'' q1 ?_ q3 q4 ?_ fun o ho => ?_)
        · rw [← hO]; exact haft.stp.trans q2
        · have := haft.len; omega
        · rw [q6 o (by have := haft.len; omega)]
          exact haft.slot o (by omega) (hns o ho))
      unfold wpList
      split
      · rename_i hw; rw [if_pos hw] at this; exact .inl this
      · rename_i hw; rw [if_neg hw] at this; exact this
    simp only [evOps] at he
    split at he
    · rename_i hcls
      split at he
      · rename_i fr1 h1 he1
        have hpad := hr.pad (n := 1)
        refine main (h ++ [none]) h.length fr1 h1 hpad (live_pad h φ 1) (look_pad h 1) (by simp) (fun _ => ⟨by simp, by have := look_pad h 1; simp only [List.replicate] at this; rw [this]; simp [look], dom_none hr⟩) (fun o ho e => by omega) he1 he
      · cases he
    · rename_i hcls
      split at he
      · rename_i fr1 h1 he1
        by_cases h0 : 0 < h.length
        · -- the slot is not used: any number does
          have he1' : evOp cf (look h) h.length none ao fr h = some (fr1, h1) := by
            rw [← he1]
            unfold evOp evCore
            split
            · rfl
            · rfl
            · split
              · rename_i hc2; exact absurd hc2 hcls
              · rfl
              · congr 1
                split
                · split
                  · rfl
                  · rename_i hmc; exact absurd hmc (trO_plain hao).2
                  · rfl
                · rfl
              · rfl
          exact main h h.length fr1 h1 hr rfl rfl (Nat.le_refl _) (fun e => absurd e hcls) (fun o ho e => by omega) he1' he
        · exact main h 0 fr1 h1 hr rfl rfl (Nat.le_refl _) (fun e => absurd e hcls) (fun o ho e => by omega) he1 he
      · cases he
end
end Go.Ev
