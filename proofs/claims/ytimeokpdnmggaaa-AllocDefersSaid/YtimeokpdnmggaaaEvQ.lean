/- A region whose order is open: any order does what the order of the text does. -/
import Derived.Test.YtimeokpdnmggaaaEvP
set_option linter.unusedVariables false
set_option linter.unusedSimpArgs false
set_option linter.unnecessarySimpa false
namespace Go.Ev
open Go

theorem opv_put (fr : List AV) (d : Option Nat) (v : AV) (x : Operand) (hx : ∀ t, x = .tmp t → d ≠ some t) : opv (putA fr d v) x = opv fr x := by
  cases x with
  | tmp t =>
    cases d with
    | none => rfl
    | some d =>
      have : d ≠ t := fun e => hx t rfl (by rw [e])
      simp [opv, putA, List.getElem?_set_ne this]
  | _ => rfl
/-- Only what it looks at matters. -/
theorem evCore_put (cf : CallF) (g : Look) (s : Nat) (wr : Option (List Nat)) (o : AOp) (fr : List AV) (h : Heap) (d : Option Nat) (v : AV) (hd : ∀ t, d = some t → t ∉ o.looks) :
    evCore cf g s wr o (putA fr d v) h = evCore cf g s wr o fr h := by
  have h1 : wantA (putA fr d v) o.guard = wantA fr o.guard := by
    cases hg : o.guard with
    | none => rfl
    | some p =>
      obtain ⟨t, b⟩ := p
      cases d with
      | none => rfl
      | some d =>
        have : d ≠ t := fun e => hd d rfl (by subst e; simp [AOp.looks, hg])
        simp [wantA, putA, List.getElem?_set_ne this]
  have h2 : o.args.map (opv (putA fr d v)) = o.args.map (opv fr) := List.map_congr_left fun x hx => opv_put fr d v x fun t e ed => hd t ed (by
    subst e
    simp only [AOp.looks, List.mem_append, List.mem_filterMap]
    exact .inl ⟨.tmp t, hx, rfl⟩)
  unfold evCore
  rw [h1, h2]

theorem evR_cls0 (g g' : Look) (i : I) (args : List AV) (hi : i.cls = 0) : evR g i args = evR g' i args := by
  cases i with
  | load ag k => simp [I.cls] at hi
  | b2s => simp [I.cls] at hi
  | iaddr arr sz => cases arr <;> rfl
  | len s => cases s <;> rfl
  | _ => rfl

/-- Calls in such a region leave all as it is, and look only at what they may. -/
def PureC (cf : List Nat → CallF) : Prop := ∀ fb f args h v h', cf fb f args h = some (v, h') → h' = h ∧ ∀ h2, hide h2 fb = hide h fb → cf fb f args h2 = some (v, h2)

theorem hide_set {h : Heap} {fb : List Nat} {s : Nat} {x : Option (List AV)} (hs : s ∈ fb) : hide (h.set s x) fb = hide h fb := by
  funext o
  unfold hide
  split
  · rfl
  · rename_i hn
    rw [look_set]
    rw [if_neg]
    rintro ⟨rfl, _⟩
    simp at hn
    exact hn hs

theorem cls_cases (o : AOp) : (o.ins.cls = 0 ∨ o.ins.cls = 1 ∨ o.ins.cls = 2 ∨ o.ins.cls = 3 ∨ o.ins.cls = 4) := by cases o.ins <;> simp [I.cls]
/-- The kinds of steps: it leaves the objects as they are; it lays one; it changes one. -/
inductive Kind (cf : List Nat → CallF) (fb : List Nat) (s : Nat) (wr : Option (List Nat)) (o : AOp) (fr : List AV) (h : Heap) (v : AV) : Heap → Prop
  | quiet (hall : ∀ h2, (o.cl = 1 → hide h2 fb = hide h fb) → evCore (cf fb) (hide h2 fb) s wr o fr h2 = some (v, h2)) : Kind cf fb s wr o fr h v h
  | make (cs : List AV) (hc : o.cl = 2) (hall : ∀ h2, evCore (cf fb) (hide h2 fb) s wr o fr h2 = some (v, h2.set s (some cs))) : Kind cf fb s wr o fr h v (h.set s (some cs))
  | change (h' : Heap) (hc : o.cl = 3) (hd : ∀ k, k < h.length → look h k = none → look h' k = none) (hlen : h.length ≤ h'.length)
      (hall : ∀ l, wr = some l → ∃ t cs, t ∈ l ∧ t < h.length ∧ look h t ≠ none ∧ h' = h.set t (some cs) ∧ ∀ h2, look h2 t = look h t → evCore (cf fb) (hide h2 fb) s wr o fr h2 = some (v, h2.set t (some cs))) : Kind cf fb s wr o fr h v h'

theorem evW_dead {h h' : Heap} {i : I} {args : List AV} {v : AV} (e : evW h i args = some (v, h')) : (∀ k, k < h.length → look h k = none → look h' k = none) ∧ h.length ≤ h'.length := by
  have app : ∀ (h0 : Heap) (x : Option (List AV)), h0.length = h.length → (∀ k, look h k = none → look h0 k = none) → (∀ k, k < h.length → look h k = none → look (h0 ++ [x]) k = none) ∧ h.length ≤ (h0 ++ [x]).length := by
    intro h0 x hl hd
    refine ⟨fun k hk hn => ?_, by simp; omega⟩
    rw [look_app, if_neg (by omega)]
    exact hd k hn
  have st : ∀ (o : Nat) (cs : List AV) (x : List AV), look h o = some cs → (∀ k, k < h.length → look h k = none → look (h.set o (some x)) k = none) ∧ h.length ≤ (h.set o (some x)).length := by
    intro o cs x ho
    refine ⟨fun k hk hn => ?_, by simp⟩
    rw [look_set, if_neg]
    · exact hn
    · rintro ⟨rfl, _⟩
      rw [ho] at hn
      cases hn
  unfold evW at e
  split at e
  · split at e
    · split at e
      · rename_i cs ys hl hy
        split at e
        · simp only [Option.some.injEq, Prod.mk.injEq] at e
          obtain ⟨rfl, rfl⟩ := e
          exact st _ _ _ hl
        · cases e
      · cases e
    · cases e
  · split at e
    · split at e
      · split at e
        · split at e
          · simp only [Option.some.injEq, Prod.mk.injEq] at e
            obtain ⟨rfl, rfl⟩ := e
            exact ⟨fun _ _ h => h, Nat.le_refl _⟩
          · split at e
            · simp only [Option.some.injEq, Prod.mk.injEq] at e
              obtain ⟨rfl, rfl⟩ := e
              refine app _ _ (by simp) fun k hk => ?_
              rw [look_set]
              split
              · rfl
              · exact hk
            · cases e
        · split at e
          · simp only [Option.some.injEq, Prod.mk.injEq] at e
            obtain ⟨rfl, rfl⟩ := e
            exact ⟨fun _ _ h => h, Nat.le_refl _⟩
          · split at e
            · split at e
              · split at e
                · simp only [Option.some.injEq, Prod.mk.injEq] at e
                  obtain ⟨rfl, rfl⟩ := e
                  exact app _ _ rfl fun _ h => h
                · cases e
              · cases e
            · cases e
        · cases e
      · cases e
    · cases e
  · split at e
    · split at e
      · split at e
        · rename_i hl
          simp only [Option.some.injEq, Prod.mk.injEq] at e
          obtain ⟨rfl, rfl⟩ := e
          exact st _ _ _ hl
        · cases e
      · cases e
    · cases e
  · cases e

theorem core_kind {cf : List Nat → CallF} (hp : PureC cf) {fb : List Nat} {s : Nat} {wr : Option (List Nat)} {o : AOp} {fr : List AV} {h h' : Heap} {v : AV} (e : evCore (cf fb) (hide h fb) s wr o fr h = some (v, h')) :
    Kind cf fb s wr o fr h v h' := by
  have e0 := e
  unfold evCore at e
  split at e
  · cases e
  · rename_i hw
    simp only [Option.some.injEq, Prod.mk.injEq] at e
    obtain ⟨rfl, rfl⟩ := e
    exact .quiet fun h2 _ => by unfold evCore; rw [hw]
  · rename_i hw
    split at e
    · rename_i hcls
      simp only [Option.map_eq_some_iff, Prod.mk.injEq] at e
      obtain ⟨⟨cs, mk⟩, hev, rfl, rfl⟩ := e
      refine .make cs (by simp [AOp.cl, hcls]) fun h2 => ?_
      unfold evCore
      rw [hw]
      simp only [hcls, hev]
      rfl
    · rename_i hcls
      split at e
      · rename_i hmw
        obtain ⟨hd1, hd2⟩ := evW_dead e
        refine .change h' (by simp [AOp.cl, hcls]) hd1 hd2 fun l hl => ?_
        subst hl
        have hmw0 := hmw
        simp only [mayWrite] at hmw
        split at hmw
        · rename_i k t off args heqi heqa
          simp only [heqi, heqa, evW] at e
          split at e
          · rename_i o' off' vv heq
            simp only [List.cons.injEq, AV.ptr.injEq] at heq
            obtain ⟨⟨rfl, rfl⟩, hargs⟩ := heq
            split at e
            · rename_i cs ys hlk hys
              split at e
              · rename_i hcond
                simp only [Option.some.injEq, Prod.mk.injEq] at e
                obtain ⟨rfl, rfl⟩ := e
                refine ⟨t, _, by simpa using hmw, look_lt hlk, by rw [hlk]; simp, rfl, fun h2 h3 => ?_⟩
                unfold evCore
                rw [hw]
                simp only [hcls]
                rw [if_pos hmw0]
                simp only [heqi, heqa, hargs, evW, h3, hlk, hys]
                rw [if_pos hcond]
              · cases e
            · cases e
          · cases e
        · simp at hmw
      · cases e
    · rename_i hcls
      split at e
      · rename_i f cs xs heq
        obtain ⟨h1, h2⟩ := hp fb f _ h v h' e
        subst h1
        refine .quiet fun h3 h4 => ?_
        unfold evCore
        rw [hw]
        simp only [hcls, heq]
        exact h2 h3 (h4 (by simp [AOp.cl, hcls]))
      · cases e
    · rename_i hn2 hn3 hn4
      simp only [Option.map_eq_some_iff, Prod.mk.injEq] at e
      obtain ⟨v', hev, rfl, rfl⟩ := e
      refine .quiet fun h2 h3 => ?_
      have hcl : o.ins.cls = 0 ∨ o.ins.cls = 1 := by
        rcases cls_cases o with h1 | h1 | h1 | h1 | h1
        · exact .inl h1
        · exact .inr h1
        · exact absurd h1 hn2
        · exact absurd h1 hn3
        · exact absurd h1 hn4
      have : evR (hide h2 fb) o.ins (o.args.map (opv fr)) = evR (hide h fb) o.ins (o.args.map (opv fr)) := by
        rcases hcl with h1 | h1
        · exact evR_cls0 _ _ _ _ h1
        · rw [h3 (by simp [AOp.cl, h1])]
      unfold evCore
      rw [hw]
      rcases hcl with h1 | h1 <;> simp [h1, this, hev]

def stepD (cf : List Nat → CallF) (base k : Nat) (o : DOp) (st : List AV × Heap) : Option (List AV × Heap) :=
  evOp (cf (o.forb.map (base + ·))) (hide st.2 (o.forb.map (base + ·))) (base + k) (o.wr.map fun l => l.map (base + ·)) o.op st.1 st.2

theorem apartA_spec {x y : AOp} (h : apartA x y = true) : (∀ t, x.dst = some t → t ∉ y.looks) ∧ (∀ t, x.dst = some t → y.dst ≠ some t) := by
  refine ⟨fun t ht => ?_, fun t ht => ?_⟩ <;> simp [apartA, ht] at h
  · exact h.1
  · exact h.2
theorem putA_comm (fr : List AV) {d e : Option Nat} (u v : AV) (h : ∀ t, d = some t → e ≠ some t) : putA (putA fr d u) e v = putA (putA fr e v) d u := by
  cases d with
  | none => rfl
  | some d =>
    cases e with
    | none => rfl
    | some e =>
      have hne : d ≠ e := fun q => h d rfl (by rw [q])
      exact List.set_comm _ _ hne
theorem mem_base {base s : Nat} {l : List Nat} (h : s ∈ l.map (base + ·)) : ∃ k, k ∈ l ∧ s = base + k := by
  simp only [List.map_eq_flatMap, List.mem_flatMap, List.mem_singleton] at h
  obtain ⟨k, h1, h2⟩ := h
  exact ⟨k, h1, h2⟩
theorem mem_base' {base k : Nat} {l : List Nat} (h : k ∈ l) : base + k ∈ l.map (base + ·) := List.mem_map.2 ⟨k, h, rfl⟩

theorem commute {cf : List Nat → CallF} (hp : PureC cf) {base i j : Nat} {x y : DOp} {fr fr1 fr2 : List AV} {h h1 h2 : Heap} (hij : i ≠ j) (hxy : pairOk x i y j = true)
    (ex : stepD cf base i x (fr, h) = some (fr1, h1)) (ey : stepD cf base j y (fr1, h1) = some (fr2, h2)) :
    ∃ st, stepD cf base j y (fr, h) = some st ∧ stepD cf base i x st = some (fr2, h2) := by
  simp only [pairOk, Bool.and_eq_true, Bool.or_eq_true] at hxy
  obtain ⟨⟨⟨⟨ha1, ha2⟩, hc⟩, hf1⟩, hf2⟩ := hxy
  obtain ⟨a1, a2⟩ := apartA_spec ha1
  obtain ⟨b1, b2⟩ := apartA_spec ha2
  simp only [stepD, evOp, Option.map_eq_some_iff, Prod.mk.injEq] at ex ey
  obtain ⟨⟨vx, h1'⟩, ex, rfl, rfl⟩ := ex
  obtain ⟨⟨vy, h2'⟩, ey, rfl, rfl⟩ := ey
  rw [evCore_put _ _ _ _ _ _ _ _ _ (fun t ht => a1 t ht)] at ey
  -- it is enough to have both on the old frame
  have fin : ∀ hy, evCore (cf (y.forb.map (base + ·))) (hide h (y.forb.map (base + ·))) (base + j) (y.wr.map fun l => l.map (base + ·)) y.op fr h = some (vy, hy) →
      evCore (cf (x.forb.map (base + ·))) (hide hy (x.forb.map (base + ·))) (base + i) (x.wr.map fun l => l.map (base + ·)) x.op fr hy = some (vx, h2') →
      ∃ st, stepD cf base j y (fr, h) = some st ∧ stepD cf base i x st = some (putA (putA fr x.op.dst vx) y.op.dst vy, h2') := by
    intro hy q1 q2
    refine ⟨(putA fr y.op.dst vy, hy), by simp [stepD, evOp, q1], ?_⟩
    simp only [stepD, evOp]
    rw [evCore_put _ _ _ _ _ _ _ _ _ (fun t ht => b1 t ht), q2]
    simp only [Option.map_some]
    rw [putA_comm fr vx vy a2]
  have makeX : x.op.cl = 2 → base + i ∈ y.forb.map (base + ·) := by
    intro e
    rcases hf1 with q | q
    · simp [e] at q
    · exact mem_base' (by simpa using q)
  have makeY : y.op.cl = 2 → base + j ∈ x.forb.map (base + ·) := by
    intro e
    rcases hf2 with q | q
    · simp [e] at q
    · exact mem_base' (by simpa using q)
  have chX : x.op.cl = 3 → y.op.cl ≠ 0 → ∃ l, x.wr = some l ∧ y.op.cl ≤ 2 ∧ ∀ s ∈ l, base + s ∈ y.forb.map (base + ·) ∧ base + s ≠ base + j := by
    intro e1 e2
    simp only [clsOk, e1] at hc
    cases hw : x.wr with
    | none => simp [hw, e2] at hc; try (simp [hc.1] at hc; try omega)
    | some l =>
      refine ⟨l, rfl, ?_, ?_⟩
      · simp [hw, e2] at hc
        omega
      · have hy2 : y.op.cl ≤ 2 := by simp [hw, e2] at hc; omega
        have hy3 : ¬ y.op.cl = 3 := by omega
        simp [hw, e2, hy3] at hc
        intro s hs
        obtain ⟨q1, q2⟩ := hc.2 s hs
        exact ⟨mem_base' q1, by omega⟩
  have chY : y.op.cl = 3 → x.op.cl ≠ 0 → ∃ l, y.wr = some l ∧ x.op.cl ≤ 2 ∧ ∀ s ∈ l, base + s ∈ x.forb.map (base + ·) ∧ base + s ≠ base + i := by
    intro e1 e2
    simp only [clsOk, e1] at hc
    cases hw : y.wr with
    | none => simp [hw, e2] at hc; try omega
    | some l =>
      have hx2 : x.op.cl ≤ 2 := by simp [hw, e2] at hc; omega
      have hx3 : ¬ x.op.cl = 3 := by omega
      refine ⟨l, rfl, hx2, ?_⟩
      simp [hw, e2, hx3] at hc
      intro s hs
      obtain ⟨q1, q2⟩ := hc.2 s hs
      exact ⟨mem_base' q1, by omega⟩
  have kx := core_kind hp ex
  have ky := core_kind hp ey
  cases kx with
  | quiet hallx =>
    refine fin h2' ey (hallx h2' fun hcx => ?_)
    cases ky with
    | quiet _ => rfl
    | make cs hc2 _ => exact hide_set (makeY hc2)
    | change _ hc3 _ _ hall =>
      obtain ⟨l, hl, _, hs⟩ := chY hc3 (by omega)
      obtain ⟨t, cs, ht, _, _, rfl, _⟩ := hall (l.map (base + ·)) (by rw [hl]; rfl)
      obtain ⟨k, hk, rfl⟩ := mem_base ht
      exact hide_set (hs k hk).1
  | make cs hc2 hallx =>
    cases ky with
    | quiet hally => exact fin h (hally h fun _ => (hide_set (makeX hc2)).symm) (hallx h)
    | make cs' hc2' hally =>
      refine fin _ (hally h) ?_
      rw [hallx, List.set_comm _ _ (by omega)]
    | change _ hc3 _ _ hall =>
      obtain ⟨l, hl, _, hs⟩ := chY hc3 (by omega)
      obtain ⟨t, cs', ht, _, _, rfl, hally⟩ := hall (l.map (base + ·)) (by rw [hl]; rfl)
      obtain ⟨k, hk, rfl⟩ := mem_base ht
      have hne := (hs k hk).2
      refine fin _ (hally h ?_) ?_
      · rw [look_set, if_neg]
        rintro ⟨e, _⟩
        exact hne e.symm
      · rw [hallx, List.set_comm _ _ hne]
  | change _ hc3 _ _ hallx =>
    by_cases hy0 : y.op.cl = 0
    · cases ky with
      | quiet hally => exact fin h (hally h fun e => by omega) ex
      | make cs hc _ => omega
      | change _ hc _ _ _ => omega
    · obtain ⟨l, hl, hy2, hs⟩ := chX hc3 hy0
      obtain ⟨t, cs, ht, htl, htn, rfl, hallx2⟩ := hallx (l.map (base + ·)) (by rw [hl]; rfl)
      obtain ⟨k, hk, rfl⟩ := mem_base ht
      obtain ⟨m1, m2⟩ := hs k hk
      cases ky with
      | quiet hally => exact fin h (hally h fun _ => (hide_set m1).symm) ex
      | make cs' hc _ =>
        rename_i hally
        refine fin _ (hally h) ?_
        rw [hallx2 _ (by rw [look_set, if_neg]; rintro ⟨e, _⟩; exact m2 e.symm), List.set_comm _ _ m2]
      | change _ hc _ _ _ => omega
end Go.Ev
