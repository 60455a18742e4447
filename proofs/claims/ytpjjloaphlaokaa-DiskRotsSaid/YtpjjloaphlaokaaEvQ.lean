/- A region whose order is open: any order does what the order of the text does. -/
import Derived.Test.YtpjjloaphlaokaaEvP
set_option linter.unusedVariables false
set_option linter.unusedSimpArgs false
set_option linter.unnecessarySimpa false
namespace Go.Ev
open Go

theorem opv_put (fr : List AV) (d : Option Nat) (v : AV) (x : Operand) (hx : ∀ t, x = .tmp t → d ≠ some t) : opv (putA fr d v) x = opv fr x := by
  cases x with
  | tmp t =>
    cases d with
    | none => rfl
    | some d =>
      have : d ≠ t := fun e => hx t rfl (by rw [e])
      simp [opv, putA, List.getElem?_set_ne this]
  | _ => rfl
/-- Only what it looks at matters. -/
theorem evCore_put (cf : CallF) (g : Look) (s : Nat) (wr : Option (List Nat)) (o : AOp) (fr : List AV) (h : Heap) (d : Option Nat) (v : AV) (hd : ∀ t, d = some t → t ∉ o.looks) :
    evCore cf g s wr o (putA fr d v) h = evCore cf g s wr o fr h := by
  have h1 : wantA (putA fr d v) o.guard = wantA fr o.guard := by
    cases hg : o.guard with
    | none => rfl
    | some p =>
      obtain ⟨t, b⟩ := p
      cases d with
      | none => rfl
      | some d =>
        have : d ≠ t := fun e => hd d rfl (by subst e; simp [AOp.looks, hg])
        simp [wantA, putA, List.getElem?_set_ne this]
  have h2 : o.args.map (opv (putA fr d v)) = o.args.map (opv fr) := List.map_congr_left fun x hx => opv_put fr d v x fun t e ed => hd t ed (by
    subst e
    simp only [AOp.looks, List.mem_append, List.mem_filterMap]
    exact .inl ⟨.tmp t, hx, rfl⟩)
  unfold evCore
  rw [h1, h2]

theorem evR_cls0 (g g' : Look) (i : I) (args : List AV) (hi : i.cls = 0) : evR g i args = evR g' i args := by
  cases i with
  | load ag k => simp [I.cls] at hi
  | b2s => simp [I.cls] at hi
  | iaddr arr sz => cases arr <;> rfl
  | len s => cases s <;> rfl
  | _ => rfl

/-- Calls in such a region leave all as it is, and look only at what they may. -/
def PureC (cf : List Nat → CallF) : Prop := ∀ fb f args h v h', cf fb f args h = some (v, h') → h' = h ∧ ∀ h2, hide h2 fb = hide h fb → cf fb f args h2 = some (v, h2)

theorem hide_set {h : Heap} {fb : List Nat} {s : Nat} {x : Option (List AV)} (hs : s ∈ fb) : hide (h.set s x) fb = hide h fb := by
  funext o
  unfold hide
  split
  · rfl
  · rename_i hn
    rw [look_set]
    rw [if_neg]
    rintro ⟨rfl, _⟩
    simp at hn
    exact hn hs

theorem cls_cases (o : AOp) : (o.ins.cls = 0 ∨ o.ins.cls = 1 ∨ o.ins.cls = 2 ∨ o.ins.cls = 3 ∨ o.ins.cls = 4) := by cases o.ins <;> simp [I.cls]
/-- Objects put at places, one after the other. -/
def setL : List (Nat × Option (List AV)) → Heap → Heap
  | [], h => h
  | (t, x) :: us, h => setL us (h.set t x)
theorem setL_len : ∀ (us : List (Nat × Option (List AV))) (h : Heap), (setL us h).length = h.length
  | [], _ => rfl
  | (t, x) :: us, h => by rw [setL, setL_len us]; simp
theorem setL_hide {fb : List Nat} : ∀ (us : List (Nat × Option (List AV))) (h : Heap), (∀ p ∈ us, p.1 ∈ fb) → hide (setL us h) fb = hide h fb
  | [], _, _ => rfl
  | (t, x) :: us, h, hp => by rw [setL, setL_hide us _ fun p q => hp p (List.mem_cons_of_mem _ q)]; exact hide_set (hp _ List.mem_cons_self)
theorem setL_comm {s : Nat} {x : Option (List AV)} : ∀ (us : List (Nat × Option (List AV))) (h : Heap), (∀ p ∈ us, p.1 ≠ s) → setL us (h.set s x) = (setL us h).set s x
  | [], _, _ => rfl
  | (t, y) :: us, h, hp => by
    rw [setL, setL, ← setL_comm us _ fun p q => hp p (List.mem_cons_of_mem _ q), List.set_comm _ _ (fun e => hp _ List.mem_cons_self e.symm)]
/-- The kinds of steps: it leaves the objects as they are; it lays one; it changes some. -/
inductive Kind (cf : List Nat → CallF) (fb : List Nat) (s : Nat) (wr : Option (List Nat)) (o : AOp) (fr : List AV) (h : Heap) (v : AV) : Heap → Prop
  | quiet (hall : ∀ h2, (o.cl = 1 → hide h2 fb = hide h fb) → evCore (cf fb) (hide h2 fb) s wr o fr h2 = some (v, h2)) : Kind cf fb s wr o fr h v h
  | make (cs : List AV) (hc : o.cl = 2) (hall : ∀ h2, evCore (cf fb) (hide h2 fb) s wr o fr h2 = some (v, h2.set s (some cs))) : Kind cf fb s wr o fr h v (h.set s (some cs))
  | change (h' : Heap) (hc : o.cl = 3) (hd : ∀ k, k < h.length → k ≠ s → look h k = none → look h' k = none) (hlen : h.length ≤ h'.length)
      (hall : ∀ l, wr = some l → ∃ us : List (Nat × Option (List AV)), (∀ p ∈ us, p.1 ∈ l) ∧ h' = setL us h ∧ ∀ h2, (∀ t ∈ l, look h2 t = look h t) → evCore (cf fb) (hide h2 fb) s wr o fr h2 = some (v, setL us h2)) : Kind cf fb s wr o fr h v h'

theorem evW_dead {h h' : Heap} {i : I} {args : List AV} {v : AV} (e : evW h i args = some (v, h')) : (∀ k, k < h.length → look h k = none → look h' k = none) ∧ h.length ≤ h'.length := by
  have app : ∀ (h0 : Heap) (x : Option (List AV)), h0.length = h.length → (∀ k, look h k = none → look h0 k = none) → (∀ k, k < h.length → look h k = none → look (h0 ++ [x]) k = none) ∧ h.length ≤ (h0 ++ [x]).length := by
    intro h0 x hl hd
    refine ⟨fun k hk hn => ?_, by simp; omega⟩
    rw [look_app, if_neg (by omega)]
    exact hd k hn
  have st : ∀ (o : Nat) (cs : List AV) (x : List AV), look h o = some cs → (∀ k, k < h.length → look h k = none → look (h.set o (some x)) k = none) ∧ h.length ≤ (h.set o (some x)).length := by
    intro o cs x ho
    refine ⟨fun k hk hn => ?_, by simp⟩
    rw [look_set, if_neg]
    · exact hn
    · rintro ⟨rfl, _⟩
      rw [ho] at hn
      cases hn
  unfold evW at e
  split at e
  · split at e
    · split at e
      · rename_i cs ys hl hy
        split at e
        · simp only [Option.some.injEq, Prod.mk.injEq] at e
          obtain ⟨rfl, rfl⟩ := e
          exact st _ _ _ hl
        · cases e
      · cases e
    · cases e
  · split at e
    · split at e
      · split at e
        · split at e
          · simp only [Option.some.injEq, Prod.mk.injEq] at e
            obtain ⟨rfl, rfl⟩ := e
            exact ⟨fun _ _ h => h, Nat.le_refl _⟩
          · split at e
            · simp only [Option.some.injEq, Prod.mk.injEq] at e
              obtain ⟨rfl, rfl⟩ := e
              refine app _ _ (by simp) fun k hk => ?_
              rw [look_set]
              split
              · rfl
              · exact hk
            · cases e
        · split at e
          · simp only [Option.some.injEq, Prod.mk.injEq] at e
            obtain ⟨rfl, rfl⟩ := e
            exact ⟨fun _ _ h => h, Nat.le_refl _⟩
          · split at e
            · split at e
              · split at e
                · simp only [Option.some.injEq, Prod.mk.injEq] at e
                  obtain ⟨rfl, rfl⟩ := e
                  exact app _ _ rfl fun _ h => h
                · cases e
              · cases e
            · cases e
        · cases e
      · cases e
    · cases e
  · split at e
    · split at e
      · split at e
        · rename_i hl
          simp only [Option.some.injEq, Prod.mk.injEq] at e
          obtain ⟨rfl, rfl⟩ := e
          exact st _ _ _ hl
        · cases e
      · cases e
    · cases e
  · split at e
    · split at e
      · split at e
        · simp only [Option.some.injEq, Prod.mk.injEq] at e
          obtain ⟨rfl, rfl⟩ := e
          refine ⟨fun k hk hn => ?_, by simp⟩
          rw [look_set]
          split
          · rfl
          · exact hn
        · cases e
      · cases e
    · cases e
  · cases e

theorem slC_look {g g' : Look} {sz o off m sz' : Nat} {cap : Option Nat} (h : g' o = g o) : slC g' sz (.ref o off m sz' cap) = slC g sz (.ref o off m sz' cap) := by
  simp only [slC, rdM, h]
/-- An append at its own place. -/
theorem evWS_kind {l : List Nat} {h h' : Heap} {s sz b : Nat} {args : List AV} {v : AV} (e : evWS l h s sz b args = some (v, h')) :
    ∃ us : List (Nat × Option (List AV)), (∀ p ∈ us, p.1 ∈ l) ∧ (∀ p ∈ us, p.1 ≠ s → p.2 = none) ∧ h' = setL us h ∧ ∀ h2, (∀ t ∈ l, look h2 t = look h t) → evWS l h2 s sz b args = some (v, setL us h2) := by
  unfold evWS at e
  split at e
  case h_2 => cases e
  rename_i x y
  split at e
  case h_2 => cases e
  rename_i n xs k ys h1 h2
  split at e
  · rename_i o off m sz' cap
    split at e
    case isFalse => cases e
    rename_i hl
    have ho : o ∈ l := by simpa using hl.1
    have hs : s ∈ l := by simpa using hl.2
    have key : ∀ h2, (∀ t ∈ l, look h2 t = look h t) → slC (look h2) sz (.ref o off m sz' cap) = some (n, xs) := fun h2 q => by rw [slC_look (q o ho)]; exact h1
    split at e
    · rename_i hk
      simp only [Option.some.injEq, Prod.mk.injEq] at e
      obtain ⟨rfl, rfl⟩ := e
      refine ⟨[], by simp, by simp, rfl, fun h3 q => ?_⟩
      simp only [evWS, key h3 q, h2]
      rw [if_pos hl, if_pos hk]
      rfl
    · rename_i hk
      split at e
      · rename_i hbig
        simp only [Option.some.injEq, Prod.mk.injEq] at e
        obtain ⟨rfl, rfl⟩ := e
        refine ⟨[(o, none), (s, some (xs ++ ys))], by simp [ho, hs], by simp, rfl, fun h3 q => ?_⟩
        simp only [evWS, key h3 q, h2]
        rw [if_pos hl, if_neg hk, if_pos hbig]
        rfl
      · cases e
  · rename_i isNil m cap zs
    split at e
    case isFalse => cases e
    rename_i hl
    have hs : s ∈ l := by simpa using hl
    have key : ∀ h2 : Heap, slC (look h2) sz (.sl isNil m cap zs) = some (n, xs) := fun h2 => h1
    split at e
    · rename_i hk
      simp only [Option.some.injEq, Prod.mk.injEq] at e
      obtain ⟨rfl, rfl⟩ := e
      refine ⟨[], by simp, by simp, rfl, fun h3 q => ?_⟩
      simp only [evWS, key h3, h2]
      rw [if_pos hl, if_pos hk]
      rfl
    · rename_i hk
      split at e
      · rename_i hbig
        split at e
        · rename_i c
          split at e
          · rename_i hc
            simp only [Option.some.injEq, Prod.mk.injEq] at e
            obtain ⟨rfl, rfl⟩ := e
            refine ⟨[(s, some (xs ++ ys))], by simp [hs], by simp, rfl, fun h3 q => ?_⟩
            simp only [evWS, key h3, h2]
            rw [if_pos hl, if_neg hk, if_pos hbig, if_pos hc]
            rfl
          · cases e
        · cases e
      · cases e
  · cases e
theorem setL_dead : ∀ (us : List (Nat × Option (List AV))) (h : Heap) (k s : Nat), (∀ p ∈ us, p.1 ≠ s → p.2 = none) → k ≠ s → look h k = none → look (setL us h) k = none
  | [], _, _, _, _, _, hn => hn
  | (t, x) :: us, h, k, s, hp, hks, hn => by
    refine setL_dead us _ k s (fun p q => hp p (List.mem_cons_of_mem _ q)) hks ?_
    rw [look_set]
    split
    · rename_i hc
      obtain ⟨rfl, _⟩ := hc
      exact hp _ List.mem_cons_self hks
    · exact hn

theorem cl_of {o : AOp} (h : o.ins ≠ .mcall) : o.cl = match o.ins.cls with | 4 => 1 | c => c := by
  unfold AOp.cl
  split
  · rename_i e; exact absurd e h
  · rfl
theorem cl_le {o : AOp} {k : Nat} (h : o.ins.cls = k) (hk : k ≠ 4) : o.cl = k := by
  rw [cl_of (by intro e; rw [e] at h; exact hk h.symm), h]
  split
  · exact absurd rfl hk
  · rfl
theorem cl_call {o : AOp} (h : o.ins.cls = 4) (h2 : o.ins ≠ .mcall) : o.cl = 1 := by rw [cl_of h2, h]; rfl
theorem core_kind {cf : List Nat → CallF} (hp : PureC cf) {fb : List Nat} {s : Nat} {wr : Option (List Nat)} {o : AOp} {fr : List AV} {h h' : Heap} {v : AV} (e : evCore (cf fb) (hide h fb) s wr o fr h = some (v, h')) :
    Kind cf fb s wr o fr h v h' := by
  have e0 := e
  unfold evCore at e
  split at e
  · cases e
  · rename_i hw
    simp only [Option.some.injEq, Prod.mk.injEq] at e
    obtain ⟨rfl, rfl⟩ := e
    exact .quiet fun h2 _ => by unfold evCore; rw [hw]
  · rename_i hw
    split at e
    · rename_i hcls
      simp only [Option.map_eq_some_iff, Prod.mk.injEq] at e
      obtain ⟨⟨cs, mk⟩, hev, rfl, rfl⟩ := e
      refine .make cs (cl_le hcls (by decide)) fun h2 => ?_
      unfold evCore
      rw [hw]
      simp only [hcls, hev]
      rfl
    · rename_i hcls
      have hch : (∀ k, k < h.length → k ≠ s → look h k = none → look h' k = none) ∧ h.length ≤ h'.length := by
        unfold evW3 at e
        split at e
        · obtain ⟨q1, q2⟩ := evW_dead e
          exact ⟨fun k hk _ hn => q1 k hk hn, q2⟩
        · split at e
          · obtain ⟨us, q1, q2, rfl, q3⟩ := evWS_kind e
            exact ⟨fun k hk hks hn => setL_dead us h k s q2 hks hn, by rw [setL_len]; exact Nat.le_refl _⟩
          · split at e
            · obtain ⟨q1, q2⟩ := evW_dead e
              exact ⟨fun k hk _ hn => q1 k hk hn, q2⟩
            · cases e
          · cases e
      refine .change h' (cl_le hcls (by decide)) hch.1 hch.2 fun l hl => ?_
      subst hl
      have e9 := e
      simp only [evW3] at e
      split at e
      · rename_i sz b heqi
        obtain ⟨us, q1, q2, q3, q4⟩ := evWS_kind e
        refine ⟨us, q1, q3, fun h2 h3 => ?_⟩
        unfold evCore
        rw [hw]
        simp only [hcls]
        rw [heqi]
        exact q4 h2 h3
      · rename_i k heqi
        split at e
        · rename_i hmw
          have hmw0 := hmw
          simp only [mayWrite] at hmw
          split at hmw
          · rename_i k' t off args heqi' heqa
            cases heqi'
            simp only [heqa, evW] at e
            split at e
            · rename_i o' off' vv heq
              simp only [List.cons.injEq, AV.ptr.injEq] at heq
              obtain ⟨⟨rfl, rfl⟩, hargs⟩ := heq
              split at e
              · rename_i cs ys hlk hys
                split at e
                · rename_i hcond
                  simp only [Option.some.injEq, Prod.mk.injEq] at e
                  obtain ⟨rfl, rfl⟩ := e
                  have htl : t ∈ l := by simpa using hmw
                  refine ⟨[(t, _)], by simp [htl], rfl, fun h2 h3 => ?_⟩
                  unfold evCore
                  rw [hw]
                  simp only [hcls]
                  rw [heqi]
                  simp only [evW3]
                  rw [if_pos hmw0]
                  simp only [heqa, hargs, evW, h3 t htl, hlk, hys]
                  rw [if_pos hcond]
                  rfl
                · cases e
              · cases e
            · cases e
          · simp at hmw
        · cases e
      · cases e
    · rename_i hcls
      split at e
      · rename_i f cs xs heq
        split at e
        · rename_i hins
          obtain ⟨h1, h2⟩ := hp fb f _ h v h' e
          subst h1
          refine .quiet fun h3 h4 => ?_
          unfold evCore
          rw [hw]
          simp only [hcls, heq, hins]
          exact h2 h3 (h4 (cl_call hcls (by rw [hins]; exact fun e => nomatch e)))
        · rename_i hins
          split at e
          · rename_i hnr
            simp only [Option.map_eq_some_iff, Prod.mk.injEq] at e
            obtain ⟨⟨m, sz, cap, ys⟩, hown, rfl, rfl⟩ := e
            refine .make ys (by simp [AOp.cl, hins]) fun h2 => ?_
            unfold evCore
            rw [hw]
            simp only [hcls, heq, hins]
            rw [if_pos hnr, hown]
            rfl
          · cases e
        · rename_i hb hmc
          obtain ⟨h1, h2⟩ := hp fb f _ h v h' e
          subst h1
          refine .quiet fun h3 h4 => ?_
          unfold evCore
          rw [hw]
          simp only [hcls, heq]
          exact h2 h3 (h4 (cl_call hcls hmc))
      · cases e
    · rename_i hn2 hn3 hn4
      simp only [Option.map_eq_some_iff, Prod.mk.injEq] at e
      obtain ⟨v', hev, rfl, rfl⟩ := e
      refine .quiet fun h2 h3 => ?_
      have hcl : o.ins.cls = 0 ∨ o.ins.cls = 1 := by
        rcases cls_cases o with h1 | h1 | h1 | h1 | h1
        · exact .inl h1
        · exact .inr h1
        · exact absurd h1 hn2
        · exact absurd h1 hn3
        · exact absurd h1 hn4
      have : evR (hide h2 fb) o.ins (o.args.map (opv fr)) = evR (hide h fb) o.ins (o.args.map (opv fr)) := by
        rcases hcl with h1 | h1
        · exact evR_cls0 _ _ _ _ h1
        · rw [h3 (cl_le h1 (by decide))]
      unfold evCore
      rw [hw]
      rcases hcl with h1 | h1 <;> simp [h1, this, hev]

def stepD (cf : List Nat → CallF) (base k : Nat) (o : DOp) (st : List AV × Heap) : Option (List AV × Heap) :=
  evOp (cf (o.forb.map (base + ·))) (hide st.2 (o.forb.map (base + ·))) (base + k) (o.wr.map fun l => l.map (base + ·)) o.op st.1 st.2

theorem apartA_spec {x y : AOp} (h : apartA x y = true) : (∀ t, x.dst = some t → t ∉ y.looks) ∧ (∀ t, x.dst = some t → y.dst ≠ some t) := by
  refine ⟨fun t ht => ?_, fun t ht => ?_⟩ <;> simp [apartA, ht] at h
  · exact h.1
  · exact h.2
theorem putA_comm (fr : List AV) {d e : Option Nat} (u v : AV) (h : ∀ t, d = some t → e ≠ some t) : putA (putA fr d u) e v = putA (putA fr e v) d u := by
  cases d with
  | none => rfl
  | some d =>
    cases e with
    | none => rfl
    | some e =>
      have hne : d ≠ e := fun q => h d rfl (by rw [q])
      exact List.set_comm _ _ hne
theorem mem_base {base s : Nat} {l : List Nat} (h : s ∈ l.map (base + ·)) : ∃ k, k ∈ l ∧ s = base + k := by
  simp only [List.map_eq_flatMap, List.mem_flatMap, List.mem_singleton] at h
  obtain ⟨k, h1, h2⟩ := h
  exact ⟨k, h1, h2⟩
theorem mem_base' {base k : Nat} {l : List Nat} (h : k ∈ l) : base + k ∈ l.map (base + ·) := List.mem_map.2 ⟨k, h, rfl⟩

theorem commute {cf : List Nat → CallF} (hp : PureC cf) {base i j : Nat} {x y : DOp} {fr fr1 fr2 : List AV} {h h1 h2 : Heap} (hij : i ≠ j) (hxy : pairOk x i y j = true)
    (ex : stepD cf base i x (fr, h) = some (fr1, h1)) (ey : stepD cf base j y (fr1, h1) = some (fr2, h2)) :
    ∃ st, stepD cf base j y (fr, h) = some st ∧ stepD cf base i x st = some (fr2, h2) := by
  simp only [pairOk, Bool.and_eq_true, Bool.or_eq_true] at hxy
  obtain ⟨⟨⟨⟨ha1, ha2⟩, hc⟩, hf1⟩, hf2⟩ := hxy
  obtain ⟨a1, a2⟩ := apartA_spec ha1
  obtain ⟨b1, b2⟩ := apartA_spec ha2
  simp only [stepD, evOp, Option.map_eq_some_iff, Prod.mk.injEq] at ex ey
  obtain ⟨⟨vx, h1'⟩, ex, rfl, rfl⟩ := ex
  obtain ⟨⟨vy, h2'⟩, ey, rfl, rfl⟩ := ey
  rw [evCore_put _ _ _ _ _ _ _ _ _ (fun t ht => a1 t ht)] at ey
  -- it is enough to have both on the old frame
  have fin : ∀ hy, evCore (cf (y.forb.map (base + ·))) (hide h (y.forb.map (base + ·))) (base + j) (y.wr.map fun l => l.map (base + ·)) y.op fr h = some (vy, hy) →
      evCore (cf (x.forb.map (base + ·))) (hide hy (x.forb.map (base + ·))) (base + i) (x.wr.map fun l => l.map (base + ·)) x.op fr hy = some (vx, h2') →
      ∃ st, stepD cf base j y (fr, h) = some st ∧ stepD cf base i x st = some (putA (putA fr x.op.dst vx) y.op.dst vy, h2') := by
    intro hy q1 q2
    refine ⟨(putA fr y.op.dst vy, hy), by simp [stepD, evOp, q1], ?_⟩
    simp only [stepD, evOp]
    rw [evCore_put _ _ _ _ _ _ _ _ _ (fun t ht => b1 t ht), q2]
    simp only [Option.map_some]
    rw [putA_comm fr vx vy a2]
  have makeX : x.op.cl = 2 → base + i ∈ y.forb.map (base + ·) := by
    intro e
    rcases hf1 with q | q
    · simp [e] at q
    · exact mem_base' (by simpa using q)
  have makeY : y.op.cl = 2 → base + j ∈ x.forb.map (base + ·) := by
    intro e
    rcases hf2 with q | q
    · simp [e] at q
    · exact mem_base' (by simpa using q)
  have chX : x.op.cl = 3 → y.op.cl ≠ 0 → ∃ l, x.wr = some l ∧ y.op.cl ≤ 2 ∧ ∀ s ∈ l, base + s ∈ y.forb.map (base + ·) ∧ base + s ≠ base + j := by
    intro e1 e2
    simp only [clsOk, e1] at hc
    cases hw : x.wr with
    | none => simp [hw, e2] at hc; try (simp [hc.1] at hc; try omega)
    | some l =>
      refine ⟨l, rfl, ?_, ?_⟩
      · simp [hw, e2] at hc
        omega
      · have hy2 : y.op.cl ≤ 2 := by simp [hw, e2] at hc; omega
        have hy3 : ¬ y.op.cl = 3 := by omega
        simp [hw, e2, hy3] at hc
        intro s hs
        obtain ⟨q1, q2⟩ := hc.2 s hs
        exact ⟨mem_base' q1, by omega⟩
  have chY : y.op.cl = 3 → x.op.cl ≠ 0 → ∃ l, y.wr = some l ∧ x.op.cl ≤ 2 ∧ ∀ s ∈ l, base + s ∈ x.forb.map (base + ·) ∧ base + s ≠ base + i := by
    intro e1 e2
    simp only [clsOk, e1] at hc
    cases hw : y.wr with
    | none => simp [hw, e2] at hc; try omega
    | some l =>
      have hx2 : x.op.cl ≤ 2 := by simp [hw, e2] at hc; omega
      have hx3 : ¬ x.op.cl = 3 := by omega
      refine ⟨l, rfl, hx2, ?_⟩
      simp [hw, e2, hx3] at hc
      intro s hs
      obtain ⟨q1, q2⟩ := hc.2 s hs
      exact ⟨mem_base' q1, by omega⟩
  have kx := core_kind hp ex
  have ky := core_kind hp ey
  cases kx with
  | quiet hallx =>
    refine fin h2' ey (hallx h2' fun hcx => ?_)
    cases ky with
    | quiet _ => rfl
    | make cs hc2 _ => exact hide_set (makeY hc2)
    | change _ hc3 _ _ hall =>
      obtain ⟨l, hl, _, hs⟩ := chY hc3 (by omega)
      obtain ⟨us, hus, rfl, _⟩ := hall (l.map (base + ·)) (by rw [hl]; rfl)
      exact setL_hide us _ fun p hp => by
        obtain ⟨k, hk, hpk⟩ := mem_base (hus p hp)
        rw [hpk]
        exact (hs k hk).1
  | make cs hc2 hallx =>
    cases ky with
    | quiet hally => exact fin h (hally h fun _ => (hide_set (makeX hc2)).symm) (hallx h)
    | make cs' hc2' hally =>
      refine fin _ (hally h) ?_
      rw [hallx, List.set_comm _ _ (by omega)]
    | change _ hc3 _ _ hall =>
      obtain ⟨l, hl, _, hs⟩ := chY hc3 (by omega)
      obtain ⟨us, hus, rfl, hally⟩ := hall (l.map (base + ·)) (by rw [hl]; rfl)
      have hne : ∀ t ∈ l.map (base + ·), t ≠ base + i := fun t ht => by
        obtain ⟨k, hk, rfl⟩ := mem_base ht
        exact (hs k hk).2
      refine fin _ (hally h fun t ht => ?_) ?_
      · rw [look_set, if_neg]
        rintro ⟨e, _⟩
        exact hne t ht e.symm
      · rw [hallx, setL_comm us _ fun p hp => hne _ (hus p hp)]
  | change _ hc3 _ _ hallx =>
    by_cases hy0 : y.op.cl = 0
    · cases ky with
      | quiet hally => exact fin h (hally h fun e => by omega) ex
      | make cs hc _ => omega
      | change _ hc _ _ _ => omega
    · obtain ⟨l, hl, hy2, hs⟩ := chX hc3 hy0
      obtain ⟨us, hus, rfl, hallx2⟩ := hallx (l.map (base + ·)) (by rw [hl]; rfl)
      have m1 : ∀ t ∈ l.map (base + ·), t ∈ y.forb.map (base + ·) := fun t ht => by
        obtain ⟨k, hk, rfl⟩ := mem_base ht
        exact (hs k hk).1
      have m2 : ∀ t ∈ l.map (base + ·), t ≠ base + j := fun t ht => by
        obtain ⟨k, hk, rfl⟩ := mem_base ht
        exact (hs k hk).2
      cases ky with
      | quiet hally => exact fin h (hally h fun _ => (setL_hide us _ fun p hp => m1 _ (hus p hp)).symm) ex
      | make cs' hc _ =>
        rename_i hally
        refine fin _ (hally h) ?_
        rw [hallx2 _ (fun t ht => by rw [look_set, if_neg]; rintro ⟨e, _⟩; exact m2 t ht e.symm), setL_comm us _ fun p hp => m2 _ (hus p hp)]
      | change _ hc _ _ _ => omega
end Go.Ev
