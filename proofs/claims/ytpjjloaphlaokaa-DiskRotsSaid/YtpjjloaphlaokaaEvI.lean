/- Operations that make or change objects: the abstract heap. -/
import Derived.Test.YtpjjloaphlaokaaEvH
set_option linter.unusedVariables false
set_option linter.unusedSimpArgs false
set_option linter.unnecessarySimpa false
namespace Go.Ev
open Go

section
variable {P : Program} {B : Nat → Prop} {h : Heap} {φ : Phi} {w : World}

theorem look_set (h : Heap) (s o : Nat) (x : Option (List AV)) : look (h.set s x) o = if s = o ∧ s < h.length then x else look h o := by
  unfold look
  rw [List.getElem?_set]
  by_cases hso : s = o
  · subst hso
    by_cases hs : s < h.length
    · simp [hs]
    · simp [hs]
  · simp [hso]
theorem look_lt {h : Heap} {o : Nat} {cs : List AV} (hl : look h o = some cs) : o < h.length := by
  unfold look at hl
  rcases Nat.lt_or_ge o h.length with h1 | h1
  · exact h1
  · simp [List.getElem?_eq_none h1] at hl

def upd (φ : Phi) (s : Nat) (p : Nat × Nat) : Phi := fun o => if o = s then some p else φ o

/-- An object that is laid at a slot that was free, over a block that is new, or whose object goes. -/
theorem HR.lay (hr : HR B h φ w) {h1 : Heap} (hlen : h.length ≤ h1.length) (hsub : ∀ o cs, look h1 o = some cs → look h o = some cs) {s : Nat} (hs : s < h1.length) (hl : look h1 s = none) (hφ : φ s = none)
    {w' : World} {b base : Nat} {c : Array Value} {T : TypeId} {fz : Nat × Nat} {xs : List AV}
    (hsz : w.heap.size ≤ w'.heap.size) (hk : ∀ b', b' < w.heap.size → b' ≠ b → w'.heap[b']? = w.heap[b']?) (hsh : Shapes w w') (hos : w'.os = w.os) (htp : w'.tape = w.tape) (hout : w'.output = w.output)
    (hb : w'.heap[b]? = some (Obj.cells c T fz)) (hB : ¬ B b) (hO : ∀ o cs base', look h1 o = some cs → φ o ≠ some (b, base')) (hX : w.heap.size ≤ b ∨ Live h φ b)
    (hle : base + xs.length ≤ c.size) (hfz : ∀ j, j < c.size → w'.frozen? ⟨b, j, none⟩ = false)
    (hx : ∀ (j : Nat) (x : AV), xs[j]? = some x → ∃ v, c[base + j]? = some v ∧ v.oneCell' = true ∧ VR w (Own B h φ) φ x v) :
    HR B (h1.set s (some xs)) (upd φ s (b, base)) w' ∧ Stp φ (Live h φ) w (upd φ s (b, base)) (Live (h1.set s (some xs)) (upd φ s (b, base))) w' := by
  have hphi : ∀ o p, φ o = some p → upd φ s (b, base) o = some p := by
    intro o p e
    unfold upd
    by_cases ho : o = s
    · subst ho; rw [hφ] at e; cases e
    · rw [if_neg ho]; exact e
  have stp : Stp φ (Live h φ) w (upd φ s (b, base)) (Live (h1.set s (some xs)) (upd φ s (b, base))) w' := by
    refine ⟨hphi, hsz, fun b' h1 h2 => hk b' h1 (fun e => ?_), fun b' h1 h2 => ?_, hsh, hos, htp, hout⟩
    · subst e
      rcases hX with h3 | h3
      · omega
      · exact h2 h3
    · obtain ⟨o, cs, base', h2, h3⟩ := h2
      rw [look_set] at h2
      unfold upd at h3
      by_cases ho : o = s
      · subst ho
        simp only [if_true, Option.some.injEq, Prod.mk.injEq] at h3
        obtain ⟨rfl, _⟩ := h3
        exact hX.resolve_left (by omega)
      · rw [if_neg (fun e => ho e.1.symm)] at h2
        rw [if_neg ho] at h3
        exact ⟨o, cs, base', hsub o cs h2, h3⟩
  refine ⟨⟨fun b' h1 => Nat.lt_of_lt_of_le (hr.bsz b' h1) hsz, fun o cs h2 => ?_, fun o o' cs cs' b1 base1 base1' h2 h3 h4 h5 => ?_, fun o p e => ?_⟩, stp⟩
  · rw [look_set] at h2
    by_cases ho : s = o
    · subst ho
      simp only [hs, and_self, if_true, Option.some.injEq] at h2
      subst h2
      refine ⟨b, base, c, T, fz, by simp [upd], hb, hB, hle, hfz, fun j x e => ?_⟩
      obtain ⟨v, h2, h3, h4⟩ := hx j x e
      exact ⟨v, h2, h3, h4.stp stp⟩
    · rw [if_neg (fun e => ho e.1)] at h2
      obtain ⟨b1, base1, c1, T1, fz1, h3, h4, h5, h6, h7, h8⟩ := hr.live o cs (hsub o cs h2)
      have hb1 : b1 < w.heap.size := (Array.getElem?_eq_some_iff.1 h4).1
      have hne : b1 ≠ b := fun e => hO o cs base1 h2 (by rw [h3, e])
      refine ⟨b1, base1, c1, T1, fz1, hphi o _ h3, by rw [hk b1 hb1 hne]; exact h4, h5, h6, fun j hj => ?_, fun j x e => ?_⟩
      · rw [← h7 j hj]
        exact World.frozen?_of_block (w := w) (hk b1 hb1 hne)
      · obtain ⟨v, h9, h10, h11⟩ := h8 j x e
        exact ⟨v, h9, h10, h11.stp stp⟩
  · rw [look_set] at h2 h3
    unfold upd at h4 h5
    by_cases ho : o = s
    · by_cases ho' : o' = s
      · exact ho.trans ho'.symm
      · rw [if_neg (fun e => ho' e.1.symm)] at h3
        rw [if_pos ho] at h4
        rw [if_neg ho'] at h5
        cases h4
        exact absurd h5 (hO o' cs' base1' h3)
    · by_cases ho' : o' = s
      · rw [if_neg (fun e => ho e.1.symm)] at h2
        rw [if_neg ho] at h4
        rw [if_pos ho'] at h5
        cases h5
        exact absurd h4 (hO o cs base1 h2)
      · rw [if_neg (fun e => ho e.1.symm)] at h2
        rw [if_neg (fun e => ho' e.1.symm)] at h3
        rw [if_neg ho] at h4
        rw [if_neg ho'] at h5
        exact hr.inj o o' cs cs' b1 base1 base1' (hsub _ _ h2) (hsub _ _ h3) h4 h5
  · rw [List.length_set]
    unfold upd at e
    by_cases ho : o = s
    · subst ho; exact hs
    · rw [if_neg ho] at e; exact Nat.lt_of_lt_of_le (hr.dom o p e) hlen

/-- A new block. -/
theorem HR.new (hr : HR B h φ w) {h1 : Heap} (hlen : h.length ≤ h1.length) (hsub : ∀ o cs, look h1 o = some cs → look h o = some cs) {s : Nat} (hs : s < h1.length) (hl : look h1 s = none) (hφ : φ s = none)
    {w' : World} {c : Array Value} {T : TypeId} {fz : Nat × Nat} {xs : List AV} (hw : w'.heap = w.heap.push (Obj.cells c T fz)) (hos : w'.os = w.os) (htp : w'.tape = w.tape) (hout : w'.output = w.output)
    (hle : xs.length ≤ c.size) (hfz : ∀ j, j < c.size → ¬ (fz.1 ≤ j ∧ j < fz.2)) {vs : List Value} (hx : Cells w (Own B h φ) φ xs vs) (hv : ∀ (j : Nat) (v : Value), vs[j]? = some v → c[j]? = some v) :
    HR B (h1.set s (some xs)) (upd φ s (w.heap.size, 0)) w' ∧ Stp φ (Live h φ) w (upd φ s (w.heap.size, 0)) (Live (h1.set s (some xs)) (upd φ s (w.heap.size, 0))) w' := by
  have hnew : w'.heap[w.heap.size]? = some (Obj.cells c T fz) := by rw [hw]; simp
  refine hr.lay hlen hsub hs hl hφ (by rw [hw]; simp) (fun b' h1 h2 => ?_) (fun b' cs' T' fz' e => ?_) hos htp hout hnew (fun e => Nat.lt_irrefl _ (hr.bsz _ e)) (fun o cs base' h1 h2 => ?_) (.inl (Nat.le_refl _)) (by omega) (fun j hj => ?_) (fun j x e => ?_)
  · rw [hw, Array.getElem?_push, if_neg h2]
  · have : b' < w.heap.size := (Array.getElem?_eq_some_iff.1 e).1
    exact ⟨cs', fz', by rw [hw, Array.getElem?_push, if_neg (by omega)]; exact e, rfl⟩
  · obtain ⟨b1, base1, c1, T1, fz1, h3, h4, _⟩ := hr.live o cs (hsub o cs h1)
    rw [h2] at h3
    cases h3
    have := (Array.getElem?_eq_some_iff.1 h4).1
    omega
  · simp only [World.frozen?, hnew]
    have := hfz j hj
    obtain ⟨f1, f2⟩ := fz
    simp only [Bool.and_eq_false_iff, decide_eq_false_iff_not]
    simp only at this
    omega
  · have hj : j < vs.length := by rw [hx.1]; exact (List.getElem?_eq_some_iff.1 e).1
    have h2 := List.getElem?_eq_getElem hj
    exact ⟨vs[j], by rw [Nat.zero_add]; exact hv j _ h2, hx.2.2 _ (List.getElem_mem hj), hx.2.1 j x _ e h2⟩

/-- Cells set one by one, in one block. -/
theorem setCells_heap (b : Nat) : ∀ (vs : List Value) (o : Nat) (w : World) (c : Array Value) (T : TypeId) (fz : Nat × Nat), w.heap[b]? = some (Obj.cells c T fz) →
    ∃ c' : Array Value, (w.setCells b o vs).heap[b]? = some (Obj.cells c' T fz) ∧ c'.toList = splV c.toList o vs ∧ c'.size = c.size
  | [], o, w, c, T, fz, hb => ⟨c, hb, rfl, rfl⟩
  | v :: vs, o, w, c, T, fz, hb => by
    have h1 : (w.setCell ⟨b, o, none⟩ v).heap[b]? = some (Obj.cells (c.setIfInBounds o v) T fz) := by
      simp [World.setCell, Array.getElem?_modify, hb]
    obtain ⟨c', h2, h3, h4⟩ := setCells_heap b vs (o + 1) _ _ T fz h1
    exact ⟨c', h2, by rw [h3]; simp [splV], by rw [h4]; simp⟩
theorem setCells_other (b : Nat) : ∀ (vs : List Value) (o : Nat) (w : World) (b' : Nat), b' ≠ b → (w.setCells b o vs).heap[b']? = w.heap[b']?
  | [], o, w, b', hne => rfl
  | v :: vs, o, w, b', hne => by
    rw [World.setCells, setCells_other b vs _ _ b' hne]
    simp only [World.setCell, Array.getElem?_modify]
    rw [if_neg (by simpa using hne.symm)]
theorem setCells_rest (b : Nat) : ∀ (vs : List Value) (o : Nat) (w : World), (w.setCells b o vs).heap.size = w.heap.size ∧ (w.setCells b o vs).os = w.os ∧ (w.setCells b o vs).tape = w.tape ∧ (w.setCells b o vs).output = w.output
  | [], o, w => ⟨rfl, rfl, rfl, rfl⟩
  | v :: vs, o, w => by
    rw [World.setCells]
    obtain ⟨h1, h2, h3, h4⟩ := setCells_rest b vs (o + 1) (w.setCell ⟨b, o, none⟩ v)
    exact ⟨by rw [h1]; simp [World.setCell], by rw [h2]; rfl, by rw [h3]; rfl, by rw [h4]; rfl⟩
theorem shapes_setCells (b : Nat) (vs : List Value) (o : Nat) (w : World) : Shapes w (w.setCells b o vs) := by
  intro b' cs T fz e
  by_cases hb : b' = b
  · subst hb
    obtain ⟨c', h1, _, h2⟩ := setCells_heap b' vs o w cs T fz e
    exact ⟨c', fz, h1, h2⟩
  · exact ⟨cs, fz, by rw [setCells_other b vs o w b' hb]; exact e, rfl⟩
theorem spl_length : ∀ (ys : List AV) (off : Nat) (xs : List AV), (spl xs off ys).length = xs.length
  | [], _, _ => rfl
  | y :: ys, off, xs => by rw [spl, spl_length ys]; simp
theorem splV_length : ∀ (ys : List Value) (off : Nat) (xs : List Value), (splV xs off ys).length = xs.length
  | [], _, _ => rfl
  | y :: ys, off, xs => by rw [splV, splV_length ys]; simp
theorem splV_out : ∀ (ys : List Value) (off : Nat) (xs : List Value) (j : Nat), j < off ∨ off + ys.length ≤ j → (splV xs off ys)[j]? = xs[j]?
  | [], _, _, _, _ => rfl
  | y :: ys, off, xs, j, hj => by
    simp only [List.length_cons] at hj
    rw [splV, splV_out ys _ _ j (by omega), List.getElem?_set_ne (by omega)]
theorem splV_in : ∀ (ys : List Value) (off : Nat) (xs : List Value) (j : Nat), j < ys.length → off + ys.length ≤ xs.length → (splV xs off ys)[off + j]? = ys[j]?
  | [], _, _, _, hj, _ => by simp at hj
  | y :: ys, off, xs, j, hj, hle => by
    simp only [List.length_cons] at hj hle
    cases j with
    | zero =>
      rw [splV, splV_out ys _ _ _ (by omega), Nat.add_zero, List.getElem?_set_self (by omega)]
      rfl
    | succ j =>
      rw [splV, show off + (j + 1) = off + 1 + j by omega, splV_in ys _ _ j (by omega) (by simp; omega)]
      simp
theorem spl_out : ∀ (ys : List AV) (off : Nat) (xs : List AV) (j : Nat), j < off ∨ off + ys.length ≤ j → (spl xs off ys)[j]? = xs[j]?
  | [], _, _, _, _ => rfl
  | y :: ys, off, xs, j, hj => by
    simp only [List.length_cons] at hj
    rw [spl, spl_out ys _ _ j (by omega), List.getElem?_set_ne (by omega)]
theorem spl_in : ∀ (ys : List AV) (off : Nat) (xs : List AV) (j : Nat), j < ys.length → off + ys.length ≤ xs.length → (spl xs off ys)[off + j]? = ys[j]?
  | [], _, _, _, hj, _ => by simp at hj
  | y :: ys, off, xs, j, hj, hle => by
    simp only [List.length_cons] at hj hle
    cases j with
    | zero =>
      rw [spl, spl_out ys _ _ _ (by omega), Nat.add_zero, List.getElem?_set_self (by omega)]
      rfl
    | succ j =>
      rw [spl, show off + (j + 1) = off + 1 + j by omega, spl_in ys _ _ j (by omega) (by simp; omega)]
      simp

/-- What is stored into an object. -/
theorem HR.store (hr : HR B h φ w) {o off b base : Nat} {cs ys : List AV} {vs : List Value} (hl : look h o = some cs) (hφ : φ o = some (b, base)) (hle : off + ys.length ≤ cs.length) (hy : Cells w (Own B h φ) φ ys vs) :
    (storeCells ⟨b, base + off, none⟩ vs).run P w = .ok () (w.setCells b (base + off) vs) ∧
    HR B (h.set o (some (spl cs off ys))) φ (w.setCells b (base + off) vs) ∧
    Stp φ (Live h φ) w φ (Live (h.set o (some (spl cs off ys))) φ) (w.setCells b (base + off) vs) := by
  obtain ⟨b1, base1, c, T, fz, h1, h2, h3, h4, h5, h6⟩ := hr.live o cs hl
  rw [hφ] at h1
  cases h1
  have ho := look_lt hl
  obtain ⟨c', h7, h8, h9⟩ := setCells_heap b vs (base + off) w c T fz h2
  obtain ⟨r1, r2, r3, r4⟩ := setCells_rest b vs (base + off) w
  have hown : ∀ b', Live (h.set o (some (spl cs off ys))) φ b' → Live h φ b' := by
    rintro b' ⟨o', cs', base', e1, e2⟩
    rw [look_set] at e1
    by_cases hoo : o = o'
    · subst hoo; exact ⟨o, cs, base', hl, e2⟩
    · rw [if_neg (fun e => hoo e.1)] at e1; exact ⟨o', cs', base', e1, e2⟩
  have stp : Stp φ (Live h φ) w φ (Live (h.set o (some (spl cs off ys))) φ) (w.setCells b (base + off) vs) :=
    ⟨fun _ _ e => e, by omega, fun b' _ e => setCells_other b vs _ w b' (fun e' => e (by subst e'; exact ⟨o, cs, base, hl, hφ⟩)), fun b' _ e => hown b' e, shapes_setCells b vs _ w, r2, r3, r4⟩
  refine ⟨?_, ⟨fun b' e => by rw [r1]; exact hr.bsz b' e, fun o' cs' e => ?_, fun o' o'' cs' cs'' b' base' base'' e1 e2 e3 e4 => ?_, fun o' p e => by rw [List.length_set]; exact hr.dom o' p e⟩, stp⟩
  · have := run_storeCells_cells (P := P) b (base + off) vs 0 w (fun j hj => by
      rw [cell_of_block h2, Nat.add_zero]
      have : base + off + j < c.size := by rw [hy.1] at hj; omega
      simp [this]) (fun j hj => by rw [Nat.add_zero]; exact h5 _ (by rw [hy.1] at hj; omega)) hy.2.2
    simpa using this
  · rw [look_set] at e
    by_cases hoo : o = o'
    · subst hoo
      simp only [ho, and_self, if_true, Option.some.injEq] at e
      subst e
      refine ⟨b, base, c', T, fz, hφ, h7, h3, by rw [spl_length, h9]; exact h4, fun j hj => by rw [World.frozen?_setCells]; exact h5 j (by omega), fun j x e => ?_⟩
      by_cases hj : off ≤ j ∧ j < off + ys.length
      · obtain ⟨k, rfl⟩ : ∃ k, j = off + k := ⟨j - off, by omega⟩
        rw [spl_in ys off cs k (by omega) hle] at e
        have hk : k < vs.length := by rw [hy.1]; omega
        refine ⟨vs[k], ?_, hy.2.2 _ (List.getElem_mem hk), (hy.2.1 k x _ e (List.getElem?_eq_getElem hk)).stp stp⟩
        have : c'[base + (off + k)]? = c'.toList[base + off + k]? := by simp [Nat.add_assoc]
        rw [this, h8, splV_in vs _ _ k hk (by rw [hy.1]; simp; omega)]
        exact List.getElem?_eq_getElem hk
      · rw [spl_out ys off cs j (by omega)] at e
        obtain ⟨v, e1, e2, e3⟩ := h6 j x e
        refine ⟨v, ?_, e2, e3.stp stp⟩
        have : c'[base + j]? = c'.toList[base + j]? := by simp
        rw [this, h8, splV_out vs _ _ _ (by rw [hy.1]; omega)]
        simpa using e1
    · rw [if_neg (fun e => hoo e.1)] at e
      obtain ⟨b1, base1, c1, T1, fz1, e1, e2, e3, e4, e5, e6⟩ := hr.live o' cs' e
      have hne : b1 ≠ b := fun e' => hoo (hr.inj o o' cs cs' b base base1 hl e hφ (by rw [e1, e']))
      refine ⟨b1, base1, c1, T1, fz1, e1, by rw [setCells_other b vs _ w b1 hne]; exact e2, e3, e4, fun j hj => by rw [World.frozen?_setCells]; exact e5 j hj, fun j x e' => ?_⟩
      obtain ⟨v, e7, e8, e9⟩ := e6 j x e'
      exact ⟨v, e7, e8, e9.stp stp⟩
  · have hl' : ∀ o' cs', look (h.set o (some (spl cs off ys))) o' = some cs' → ∃ cs'', look h o' = some cs'' := by
      intro o' cs' e
      rw [look_set] at e
      by_cases hoo : o = o'
      · subst hoo; exact ⟨cs, hl⟩
      · rw [if_neg (fun e => hoo e.1)] at e; exact ⟨cs', e⟩
    obtain ⟨d1, e5⟩ := hl' o' cs' e1
    obtain ⟨d2, e6⟩ := hl' o'' cs'' e2
    exact hr.inj o' o'' d1 d2 b' base' base'' e5 e6 e3 e4
end
end Go.Ev
