/- Freezing the rows that some slots name. -/
import Derived.Test.YtpjjloaphlaokaaEvS
set_option linter.unusedVariables false
set_option linter.unusedSimpArgs false
set_option linter.unnecessarySimpa false
namespace Go.Ev
open Go
section
variable {B : Nat → Prop} {h h' : Heap} {φ : Phi} {w : World}

theorem Frzn.own (f : Frzn B h φ w h') : ∀ b, Own B h' φ b → Own B h φ b := by
  rintro b (hb | ⟨o, cs, base, h1, h2⟩)
  · exact .inl hb
  · exact .inr ⟨o, cs, base, f.sub o cs h1, h2⟩
theorem Frzn.stp (f : Frzn B h φ w h') : Stp φ (Live h φ) w φ (Live h' φ) w :=
  ⟨fun _ _ e => e, Nat.le_refl _, fun _ _ _ => rfl, fun b hb e => by obtain ⟨o, cs, base, h1, h2⟩ := e; exact ⟨o, cs, base, f.sub o cs h1, h2⟩, fun _ cs _ fz e => ⟨cs, fz, e, rfl⟩, rfl, rfl, rfl⟩
theorem Frzn.refl (hr : HR B h φ w) : Frzn B h φ w h := ⟨hr, fun _ _ e => e, rfl⟩
theorem Frzn.trans {h'' : Heap} (f : Frzn B h φ w h') (k : Frzn B h' φ w h'') : Frzn B h φ w h'' := ⟨k.hr, fun o cs e => f.sub o cs (k.sub o cs e), k.len.trans f.len⟩
theorem Frzn.kill (hr : HR B h φ w) (o : Nat) : Frzn B h φ w (h.set o none) := by
  have hsub : ∀ o' cs, look (h.set o none) o' = some cs → look h o' = some cs := by
    intro o' cs e
    rw [look_set] at e
    split at e
    · cases e
    · exact e
  have hown : ∀ b, Own B (h.set o none) φ b → Own B h φ b := by
    rintro b (hb | ⟨o, cs, base, h1, h2⟩)
    · exact .inl hb
    · exact .inr ⟨o, cs, base, hsub o cs h1, h2⟩
  refine ⟨⟨hr.bsz, fun o' cs e => ?_, fun o1 o2 cs cs' b base base' e e' => hr.inj o1 o2 cs cs' b base base' (hsub _ _ e) (hsub _ _ e'), fun o' p e => by rw [List.length_set]; exact hr.dom o' p e⟩, hsub, by simp⟩
  obtain ⟨b, base, c, T, fz, q1, q2, q3, q4, q5, q6⟩ := hr.live o' cs (hsub o' cs e)
  refine ⟨b, base, c, T, fz, q1, q2, q3, q4, q5, fun j x e => ?_⟩
  obtain ⟨v, e2, e3, e4⟩ := q6 j x e
  exact ⟨v, e2, e3, e4.own hown⟩

theorem frz1_sound {x y : AV} {v : Value} (e : frz1 h x = some (y, h')) (hr : HR B h φ w) (hv : VR w (Own B h φ) φ x v) : Frzn B h φ w h' ∧ VR w (Own B h' φ) φ y v := by
  have same : some (x, h) = some (y, h') → Frzn B h φ w h' ∧ VR w (Own B h' φ) φ y v := by
    intro e
    cases e
    exact ⟨Frzn.refl hr, hv⟩
  cases hv with
  | ref o off m sz c b base cap a hφ ha hn hcap hrr =>
    simp only [frz1] at e
    split at e
    · rename_i cs' hcs'
      split at e
      · rename_i hc
        cases e
        have k := Frzn.kill hr o
        refine ⟨k, ?_⟩
        have hrd : rdM (look h) (.ptr o off) (m * sz) = some ((cs'.drop off).take (m * sz)) := by
          simp only [rdM, hcs']
          rw [if_pos hc.1]
        obtain ⟨b', o', he', hl, cs, hcl, hmem⟩ := rdM_VR hr (fun _ _ e => e) (.ptr o off b base hφ) hrd
        simp only [Value.pointer.injEq, Option.some.injEq, Addr.mk.injEq, and_true] at he'
        obtain ⟨rfl, rfl⟩ := he'
        have hpos : (cs'.drop off).take (m * sz) ≠ [] → c ≠ 0 := by
          intro hne h0
          have : m = 0 := by omega
          have h2 : 0 < m * sz := by rw [← hl]; exact List.length_pos_iff.2 hne
          rw [this] at h2
          simp at h2
        obtain ⟨b1, base1, arr, T, fz1, e1, e2, e3, _⟩ := hr.live o cs' hcs'
        rw [hφ] at e1
        cases e1
        refine .sl false m c cap _ (some a) cs rfl hn hcap hcl.1 (fun j y v q1 q2 => ?_) hcl.2.2 fun hne => ⟨b, base + off, by rw [ha (hpos hne)], (Array.getElem?_eq_some_iff.1 e2).1, ?_, hmem⟩
        · have hy : y ∈ cs' := List.mem_of_mem_drop (List.mem_of_mem_take (List.mem_of_getElem? q1))
          exact noRef_noPhi deep y v (List.all_eq_true.1 hc.2 y hy) ((hcl.2.1 j y v q1 q2).own k.own)
        · rintro (hb | ⟨o2, cs2, base2, h3, h4⟩)
          · exact e3 hb
          · have := hr.inj o2 o cs2 cs' b base2 base (k.sub o2 cs2 h3) hcs' h4 hφ
            subst this
            have hlt := look_lt hcs'
            rw [look_set, if_pos ⟨rfl, hlt⟩] at h3
            cases h3
      · cases e
    · cases e
  | _ => exact same (by simpa [frz1] using e)

theorem frzL_sound : ∀ {xs ys : List AV} {h h' : Heap} {cs : List Value}, frzL h xs = some (ys, h') → HR B h φ w → Cells w (Own B h φ) φ xs cs → Frzn B h φ w h' ∧ Cells w (Own B h' φ) φ ys cs
  | [], ys, h, h', cs, e, hr, hc => by
    simp only [frzL, Option.some.injEq, Prod.mk.injEq] at e
    obtain ⟨rfl, rfl⟩ := e
    exact ⟨Frzn.refl hr, hc⟩
  | x :: xs, ys, h, h', cs, e, hr, hc => by
    simp only [frzL] at e
    split at e
    · rename_i v h1 e1
      split at e
      · rename_i vs h2 e2
        cases e
        cases cs with
        | nil => have := hc.1; simp at this
        | cons c cs =>
          have hx : VR w (Own B h φ) φ x c := hc.2.1 0 x c rfl rfl
          obtain ⟨f1, v1⟩ := frz1_sound e1 hr hx
          have hc1 : Cells w (Own B h1 φ) φ xs cs := ⟨by have := hc.1; simp at this; omega, fun j y u q1 q2 => (hc.2.1 (j + 1) y u (by simpa using q1) (by simpa using q2)).own f1.own, fun u hu => hc.2.2 u (List.mem_cons_of_mem _ hu)⟩
          obtain ⟨f2, c2⟩ := frzL_sound e2 f1.hr hc1
          refine ⟨f1.trans f2, ?_⟩
          have one : Cells w (Own B h' φ) φ [v] [c] := Cells.one (v1.own f2.own) (hc.2.2 c List.mem_cons_self)
          exact one.append c2
      · cases e
    · cases e

theorem frzS_sound {fr fr' : List AV} {t : Nat} {tm : Array Value} (e : frzS fr h t = some (fr', h')) (hr : HR B h φ w) (hf : FR w (Own B h φ) φ fr tm) :
    HR B h' φ w ∧ Stp φ (Live h φ) w φ (Live h' φ) w ∧ FR w (Own B h' φ) φ fr' tm ∧ h'.length = h.length := by
  have two : ∀ x, fr[t]? = some x → (match frz1 h x with | some (v, h') => some (fr.set t v, h') | none => none) = some (fr', h') → HR B h' φ w ∧ Stp φ (Live h φ) w φ (Live h' φ) w ∧ FR w (Own B h' φ) φ fr' tm ∧ h'.length = h.length := by
    intro x hx e
    split at e
    · rename_i v h1 e1
      cases e
      have ht := (List.getElem?_eq_some_iff.1 hx).1
      have htl : t < tm.size := by rw [hf.1]; exact ht
      have htm : tm[t]? = some tm[t] := Array.getElem?_eq_getElem htl
      obtain ⟨f, hv⟩ := frz1_sound e1 hr (hf.2 t x _ hx htm)
      refine ⟨f.hr, f.stp, ⟨by simp [hf.1], fun i y u q1 q2 => ?_⟩, f.len⟩
      rw [List.getElem?_set] at q1
      split at q1
      · rename_i hi
        subst hi
        cases q1
        rw [htm] at q2
        cases q2
        exact hv
      · exact (hf.2 i y u q1 q2).own f.own
    · cases e
  unfold frzS at e
  split at e
  · rename_i p off hp
    split at e
    · rename_i cs hcs
      split at e
      · rename_i cs' h1 e1
        split at e
        · rename_i cs1 hcs1
          cases e
          obtain ⟨b, base, c, T, fz, q1, q2, q3, q4, q5, q6⟩ := hr.live p cs hcs
          have hlen1 : base + cs.length ≤ c.size := q4
          have hcl : Cells w (Own B h φ) φ cs ((c.toList.drop base).take cs.length) := by
            refine ⟨by simp; omega, fun j x v e1 e2 => ?_, fun v hv => ?_⟩
            · obtain ⟨u, u1, u2, u3⟩ := q6 j x e1
              have hj := (List.getElem?_eq_some_iff.1 e1).1
              rw [List.getElem?_take_of_lt hj, List.getElem?_drop, Array.getElem?_toList, u1] at e2
              cases e2
              exact u3
            · obtain ⟨j, hj⟩ := List.getElem?_of_mem hv
              have hj1 := (List.getElem?_eq_some_iff.1 hj).1
              have hj2 : j < cs.length := by simp at hj1; omega
              obtain ⟨u, u1, u2, u3⟩ := q6 j _ (List.getElem?_eq_getElem hj2)
              rw [List.getElem?_take_of_lt hj2, List.getElem?_drop, Array.getElem?_toList, u1] at hj
              cases hj
              exact u2
          obtain ⟨f, hc'⟩ := frzL_sound e1 hr hcl
          have hlc : cs'.length = cs.length := by have := hc'.1; simp at this; omega
          have hlk : ∀ o cs2, look (h1.set p (some cs')) o = some cs2 → (o = p ∧ cs2 = cs') ∨ (o ≠ p ∧ look h1 o = some cs2) := by
            intro o cs2 e
            rw [look_set] at e
            split at e
            · rename_i hx
              cases e
              exact .inl ⟨hx.1.symm, rfl⟩
            · rename_i hx
              refine .inr ⟨?_, e⟩
              rintro rfl
              exact hx ⟨rfl, look_lt hcs1⟩
          have hlk2 : ∀ o cs2, look (h1.set p (some cs')) o = some cs2 → ∃ cs3, look h1 o = some cs3 := by
            intro o cs2 e
            rcases hlk o cs2 e with ⟨rfl, rfl⟩ | ⟨_, e⟩
            · exact ⟨_, hcs1⟩
            · exact ⟨_, e⟩
          have hown : ∀ b, Own B (h1.set p (some cs')) φ b → Own B h1 φ b := by
            rintro b (hb | ⟨o, cs2, base2, h3, h4⟩)
            · exact .inl hb
            · obtain ⟨cs3, h5⟩ := hlk2 o cs2 h3
              exact .inr ⟨o, cs3, base2, h5, h4⟩
          refine ⟨⟨hr.bsz, fun o cs2 e => ?_, fun o1 o2 d1 d2 b base base' e e' => ?_, fun o' p' e => by rw [List.length_set, f.len]; exact hr.dom o' p' e⟩, ⟨fun _ _ e => e, Nat.le_refl _, fun _ _ _ => rfl, fun b hb e => ?_, fun _ cs _ fz e => ⟨cs, fz, e, rfl⟩, rfl, rfl, rfl⟩, ⟨hf.1, fun i y u q1 q2 => ((hf.2 i y u q1 q2).own f.own).own hown⟩, by rw [List.length_set, f.len]⟩
          · rcases hlk o cs2 e with ⟨rfl, rfl⟩ | ⟨_, e⟩
            · refine ⟨b, base, c, T, fz, q1, q2, q3, by rw [hlc]; exact q4, q5, fun j x e => ?_⟩
              have hj : j < cs.length := by rw [← hlc]; exact (List.getElem?_eq_some_iff.1 e).1
              obtain ⟨u, u1, u2, u3⟩ := q6 j _ (List.getElem?_eq_getElem hj)
              refine ⟨u, u1, u2, (hc'.2.1 j x u e ?_).own hown⟩
              rw [List.getElem?_take_of_lt hj, List.getElem?_drop, Array.getElem?_toList, u1]
            · obtain ⟨b2, base2, c2, T2, fz2, r1, r2, r3, r4, r5, r6⟩ := f.hr.live o cs2 e
              refine ⟨b2, base2, c2, T2, fz2, r1, r2, r3, r4, r5, fun j x e => ?_⟩
              obtain ⟨u, u1, u2, u3⟩ := r6 j x e
              exact ⟨u, u1, u2, u3.own hown⟩
          · obtain ⟨c1, g1⟩ := hlk2 o1 d1 e
            obtain ⟨c2, g2⟩ := hlk2 o2 d2 e'
            exact f.hr.inj o1 o2 c1 c2 b base base' g1 g2
          · obtain ⟨o, cs2, base2, h3, h4⟩ := e
            obtain ⟨cs3, h5⟩ := hlk2 o cs2 h3
            exact ⟨o, cs3, base2, f.sub o cs3 h5, h4⟩
        · cases e
      · cases e
    · cases e
  · rename_i x hne hx
    exact two x hx e
  · cases e

theorem frzTs_sound : ∀ (ts : List Nat) {fr fr' : List AV} {h h' : Heap} {tm : Array Value}, frzTs ts fr h = some (fr', h') → HR B h φ w → FR w (Own B h φ) φ fr tm →
    HR B h' φ w ∧ Stp φ (Live h φ) w φ (Live h' φ) w ∧ FR w (Own B h' φ) φ fr' tm ∧ h'.length = h.length
  | [], fr, fr', h, h', tm, e, hr, hf => by
    simp only [frzTs, Option.some.injEq, Prod.mk.injEq] at e
    obtain ⟨rfl, rfl⟩ := e
    exact ⟨hr, Stp.refl _ _ _, hf, rfl⟩
  | t :: ts, fr, fr', h, h', tm, e, hr, hf => by
    simp only [frzTs] at e
    split at e
    · rename_i fr1 h1 e1
      obtain ⟨a1, a2, a3, a4⟩ := frzS_sound e1 hr hf
      obtain ⟨b1, b2, b3, b4⟩ := frzTs_sound ts e a1 a3
      exact ⟨b1, a2.trans b2, b3, b4.trans a4⟩
    · cases e
end
end Go.Ev
