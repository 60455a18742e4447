/- Operations that change objects. -/
import Derived.Test.YtpjjloaphlaokaaEvJ
set_option linter.unusedVariables false
set_option linter.unusedSimpArgs false
set_option linter.unnecessarySimpa false
namespace Go.Ev
open Go

section
variable {P : Program} {B : Nat → Prop} {h : Heap} {φ : Phi} {w : World}

/-- What an operation leaves in its slot. -/
def Out (r : Next) (u : Value) : Prop := r = .value u ∨ (r = .skip ∧ u = undef)

def Wrote (P : Program) (B : Nat → Prop) (h : Heap) (φ : Phi) (w : World) (s : Sem Next) (x : AV) (h' : Heap) : Prop :=
  ∃ (r : Next) (u : Value) (w' : World) (φ' : Phi), s.run P w = .ok r w' ∧ Out r u ∧ HR B h' φ' w' ∧ Stp φ (Live h φ) w φ' (Live h' φ') w' ∧ VR w' (Own B h' φ') φ' x u ∧
    h.length ≤ h'.length ∧ ∀ o, o < h.length → φ' o = φ o

/-- The same, with an object that may come to lie at place 's'. -/
def WroteS (P : Program) (B : Nat → Prop) (h : Heap) (φ : Phi) (w : World) (s : Nat) (m : Sem Next) (x : AV) (h' : Heap) : Prop :=
  ∃ (r : Next) (u : Value) (w' : World) (φ' : Phi), m.run P w = .ok r w' ∧ Out r u ∧ HR B h' φ' w' ∧ Stp φ (Live h φ) w φ' (Live h' φ') w' ∧ VR w' (Own B h' φ') φ' x u ∧
    h.length ≤ h'.length ∧ ∀ o, o < h.length → o ≠ s → φ' o = φ o
theorem WroteS.wrote {s : Nat} {m : Sem Next} {x : AV} {h' : Heap} (k : WroteS P B h φ w s m x h') (hs : h.length ≤ s) : Wrote P B h φ w m x h' := by
  obtain ⟨r, u, w', φ', h1, h2, h3, h4, h5, h6, h7⟩ := k
  exact ⟨r, u, w', φ', h1, h2, h3, h4, h5, h6, fun o ho => h7 o ho (by omega)⟩
theorem Wrote.wroteS {s : Nat} {m : Sem Next} {x : AV} {h' : Heap} (k : Wrote P B h φ w m x h') : WroteS P B h φ w s m x h' := by
  obtain ⟨r, u, w', φ', h1, h2, h3, h4, h5, h6, h7⟩ := k
  exact ⟨r, u, w', φ', h1, h2, h3, h4, h5, h6, fun o ho _ => h7 o ho⟩

theorem look_app (h : Heap) (x : Option (List AV)) (o : Nat) : look (h ++ [x]) o = if o = h.length then x else look h o := by
  unfold look
  by_cases ho : o = h.length
  · subst ho; simp
  · rw [if_neg ho]
    rcases Nat.lt_or_ge o h.length with h1 | h1
    · rw [List.getElem?_append_left h1]
    · rw [List.getElem?_eq_none (by simp; omega), List.getElem?_eq_none (by omega)]

theorem growBy_le (n : Nat) : ∀ (r c : Nat), Builtin.growBy n r c ≤ max c (n + (n + 768) / 4)
  | 0, c => by simp [Builtin.growBy]; omega
  | r + 1, c => by
    unfold Builtin.growBy
    split
    · omega
    · have := growBy_le n r (c + (c + 768) / 4)
      omega
theorem nextslicecap_le {n c : Nat} (h : c < n) : Builtin.nextslicecap n c ≤ 2 * n + 192 := by
  unfold Builtin.nextslicecap
  split
  · omega
  · split
    · omega
    · have := growBy_le n 4 c
      omega

theorem append_zero {t u : TypeId} {e : TypeId} {sz : Nat} {a : Option Addr} {m c : Nat} {v : Value} (hu : P.underlying t = some (.slice e)) (hu2 : (∃ e', P.underlying u = some (.slice e')) ∨ P.underlying u = some .string) (hs : szOf P e = some sz)
    (hl : (Builtin.lenOf v).run P w = .ok 0 w) (hfc : (Builtin.firstCells sz 0 v).run P w = .ok #[] w) (hm : m ≤ c) (ty : TypeId) :
    (Builtin.append_ #[t, u] ty #[.slice a m c, v]).run P w = .ok (.slice a m c) w := by
  rcases hu2 with ⟨e', hd1⟩ | hd1
  · cases a <;> simp [Builtin.append_, run_underlying' hu, run_underlying' hd1, run_sizeOf' hs, hl, hfc, hm, storeCells]
  · cases a <;> simp [Builtin.append_, run_underlying' hu, run_underlying' hd1, run_sizeOf' hs, hl, hfc, hm, storeCells]

theorem append_fit {t u : TypeId} {e : TypeId} {sz k : Nat} {b o : Nat} {m c : Nat} {v : Value} {vs : List Value} (hu : P.underlying t = some (.slice e)) (hu2 : (∃ e', P.underlying u = some (.slice e')) ∨ P.underlying u = some .string) (hs : szOf P e = some sz)
    (hl : (Builtin.lenOf v).run P w = .ok k w) (hfc : (Builtin.firstCells sz k v).run P w = .ok vs.toArray w) (hm : m + k ≤ c) (ty : TypeId) {w' : World} (hst : (storeCells ⟨b, o + m * sz, none⟩ vs).run P w = .ok () w') :
    (Builtin.append_ #[t, u] ty #[.slice (some ⟨b, o, none⟩) m c, v]).run P w = .ok (.slice (some ⟨b, o, none⟩) (m + k) c) w' := by
  rcases hu2 with ⟨e', hd1⟩ | hd1
  · simp [Builtin.append_, run_underlying' hu, run_underlying' hd1, run_sizeOf' hs, hl, hfc, hm, add_none, hst]
  · simp [Builtin.append_, run_underlying' hu, run_underlying' hd1, run_sizeOf' hs, hl, hfc, hm, add_none, hst]

theorem append_grow {t u : TypeId} {e : TypeId} {sz by_ k : Nat} {a : Option Addr} {m c : Nat} {v : Value} {vs os : List Value} {zero : List AV} (hu : P.underlying t = some (.slice e)) (hu2 : (∃ e', P.underlying u = some (.slice e')) ∨ P.underlying u = some .string) (hs : szOf P e = some sz)
    (hb : byOf P e = some by_) (hz : zeroOf P e = some zero)
    (hl : (Builtin.lenOf v).run P w = .ok k w) (hfc : ∀ d, (Builtin.firstCells sz k v).run P { w with drawn := d } = .ok vs.toArray { w with drawn := d }) (hfo : ∀ d, (Builtin.firstCells sz m (.slice a m c)).run P { w with drawn := d } = .ok os.toArray { w with drawn := d })
    (hm : c < m + k) (hbig : (2 * (m + k) + 192) * by_ ≤ 2 ^ 48) (hbig2 : m + k ≤ 2 ^ 60) (ty : TypeId) :
    ∃ (nc : Nat) (rest : Array Value), m + k ≤ nc ∧ (zero.length = sz → rest.size = (nc - (m + k)) * sz) ∧
      (Builtin.append_ #[t, u] ty #[.slice a m c, v]).run P w = .ok (.slice (some ⟨w.heap.size, 0, none⟩) (m + k) nc) { w with heap := w.heap.push (.cells (os.toArray ++ (vs.toArray ++ rest)) e), drawn := w.drawn + 1 } := by
  obtain ⟨z, hz1, hz2⟩ := zeroOf_run hz { w with drawn := w.drawn + 1 } (fun _ => False) noPhi
  unfold byOf at hb
  simp only [Option.map_eq_some_iff] at hb
  obtain ⟨i, hi, hb⟩ := hb
  have hsi : i.size = sz := by obtain ⟨i', hi', h1⟩ := info_of hs; rw [hi] at hi'; cases hi'; exact h1
  let nc := (Question.appendCap (m + k) c e).cut (w.tape w.drawn (.appendCap (m + k) c e))
  have hnc : m + k ≤ nc := by simp only [nc, Question.cut]; omega
  refine ⟨nc, Builtin.zeroCells z.cells (nc - (m + k)), hnc, fun hzl => ?_, ?_⟩
  · have : z.cells.size = zero.length := by simpa using hz2.1
    simp [Builtin.zeroCells, this, hzl]
  · have hn : ¬ (m + k ≤ c) := by omega
    have h63 : ¬ (9223372036854775807 < ((m : Int) + (k : Int))) := by omega
    have h48 : ¬ (281474976710656 < Builtin.nextslicecap (m + k) c * i.bytes) := by
      have h4 := nextslicecap_le hm
      rw [hb]
      have h5 : Builtin.nextslicecap (m + k) c * by_ ≤ (2 * (m + k) + 192) * by_ := Nat.mul_le_mul_right _ h4
      omega
    have h6 : (Builtin.firstCells sz k v).run P w.drew = .ok vs.toArray w.drew := hfc (w.drawn + 1)
    have h7 : (Builtin.firstCells sz m (.slice a m c)).run P w.drew = .ok os.toArray w.drew := hfo (w.drawn + 1)
    have h8 : (zeroValue e).run P w.drew = .ok z w.drew := hz1
    rcases hu2 with ⟨e', hd1⟩ | hd1
    · simp [Builtin.append_, run_underlying' hu, run_underlying' hd1, sizeOf, typeInfo, hi, hsi, hl, hn, h63, h48, Question.forced, h6, h7, h8, newRow]
      exact ⟨rfl, rfl⟩
    · simp [Builtin.append_, run_underlying' hu, run_underlying' hd1, sizeOf, typeInfo, hi, hsi, hl, hn, h63, h48, Question.forced, h6, h7, h8, newRow]
      exact ⟨rfl, rfl⟩
end
end Go.Ev
