/- The shapes of what comes into the laws of allocators. -/
import Derived.Test.YtimeokpdnmggaaaFnM
import Derived.Test.YtimeokpdnmggaaaEwB
set_option linter.unusedVariables false
set_option linter.unusedSimpArgs false
namespace Go.Ev
open Go Go.Proofs

theorem wf_u8 {n : Int} (h : (Lit.int .u8 n).wf = true) : 0 ≤ n ∧ n ≤ 255 := by
  simp [Lit.wf, IntKind.min, IntKind.max, IntKind.signed, IntKind.bits] at h; omega
theorem wf_u16 {n : Int} (h : (Lit.int .u16 n).wf = true) : 0 ≤ n ∧ n ≤ 65535 := by
  simp [Lit.wf, IntKind.min, IntKind.max, IntKind.signed, IntKind.bits] at h; omega
theorem wf_i16 {n : Int} (h : (Lit.int .i16 n).wf = true) : I16 n := by
  simp [Lit.wf, IntKind.min, IntKind.max, IntKind.signed, IntKind.bits] at h; exact ⟨by omega, by omega⟩
/-- Cells of bytes. -/
theorem u8_cells : ∀ (n : Nat) (ys : List AV), ys.length = n * 1 → (∀ i, i < n → Sh.ok (.int .u8) ((ys.drop (i * 1)).take 1)) → ∃ ls : List Int, ys = ls.map u8v ∧ ∀ y ∈ ls, 0 ≤ y ∧ y ≤ 255
  | 0, ys, hl, _ => ⟨[], by simpa using hl, by simp⟩
  | n + 1, [], hl, _ => by simp at hl
  | n + 1, y :: ys, hl, h => by
    obtain ⟨m, hm, hwf⟩ := h 0 (by omega)
    simp at hm
    obtain ⟨ls, rfl, hls⟩ := u8_cells n ys (by simpa using hl) fun i hi => by
      have := h (i + 1) (by omega)
      simpa [Nat.succ_mul] using this
    exact ⟨m :: ls, by simp [hm], by rintro y (_ | ⟨_, hy⟩); exact wf_u8 hwf; exact hls y hy⟩
theorem u8_row {x : AV} (h : Sh.ok (.sl (.int .u8)) [x]) : ∃ (nl : Bool) (cl : Option Nat) (ls : List Int), x = .sl nl ls.length cl (ls.map u8v) ∧ ls.length ≤ 9223372036854775807 ∧ ∀ y ∈ ls, 0 ≤ y ∧ y ≤ 255 := by
  obtain ⟨b, n, c, ys, he, hn, hl, hi⟩ := h
  obtain ⟨ls, rfl, hls⟩ := u8_cells n ys hl hi
  simp only [List.cons.injEq, and_true] at he
  have hln : ls.length = n := by simpa [Sh.size] using hl
  subst hln
  exact ⟨b, some c, ls, he, by simpa [maxLen] using hn, hls⟩
abbrev rawSh : Sh := .cons (.int .u8) (.cons (.int .u16) (.cons (.sl (.int .u8)) (.cons (.int .u8) .nil)))
theorem rawR_of {xs : List AV} (h : rawSh.ok xs) : RawR (.agg xs) := by
  obtain ⟨_, _, rfl, ⟨N, rfl, hN⟩, _, _, rfl, ⟨U, rfl, hU⟩, _, _, rfl, hL, _, _, rfl, ⟨K, rfl, hK⟩, rfl⟩ := h
  obtain ⟨b, n, c, ys, rfl, h'⟩ := hL
  obtain ⟨nl, cl, ls, he, h1, h2⟩ := u8_row ⟨b, n, c, ys, rfl, h'⟩
  rw [he]
  exact ⟨N, U, K, ls, nl, cl, (wf_u8 hN).1, (wf_u8 hN).2, (wf_u16 hU).1, (wf_u16 hU).2, (wf_u8 hK).1, (wf_u8 hK).2, h2, h1, rfl⟩
theorem i16_pair {xs : List AV} (h : (Sh.cons (.int .i16) (.cons (.int .i16) .nil)).ok xs) : ∃ a b, I16 a ∧ I16 b ∧ xs = [i16v a, i16v b] := by
  obtain ⟨_, _, rfl, ⟨a, rfl, ha⟩, _, _, rfl, ⟨b, rfl, hb⟩, rfl⟩ := h
  exact ⟨a, b, wf_i16 ha, wf_i16 hb, rfl⟩
theorem args1 {w : World} {x : AV} {v : Value} (h : VR w noOw noPhi x v) : ArgsR w noOw noPhi [x] #[v] := by
  refine ⟨rfl, fun j a b e1 e2 => ?_⟩
  cases j with
  | zero => simp at e1 e2; subst e1; subst e2; exact h
  | succ j => simp at e1
theorem args2 {w : World} {x x2 : AV} {v v2 : Value} (h : VR w noOw noPhi x v) (h2 : VR w noOw noPhi x2 v2) : ArgsR w noOw noPhi [x, x2] #[v, v2] := by
  refine ⟨rfl, fun j a b e1 e2 => ?_⟩
  match j with
  | 0 => simp at e1 e2; subst e1; subst e2; exact h
  | 1 => simp at e1 e2; subst e1; subst e2; exact h2
  | j + 2 => simp at e1
theorem args3 {w : World} {x x2 x3 : AV} {v v2 v3 : Value} (h : VR w noOw noPhi x v) (h2 : VR w noOw noPhi x2 v2) (h3 : VR w noOw noPhi x3 v3) : ArgsR w noOw noPhi [x, x2, x3] #[v, v2, v3] := by
  refine ⟨rfl, fun j a b e1 e2 => ?_⟩
  match j with
  | 0 => simp at e1 e2; subst e1; subst e2; exact h
  | 1 => simp at e1 e2; subst e1; subst e2; exact h2
  | 2 => simp at e1 e2; subst e1; subst e2; exact h3
  | j + 3 => simp at e1
theorem orders : Try.prog.follows .mixedOrders = true := by kernel_rfl
theorem raw_shape : shOf Try.prog 8 25 = some rawSh := by kernel_rfl
end Go.Ev
