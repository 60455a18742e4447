/- Pairs of bytes that come in. -/
import Derived.Test.YtimeokpdnmggaaaFnN
import Derived.Test.YtimeokpdnmggaaaFnQ
set_option linter.unusedVariables false
set_option linter.unusedSimpArgs false
namespace Go.Ev
open Go Go.Proofs

abbrev pairSh : Sh := .cons (.int .u8) (.cons (.int .u8) .nil)
theorem prs_cells : ∀ (n : Nat) (ys : List AV), ys.length = n * 2 → (∀ i, i < n → pairSh.ok ((ys.drop (i * 2)).take 2)) → ∃ l : List (Int × Int), ys = prs l ∧ U8s l ∧ l.length = n
  | 0, ys, hl, _ => ⟨[], by simpa [prs] using hl, by simp [U8s], rfl⟩
  | n + 1, [], hl, _ => by simp at hl
  | n + 1, [y], hl, _ => by simp at hl; omega
  | n + 1, y :: z :: ys, hl, h => by
    obtain ⟨_, _, e, ⟨a, rfl, ha⟩, _, _, rfl, ⟨b, rfl, hb⟩, rfl⟩ := h 0 (by omega)
    simp at e
    obtain ⟨l, rfl, hls, hln⟩ := prs_cells n ys (by simp at hl; omega) fun i hi => by
      have := h (i + 1) (by omega)
      rw [Nat.succ_mul, show i * 2 + 2 = 2 + i * 2 by omega, ← List.drop_drop] at this
      simpa using this
    refine ⟨(a, b) :: l, by simp [e, prs], ?_, by simp [hln]⟩
    rintro p (_ | ⟨_, hp⟩)
    · exact ⟨(wf_u8 ha).1, (wf_u8 ha).2, (wf_u8 hb).1, (wf_u8 hb).2⟩
    · exact hls p hp
theorem prs_row {x : AV} (h : Sh.ok (.sl pairSh) [x]) : ∃ (b : Bool) (c : Option Nat) (l : List (Int × Int)), x = .sl b l.length c (prs l) ∧ U8s l ∧ l.length ≤ 9223372036854775807 := by
  obtain ⟨b, n, c, ys, he, hn, hl, hi⟩ := h
  obtain ⟨l, rfl, hls, hln⟩ := prs_cells n ys hl hi
  simp only [List.cons.injEq, and_true] at he
  subst hln
  exact ⟨b, some c, l, he, hls, by simpa [maxLen] using hn⟩
end Go.Ev
