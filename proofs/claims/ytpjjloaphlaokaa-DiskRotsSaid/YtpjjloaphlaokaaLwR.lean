/- The shapes of what comes into the laws of disks. -/
import Derived.Test.YtpjjloaphlaokaaFdR
import Derived.Test.YtpjjloaphlaokaaEwB
set_option linter.unusedVariables false
set_option linter.unusedSimpArgs false
namespace Go.Ev
open Go Go.Proofs

theorem wf_u8 {n : Int} (h : (Lit.int .u8 n).wf = true) : ∃ k : Nat, k < 256 ∧ n = k := by
  simp [Lit.wf, IntKind.min, IntKind.max, IntKind.signed, IntKind.bits] at h
  exact ⟨n.toNat, by omega, by omega⟩
theorem wf_i16 {n : Int} (h : (Lit.int .i16 n).wf = true) : -32768 ≤ n ∧ n ≤ 32767 := by
  simp [Lit.wf, IntKind.min, IntKind.max, IntKind.signed, IntKind.bits] at h; omega
/-- Cells of bytes. -/
theorem u8_cells : ∀ (n : Nat) (ys : List AV), ys.length = n * 1 → (∀ i, i < n → Sh.ok (.int .u8) ((ys.drop (i * 1)).take 1)) → ∃ ls : List UInt8, ys = ls.map uv
  | 0, ys, hl, _ => ⟨[], by simpa using hl⟩
  | n + 1, [], hl, _ => by simp at hl
  | n + 1, y :: ys, hl, h => by
    obtain ⟨m, hm, hwf⟩ := h 0 (by omega)
    simp at hm
    obtain ⟨ls, rfl⟩ := u8_cells n ys (by simpa using hl) fun i hi => by
      have := h (i + 1) (by omega)
      simpa [Nat.succ_mul] using this
    obtain ⟨k, hk, rfl⟩ := wf_u8 hwf
    refine ⟨UInt8.ofNat k :: ls, ?_⟩
    rw [hm]
    simp only [List.map_cons, uv, List.cons.injEq, and_true, AV.lit.injEq, Value.int.injEq, true_and]
    rw [UInt8.toNat_ofNat_of_lt' hk]
theorem u8_row {x : AV} (h : Sh.ok (.sl (.int .u8)) [x]) : ∃ d, Same d x := by
  obtain ⟨b, n, c, ys, he, hn, hl, hb, hi⟩ := h
  obtain ⟨ls, rfl⟩ := u8_cells n ys hl hi
  simp only [List.cons.injEq, and_true] at he
  have hln : ls.length = n := by simpa [Sh.size] using hl
  subst hln
  exact ⟨ls, b, some c, fun h => List.length_eq_zero_iff.1 (hb h), he⟩
abbrev pairSh : Sh := .cons (.int .u8) (.cons (.int .u8) .nil)
abbrev rawSh : Sh := .cons (.int .u8) (.cons (.int .u8) (.cons (.sl (.int .u8)) .nil))
theorem pair_of {xs : List AV} (h : pairSh.ok xs) : ∃ a b : Nat, a < 256 ∧ b < 256 ∧ xs = [.lit (.int .u8 a), .lit (.int .u8 b)] := by
  obtain ⟨_, _, rfl, ⟨a, rfl, ha⟩, _, _, rfl, ⟨b, rfl, hb⟩, rfl⟩ := h
  obtain ⟨a, ha', rfl⟩ := wf_u8 ha
  obtain ⟨b, hb', rfl⟩ := wf_u8 hb
  exact ⟨a, b, ha', hb', rfl⟩
theorem rawR_of {xs : List AV} (h : rawSh.ok xs) : ∃ k a d, RawR k a d (.agg xs) := by
  obtain ⟨_, _, rfl, ⟨a, rfl, ha⟩, _, _, rfl, ⟨b, rfl, hb⟩, _, _, rfl, hL, rfl⟩ := h
  obtain ⟨a, ha', rfl⟩ := wf_u8 ha
  obtain ⟨b, hb', rfl⟩ := wf_u8 hb
  obtain ⟨bb, n, c, ys, rfl, h'⟩ := hL
  obtain ⟨d, hd⟩ := u8_row ⟨bb, n, c, ys, rfl, h'⟩
  exact ⟨a, b, d, ha', hb', _, hd, rfl⟩
theorem choice {α : Type} {P : Nat → α → Prop} : ∀ n : Nat, (∀ i, i < n → ∃ t, P i t) → ∃ l : List α, l.length = n ∧ ∀ (i : Nat) (h : i < l.length), P i l[i]
  | 0, _ => ⟨[], rfl, fun i h => absurd h (by simp)⟩
  | n + 1, h => by
    obtain ⟨l, h1, h2⟩ := choice n fun i hi => h i (by omega)
    obtain ⟨t, ht⟩ := h n (by omega)
    refine ⟨l ++ [t], by simp [h1], fun i hi => ?_⟩
    by_cases e : i < l.length
    · rw [List.getElem_append_left e]; exact h2 i e
    · have : i = l.length := by simp at hi; omega
      subst this
      simp only [List.getElem_concat_length]
      rw [h1]
      exact ht
theorem raws_of {x : AV} (h : Sh.ok (.sl rawSh) [x]) : ∃ l, Raws l x := by
  obtain ⟨b, n, c, ys, he, hn, hl, hb, hi⟩ := h
  obtain ⟨l, h1, h2⟩ := choice (P := fun i (t : Nat × Nat × List UInt8) => RawR t.1 t.2.1 t.2.2 (.agg ((ys.drop (i * 3)).take 3))) n fun i h => by
    obtain ⟨k, a, d, hr⟩ := rawR_of (hi i h)
    exact ⟨(k, a, d), hr⟩
  simp only [List.cons.injEq, and_true] at he
  subst h1
  exact ⟨l, b, some c, ys, he, hl, by simp [maxLen] at hn; omega, h2⟩
theorem prs_of {x : AV} (h : Sh.ok (.sl pairSh) [x]) : ∃ l, Prs l x := by
  obtain ⟨b, n, c, ys, he, hn, hl, hb, hi⟩ := h
  obtain ⟨l, h1, h2⟩ := choice (P := fun i (t : Nat × Nat) => t.1 < 256 ∧ t.2 < 256 ∧ (ys.drop (i * 2)).take 2 = [.lit (.int .u8 (t.1 : Nat)), .lit (.int .u8 (t.2 : Nat))]) n fun i h => by
    obtain ⟨a, b, ha, hb, hr⟩ := pair_of (hi i h)
    exact ⟨(a, b), ha, hb, hr⟩
  simp only [List.cons.injEq, and_true] at he
  subst h1
  exact ⟨l, b, some c, ys, he, hl, by simp [maxLen] at hn; omega, h2⟩
theorem Prs.noRef {l : List (Nat × Nat)} {x : AV} (h : Prs l x) : x.noRef deep = true := by
  obtain ⟨_, _, _, rfl, _⟩ := h
  rfl
theorem RawR.noRef {k a : Nat} {d : List UInt8} {x : AV} (h : RawR k a d x) : x.noRef deep = true := by
  obtain ⟨_, _, y, ⟨_, _, _, rfl⟩, rfl⟩ := h
  rfl
theorem Raws.noRef {l : List (Nat × Nat × List UInt8)} {x : AV} (h : Raws l x) : x.noRef deep = true := by
  obtain ⟨_, _, _, rfl, _⟩ := h
  rfl
abbrev raws2Sh : Sh := .cons (.sl rawSh) (.cons (.sl rawSh) .nil)
abbrev raws3Sh : Sh := .cons (.sl rawSh) (.cons (.sl rawSh) (.cons (.sl rawSh) .nil))
theorem raws1_of {ys : List AV} (h : (Sh.sl rawSh).ok ys) : ∃ x l, ys = [x] ∧ Raws l x := by
  obtain ⟨b, n, c, zs, rfl, h'⟩ := h
  obtain ⟨l, hl⟩ := raws_of ⟨b, n, c, zs, rfl, h'⟩
  exact ⟨_, l, rfl, hl⟩
theorem raws2_of {xs : List AV} (h : raws2Sh.ok xs) : ∃ x1 x2 l1 l2, xs = [x1, x2] ∧ Raws l1 x1 ∧ Raws l2 x2 := by
  obtain ⟨_, _, rfl, h1, _, _, rfl, h2, rfl⟩ := h
  obtain ⟨x1, l1, rfl, r1⟩ := raws1_of h1
  obtain ⟨x2, l2, rfl, r2⟩ := raws1_of h2
  exact ⟨x1, x2, l1, l2, rfl, r1, r2⟩
theorem raws3_of {xs : List AV} (h : raws3Sh.ok xs) : ∃ x1 x2 x3 l1 l2 l3, xs = [x1, x2, x3] ∧ Raws l1 x1 ∧ Raws l2 x2 ∧ Raws l3 x3 := by
  obtain ⟨_, _, rfl, h1, _, _, rfl, h2, _, _, rfl, h3, rfl⟩ := h
  obtain ⟨x1, l1, rfl, r1⟩ := raws1_of h1
  obtain ⟨x2, l2, rfl, r2⟩ := raws1_of h2
  obtain ⟨x3, l3, rfl, r3⟩ := raws1_of h3
  exact ⟨x1, x2, x3, l1, l2, l3, rfl, r1, r2, r3⟩
theorem raws2_noRef {x1 x2 : AV} {l1 l2 : List (Nat × Nat × List UInt8)} (h1 : Raws l1 x1) (h2 : Raws l2 x2) : (AV.agg [x1, x2]).noRef deep = true := by
  obtain ⟨_, _, _, rfl, _⟩ := h1
  obtain ⟨_, _, _, rfl, _⟩ := h2
  rfl
theorem raws3_noRef {x1 x2 x3 : AV} {l1 l2 l3 : List (Nat × Nat × List UInt8)} (h1 : Raws l1 x1) (h2 : Raws l2 x2) (h3 : Raws l3 x3) : (AV.agg [x1, x2, x3]).noRef deep = true := by
  obtain ⟨_, _, _, rfl, _⟩ := h1
  obtain ⟨_, _, _, rfl, _⟩ := h2
  obtain ⟨_, _, _, rfl, _⟩ := h3
  rfl
theorem args3 {w : World} {x x2 x3 : AV} {v v2 v3 : Value} (h : VR w noOw noPhi x v) (h2 : VR w noOw noPhi x2 v2) (h3 : VR w noOw noPhi x3 v3) : ArgsR w noOw noPhi [x, x2, x3] #[v, v2, v3] := by
  refine ⟨rfl, fun j a b e1 e2 => ?_⟩
  match j with
  | 0 => simp at e1 e2; subst e1; subst e2; exact h
  | 1 => simp at e1 e2; subst e1; subst e2; exact h2
  | 2 => simp at e1 e2; subst e1; subst e2; exact h3
  | j + 3 => simp at e1
end Go.Ev
