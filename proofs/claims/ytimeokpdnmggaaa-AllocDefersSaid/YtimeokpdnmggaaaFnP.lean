/- Plain laws of allocators. -/
import Derived.Test.YtimeokpdnmggaaaFnK
set_option linter.unusedVariables false
set_option linter.unusedSimpArgs false
namespace Go.Ev
open Go Go.Proofs

theorem cnt_set_true {u : List Bool} {i : Nat} (h : u[i]? = some false) : cnt (u.set i true) + 1 = cnt u := by
  obtain ⟨h1, h2⟩ := List.getElem?_eq_some_iff.1 h
  have := List.count_set (a := true) (b := false) (l := u) (i := i) h1
  simp only [cnt]
  rw [this, h2]
  have hp : 0 < u.count false := List.count_pos_iff.2 (h2 ▸ List.getElem_mem h1)
  simp
  omega
theorem cnt_set_false {u : List Bool} {i : Nat} (h : u[i]? = some true) : cnt (u.set i false) = cnt u + 1 := by
  obtain ⟨h1, h2⟩ := List.getElem?_eq_some_iff.1 h
  have := List.count_set (a := false) (b := false) (l := u) (i := i) h1
  simp only [cnt]
  rw [this, h2]
  simp
theorem idx_get {u : List Bool} (h : false ∈ u) : ∃ i : Nat, idx u false = i ∧ u[i]? = some false ∧ ∀ j, j < i → u[j]? = some true := by
  refine ⟨u.idxOf false, by simp [idx, h], ?_, ?_⟩
  · rw [List.getElem?_eq_getElem (List.idxOf_lt_length_of_mem h)]; simp
  · intro j hj
    have hl := List.idxOf_lt_length_of_mem h
    have h1 := List.not_of_lt_findIdx (p := (· == false)) (xs := u) (i := j) hj
    rw [List.getElem?_eq_getElem (by omega)]
    simpa using h1
theorem setAll_one (u : List Bool) (i : Nat) (b : Bool) : setAll u [(i : Int)] b = u.set i b := by simp [setAll]
/-- Taking the first free cell. -/
theorem Vd.first {s : S} (h : Vd s) {k : Int} (hf : false ∈ s.u) (hk0 : 0 ≤ k) (hk : k + 1 ≤ cnt s.u) : Vd { s with u := setAll s.u [idx s.u false] true, k := k } := by
  obtain ⟨i, h1, h2, h3⟩ := idx_get hf
  rw [h1, setAll_one]
  have hc := cnt_set_true h2
  refine ⟨by simpa using h.u0, by simpa using h.u1, hk0, ?_, h.l1, fun j n hj => ?_⟩
  · show k ≤ (cnt (s.u.set i true) : Int)
    omega
  · obtain ⟨a, b, c⟩ := h.ok j n hj
    refine ⟨a, ?_, c⟩
    show (s.u.set i true)[n.toNat]? = some true
    rw [List.getElem?_set]
    split
    · rename_i e
      rw [← e, h2] at b
      cases b
    · exact b
theorem Vd.take {s : S} (h : Vd s) : Vd (takeS s).1 := by
  unfold takeS
  split
  · exact h
  · rename_i hn
    have := h.k0
    exact h.first (cnt_mem (by omega)) h.k0 (by omega)
theorem Vd.spend {s : S} (h : Vd s) : Vd (spendS s).1 := by
  unfold spendS
  split
  · exact h
  · rename_i hn
    have := h.k1
    exact h.first (cnt_mem (by omega)) (by omega) (by omega)
theorem nodup_len : ∀ {l : List Int} {n : Nat}, (∀ (i : Nat) (x : Int), l[i]? = some x → 0 ≤ x ∧ x < n ∧ ¬ x ∈ l.take i) → l.length ≤ n := by
  intro l n h
  have hnd : (l.map Int.toNat).Nodup := by
    rw [List.nodup_iff_pairwise_ne, List.pairwise_iff_getElem]
    intro i j hi hj hij e
    simp only [List.getElem_map] at e
    simp only [List.length_map] at hi hj
    obtain ⟨a1, a2, a3⟩ := h i l[i] (List.getElem?_eq_getElem hi)
    obtain ⟨b1, b2, b3⟩ := h j l[j] (List.getElem?_eq_getElem hj)
    have e' : l[i] = l[j] := by omega
    apply b3
    rw [← e']
    exact List.mem_iff_getElem?.2 ⟨i, by rw [List.getElem?_take_of_lt hij, List.getElem?_eq_getElem hi]⟩
  have hsub : (l.map Int.toNat) ⊆ List.range n := by
    intro x hx
    obtain ⟨y, hy, rfl⟩ := List.mem_map.1 hx
    obtain ⟨i, hi⟩ := List.getElem?_of_mem hy
    obtain ⟨a1, a2, _⟩ := h i y hi
    simp; omega
  have hle := hnd.length_le_of_subset hsub
  simpa using hle
theorem Vd.free {s : S} (h : Vd s) (n : Int) : Vd (freeS s n).1 := by
  unfold freeS
  split
  · rename_i hn
    obtain ⟨n0, n1, n2⟩ := hn
    have hok : ∀ (i : Nat) (x : Int), (s.l ++ [n])[i]? = some x → 0 ≤ x ∧ s.u[x.toNat]? = some true ∧ ¬ x ∈ (s.l ++ [n]).take i := by
      intro i x hx
      rw [List.getElem?_append] at hx
      split at hx
      · rename_i hi
        obtain ⟨a, b, c⟩ := h.ok i x hx
        refine ⟨a, b, ?_⟩
        rw [List.take_append_of_le_length (by omega)]
        exact c
      · rename_i hi
        have hx2 : i - s.l.length = 0 := by
          cases hk : i - s.l.length with
          | zero => rfl
          | succ k => rw [hk] at hx; simp at hx
        rw [hx2] at hx
        simp at hx
        subst hx
        refine ⟨n0, n1, ?_⟩
        rw [List.take_append_of_le_length (by omega), List.take_of_length_le (by omega)]
        exact n2
    refine ⟨h.u0, h.u1, h.k0, h.k1, ?_, hok⟩
    have := nodup_len (l := s.l ++ [n]) (n := s.u.length) fun i x hx => by
      obtain ⟨a, b, c⟩ := hok i x hx
      have := (List.getElem?_eq_some_iff.1 b).1
      exact ⟨a, by omega, c⟩
    exact Nat.le_trans this h.u1
  · exact h
theorem setAll_get (b : Bool) : ∀ (l : List Int) (u : List Bool) (i : Nat), i < u.length → (∀ y ∈ l, 0 ≤ y) → (setAll u l b)[i]? = if (i : Int) ∈ l then some b else u[i]?
  | [], u, i, hi, _ => by simp [setAll]
  | a :: l, u, i, hi, hl => by
    have h := setAll_get b l (u.set a.toNat b) i (by simpa using hi) fun y hy => hl y (List.mem_cons_of_mem _ hy)
    simp only [setAll, List.foldl_cons] at h ⊢
    rw [h]
    have ha := hl a List.mem_cons_self
    by_cases hm : (i : Int) ∈ l
    · rw [if_pos hm, if_pos (List.mem_cons_of_mem _ hm)]
    · rw [if_neg hm, List.getElem?_set]
      by_cases he : a.toNat = i
      · rw [if_pos he, if_pos (by omega), if_pos]
        rw [List.mem_cons]; left; omega
      · rw [if_neg he, if_neg]
        rw [List.mem_cons]
        rintro (h1 | h1)
        · omega
        · exact hm h1
theorem cnt_setAll : ∀ (l : List Int) (u : List Bool), (∀ (i : Nat) (n : Int), l[i]? = some n → 0 ≤ n ∧ u[n.toNat]? = some true ∧ ¬ n ∈ l.take i) → cnt (setAll u l false) = cnt u + l.length
  | [], u, _ => by simp [setAll]
  | a :: l, u, h => by
    obtain ⟨a1, a2, _⟩ := h 0 a rfl
    have h' : ∀ (i : Nat) (n : Int), l[i]? = some n → 0 ≤ n ∧ (u.set a.toNat false)[n.toNat]? = some true ∧ ¬ n ∈ l.take i := by
      intro i n hn
      obtain ⟨b1, b2, b3⟩ := h (i + 1) n hn
      rw [List.take_succ_cons, List.mem_cons, not_or] at b3
      refine ⟨b1, ?_, b3.2⟩
      rw [List.getElem?_set, if_neg (by have := b3.1; omega)]
      exact b2
    have := cnt_setAll l _ h'
    simp only [setAll, List.foldl_cons] at this ⊢
    rw [this, cnt_set_false a2, List.length_cons]
    omega
theorem Vd.commit {s : S} (h : Vd s) : Vd (commitS s) := by
  have hc := cnt_setAll s.l s.u h.ok
  refine ⟨by simpa [commitS, setAll_length] using h.u0, by simpa [commitS, setAll_length] using h.u1, h.k0, ?_, by simp [commitS], fun i n hn => by simp [commitS] at hn⟩
  have := h.k1
  show s.k ≤ (cnt (setAll s.u s.l false) : Int)
  omega
theorem Vd.keep {s : S} (h : Vd s) (n : Int) : Vd (keepS s n).1 := by
  unfold keepS
  split
  · exact h
  · split
    · exact h
    · exact ⟨h.u0, h.u1, by show 0 ≤ n; omega, by show n ≤ (cnt s.u : Int); omega, h.l1, h.ok⟩
theorem Vd.step {s : S} (h : Vd s) (a b : Int) : Vd (stepS s a b) := by
  unfold stepS
  split
  · exact h.take
  · split
    · exact h.spend
    · split
      · exact h.free _
      · split
        · exact h.keep _
        · exact h.commit
theorem take_len (s : S) : (takeS s).1.u.length = s.u.length := by
  unfold takeS
  split
  · rfl
  · exact setAll_length _ _ _
theorem spend_len (s : S) : (spendS s).1.u.length = s.u.length := by
  unfold spendS
  split
  · rfl
  · exact setAll_length _ _ _
theorem free_u (s : S) (n : Int) : (freeS s n).1.u = s.u ∧ (freeS s n).1.k = s.k := by
  unfold freeS
  split <;> exact ⟨rfl, rfl⟩
theorem keep_u (s : S) (n : Int) : (keepS s n).1.u = s.u ∧ (keepS s n).1.l = s.l := by
  unfold keepS
  split
  · exact ⟨rfl, rfl⟩
  · split <;> exact ⟨rfl, rfl⟩
theorem commit_len (s : S) : (commitS s).u.length = s.u.length := setAll_length _ _ _
theorem step_len (s : S) (a b : Int) : (stepS s a b).u.length = s.u.length := by
  unfold stepS
  split
  · exact take_len s
  · split
    · exact spend_len s
    · split
      · rw [(free_u s _).1]
      · split
        · rw [(keep_u s _).1]
        · exact commit_len s
theorem cnt_row (n : Nat) : cnt (List.replicate n false) = n := by simp [cnt]
theorem row0 (n : Nat) : row n 0 = List.replicate n false := by
  rw [row_all (Nat.zero_le _)]; simp
theorem vd_new {n : Nat} (h1 : 1 ≤ n) (h2 : n ≤ 4096) (w : List Bool) (hw : w.length = n) : Vd ⟨w, [], 0⟩ := by
  refine ⟨by show 1 ≤ w.length; omega, by show w.length ≤ 4096; omega, by show (0 : Int) ≤ 0; omega, by show (0 : Int) ≤ (cnt w : Int); omega, by simp, fun i n hn => by simp at hn⟩
end Go.Ev
