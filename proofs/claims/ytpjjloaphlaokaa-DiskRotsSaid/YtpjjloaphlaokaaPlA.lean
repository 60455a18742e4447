/- Disks in plain words: what crashes leave. -/
import Init
set_option linter.unusedVariables false
set_option linter.unusedSimpArgs false
namespace Go.Ev
abbrev By := List UInt8
/-- A write: is it a fence, where, what. -/
abbrev PW := Bool × Nat × By
/-- A fate: its kind, its number. -/
abbrev Ft := Int × Int
def clampN (N : Int) (m : Nat) : Nat := min N.toNat m
def tornB (d e : By) (N : Int) : By := d.take (clampN N d.length) ++ e.drop (clampN N d.length)
def actP (k N : Int) (t : Nat) (d : By) (row : List By) : List By :=
  if k = 0 then row.set t d
  else if k = 2 then row.set t (tornB d (row.getD t []) N)
  else if k = 3 then (if 0 ≤ N ∧ N < row.length then row.set N.toNat d else row)
  else row
def ftOf (fs : List Ft) (n : Nat) : Ft := fs.getD n (1, 0)
def finP (fs : List Ft) : List PW → Nat → Bool → List By → List By
  | [], _, _, row => row
  | (true, _, _) :: r, n, whole, row => if whole then finP fs r n whole row else row
  | (false, t, d) :: r, n, whole, row => finP fs r (n + 1) (whole && decide ((ftOf fs n).1 = 0)) (actP (ftOf fs n).1 (ftOf fs n).2 t d row)
def doneP (ts : List PW) (row : List By) : List By := ts.foldl (fun row x => if x.1 then row else row.set x.2.1 x.2.2) row
/-- How many writes. -/
def wr : List PW → Nat
  | [] => 0
  | (true, _, _) :: r => wr r
  | (false, _, _) :: r => wr r + 1
theorem wr_app : ∀ a b : List PW, wr (a ++ b) = wr a + wr b
  | [], b => by simp [wr]
  | (true, _, _) :: r, b => by simp [wr, wr_app r b]
  | (false, _, _) :: r, b => by simp [wr, wr_app r b]; omega
theorem wr_le : ∀ a : List PW, wr a ≤ a.length
  | [] => Nat.le_refl _
  | (true, _, _) :: r => by have := wr_le r; simp [wr]; omega
  | (false, _, _) :: r => by have := wr_le r; simp [wr]; omega
theorem actP_len (k N : Int) (t : Nat) (d : By) (row : List By) : (actP k N t d row).length = row.length := by
  unfold actP
  repeat' split
  all_goals simp
theorem finP_len (fs : List Ft) : ∀ (ts : List PW) (n : Nat) (w : Bool) (row : List By), (finP fs ts n w row).length = row.length
  | [], _, _, _ => rfl
  | (true, _, _) :: r, n, w, row => by
    simp only [finP]
    split
    · exact finP_len fs r _ _ _
    · rfl
  | (false, t, d) :: r, n, w, row => by
    simp only [finP]
    rw [finP_len fs r, actP_len]
theorem doneP_len (ts : List PW) : ∀ row : List By, (doneP ts row).length = row.length := by
  induction ts with
  | nil => intro row; rfl
  | cons x r ih =>
    intro row
    obtain ⟨f, t, d⟩ := x
    show (doneP r _).length = _
    rw [ih]
    cases f <;> simp
theorem doneP_app (a b : List PW) (row : List By) : doneP (a ++ b) row = doneP b (doneP a row) := by simp [doneP, List.foldl_append]
theorem doneP_cons (x : PW) (r : List PW) (row : List By) : doneP (x :: r) row = doneP r (if x.1 then row else row.set x.2.1 x.2.2) := rfl

theorem actP_bound {m : Nat} {k N : Int} {t : Nat} {d : By} {row : List By} (hr : ∀ x ∈ row, x.length ≤ m) (hd : d.length ≤ m) : ∀ x ∈ actP k N t d row, x.length ≤ m := by
  intro x hx
  unfold actP at hx
  split at hx
  · rcases List.mem_or_eq_of_mem_set hx with h | rfl
    · exact hr x h
    · exact hd
  · split at hx
    · rcases List.mem_or_eq_of_mem_set hx with h | rfl
      · exact hr x h
      · have : (row.getD t []).length ≤ m := by
          cases h : row[t]? with
          | none => simp [List.getD, h]
          | some y => simp only [List.getD, h, Option.getD_some]; exact hr y (List.mem_of_getElem? h)
        simp only [tornB, List.length_append, List.length_take, List.length_drop, clampN]
        omega
    · split at hx
      · split at hx
        · rcases List.mem_or_eq_of_mem_set hx with h | rfl
          · exact hr x h
          · exact hd
        · exact hr x hx
      · exact hr x hx
theorem finP_bound {m : Nat} (fs : List Ft) : ∀ (ts : List PW) (n : Nat) (w : Bool) (row : List By), (∀ x ∈ row, x.length ≤ m) → (∀ x ∈ ts, x.2.2.length ≤ m) → ∀ x ∈ finP fs ts n w row, x.length ≤ m
  | [], _, _, _, hr, _ => hr
  | (true, _, _) :: r, n, w, row, hr, ht => by
    simp only [finP]
    split
    · exact finP_bound fs r _ _ _ hr fun x hx => ht x (List.mem_cons_of_mem _ hx)
    · exact hr
  | (false, t, d) :: r, n, w, row, hr, ht => by
    simp only [finP]
    exact finP_bound fs r _ _ _ (actP_bound hr (ht _ List.mem_cons_self)) fun x hx => ht x (List.mem_cons_of_mem _ hx)

/-! All done; all lost -/
theorem fin_whole (fs : List Ft) : ∀ (a b : List PW) (n : Nat) (row : List By), (∀ j, j < wr a → (ftOf fs (n + j)).1 = 0) → finP fs (a ++ b) n true row = finP fs b (n + wr a) true (doneP a row)
  | [], b, n, row, _ => by simp [wr, doneP]
  | (true, t, d) :: r, b, n, row, h => by
    simp only [List.cons_append, finP, if_true]
    exact fin_whole fs r b n row h
  | (false, t, d) :: r, b, n, row, h => by
    have h0 := h 0 (by simp [wr])
    simp only [Nat.add_zero] at h0
    simp only [List.cons_append, finP, h0, decide_true, Bool.and_true]
    rw [fin_whole fs r b (n + 1) _ fun j hj => by
      have := h (j + 1) (by simp [wr]; omega)
      rwa [show n + (j + 1) = n + 1 + j by omega] at this]
    rw [doneP_cons]
    simp only [wr, actP, if_true, Bool.false_eq_true, if_false]
    rw [show n + 1 + wr r = n + (wr r + 1) by omega]
theorem fin_done (fs : List Ft) (a : List PW) (n : Nat) (row : List By) (h : ∀ j, j < wr a → (ftOf fs (n + j)).1 = 0) : finP fs a n true row = doneP a row := by
  have := fin_whole fs a [] n row h
  simpa [finP] using this
theorem fin_lost (fs : List Ft) (h : ∀ j, (ftOf fs j).1 ≠ 0 ∧ (ftOf fs j).1 ≠ 2 ∧ (ftOf fs j).1 ≠ 3) : ∀ (a : List PW) (n : Nat) (w : Bool) (row : List By), finP fs a n w row = row
  | [], _, _, _ => rfl
  | (true, t, d) :: r, n, w, row => by
    simp only [finP]
    split
    · exact fin_lost fs h r _ _ _
    · rfl
  | (false, t, d) :: r, n, w, row => by
    simp only [finP]
    rw [fin_lost fs h r]
    obtain ⟨h1, h2, h3⟩ := h n
    simp [actP, h1, h2, h3]

/-! Fences -/
def allDone (fs : List Ft) : List PW → Nat → Bool
  | [], _ => true
  | (true, _, _) :: r, n => allDone fs r n
  | (false, _, _) :: r, n => decide ((ftOf fs n).1 = 0) && allDone fs r (n + 1)
theorem allDone_spec (fs : List Ft) : ∀ (a : List PW) (n : Nat), allDone fs a n = true → ∀ j, j < wr a → (ftOf fs (n + j)).1 = 0
  | [], _, _, j, hj => by simp [wr] at hj
  | (true, _, _) :: r, n, h, j, hj => allDone_spec fs r n h j hj
  | (false, _, _) :: r, n, h, j, hj => by
    simp only [allDone, Bool.and_eq_true, decide_eq_true_eq] at h
    cases j with
    | zero => exact h.1
    | succ j =>
      have := allDone_spec fs r (n + 1) h.2 j (by simp [wr] at hj; omega)
      rwa [show n + (j + 1) = n + 1 + j by omega]
theorem allDone_snoc (fs : List Ft) (x : PW) : ∀ (a : List PW) (n : Nat), allDone fs (a ++ [x]) n = (allDone fs a n && (x.1 || decide ((ftOf fs (n + wr a)).1 = 0)))
  | [], n => by
    obtain ⟨f, t, d⟩ := x
    cases f with
    | true => rfl
    | false => simp only [List.nil_append, allDone, wr, Nat.add_zero, Bool.and_true, Bool.true_and, Bool.false_or]; rfl
  | (true, _, _) :: r, n => by simp only [List.cons_append, allDone, wr]; exact allDone_snoc fs x r n
  | (false, _, _) :: r, n => by
    have ih := allDone_snoc fs x r (n + 1)
    rw [show n + 1 + wr r = n + (wr r + 1) by omega] at ih
    show (decide ((ftOf fs n).1 = 0) && allDone fs (r ++ [x]) (n + 1)) = _
    rw [ih, ← Bool.and_assoc]
    rfl
theorem fin_stop (fs : List Ft) (t : Nat) (d : By) (b : List PW) : ∀ (a : List PW) (n : Nat) (w : Bool) (row : List By), (w && allDone fs a n) = false → finP fs (a ++ (true, t, d) :: b) n w row = finP fs a n w row
  | [], n, w, row, h => by
    simp only [allDone, Bool.and_true] at h
    simp [finP, h]
  | (true, _, _) :: r, n, w, row, h => by
    simp only [List.cons_append, finP]
    split
    · rename_i hw
      exact fin_stop fs t d b r n w row h
    · rfl
  | (false, _, _) :: r, n, w, row, h => by
    simp only [List.cons_append, finP]
    refine fin_stop fs t d b r _ _ _ ?_
    simp only [allDone] at h
    rw [Bool.and_assoc]
    exact h
theorem fin_congr (fs fs' : List Ft) : ∀ (a : List PW) (n m : Nat) (w : Bool) (row : List By), (∀ j, ftOf fs (n + j) = ftOf fs' (m + j)) → finP fs a n w row = finP fs' a m w row
  | [], _, _, _, _, _ => rfl
  | (true, _, _) :: r, n, m, w, row, h => by
    simp only [finP]
    split
    · exact fin_congr fs fs' r n m w row h
    · rfl
  | (false, _, _) :: r, n, m, w, row, h => by
    simp only [finP]
    have h0 := h 0
    simp only [Nat.add_zero] at h0
    rw [h0]
    exact fin_congr fs fs' r _ _ _ _ fun j => by
      have := h (j + 1)
      rwa [show n + (j + 1) = n + 1 + j by omega, show m + (j + 1) = m + 1 + j by omega] at this
theorem ft_drop (fs : List Ft) (m j : Nat) : ftOf (fs.drop m) j = ftOf fs (m + j) := by simp [ftOf, List.getD, List.getElem?_drop]

/-! What a cell has after a crash -/
/-- A write could have left this. -/
def leftBy (fs : List Ft) (i : Nat) (x : PW) (n : Nat) (c : By) : Prop :=
  x.1 = false ∧ n < fs.length ∧ (((ftOf fs n).1 = 0 ∧ x.2.1 = i ∨ (ftOf fs n).1 = 3 ∧ (ftOf fs n).2 = (i : Int)) ∧ c = x.2.2 ∨
    (ftOf fs n).1 = 2 ∧ x.2.1 = i ∧ clampN (ftOf fs n).2 x.2.2.length ≤ c.length ∧ c.take (clampN (ftOf fs n).2 x.2.2.length) = x.2.2.take (clampN (ftOf fs n).2 x.2.2.length))
theorem act_cell {fs : List Ft} {n t i : Nat} {d : By} {row : List By} {c : By} (ht : t < row.length) (h : (actP (ftOf fs n).1 (ftOf fs n).2 t d row)[i]? = some c) : row[i]? = some c ∨ leftBy fs i (false, t, d) n c := by
  have hn : (ftOf fs n).1 ≠ 1 → n < fs.length := by
    intro h1
    apply Classical.byContradiction
    intro h2
    apply h1
    simp [ftOf, List.getD, List.getElem?_eq_none (show fs.length ≤ n by omega)]
  generalize hf : ftOf fs n = f at h
  obtain ⟨k, N⟩ := f
  rw [hf] at hn
  unfold actP at h
  simp only at h hn
  split at h
  · rename_i h0
    by_cases e : t = i
    · subst e
      rw [List.getElem?_set_self ht] at h
      cases h
      exact .inr ⟨rfl, hn (by omega), .inl ⟨.inl ⟨by rw [hf]; exact h0, rfl⟩, rfl⟩⟩
    · rw [List.getElem?_set_ne e] at h
      exact .inl h
  · split at h
    · rename_i h2
      by_cases e : t = i
      · subst e
        rw [List.getElem?_set_self ht] at h
        cases h
        refine .inr ⟨rfl, hn (by omega), .inr ⟨by rw [hf]; exact h2, rfl, ?_, ?_⟩⟩
        · simp only [hf, tornB, List.length_append, List.length_take, clampN]
          omega
        · simp only [hf, tornB]
          rw [List.take_append_of_le_length (by simp [clampN]), List.take_take, Nat.min_self]
      · rw [List.getElem?_set_ne e] at h
        exact .inl h
    · split at h
      · rename_i h3
        split at h
        · rename_i hN
          by_cases e : N.toNat = i
          · subst e
            rw [List.getElem?_set_self (by omega)] at h
            cases h
            exact .inr ⟨rfl, hn (by omega), .inl ⟨.inr ⟨by rw [hf]; exact h3, by rw [hf]; exact (Int.toNat_of_nonneg hN.1).symm⟩, rfl⟩⟩
          · rw [List.getElem?_set_ne e] at h
            exact .inl h
        · exact .inl h
      · exact .inl h
/-- The number of a write among the writes. -/
theorem fin_cell (fs : List Ft) (i : Nat) (c : By) : ∀ (ts : List PW) (n : Nat) (w : Bool) (row : List By), (∀ x ∈ ts, x.1 = false → x.2.1 < row.length) → (finP fs ts n w row)[i]? = some c →
    row[i]? = some c ∨ ∃ a x b, ts = a ++ x :: b ∧ leftBy fs i x (n + wr a) c
  | [], _, _, _, _, h => .inl h
  | (true, t, d) :: r, n, w, row, ht, h => by
    simp only [finP] at h
    split at h
    · rcases fin_cell fs i c r n w row (fun x hx => ht x (List.mem_cons_of_mem _ hx)) h with h1 | ⟨a, x, b, rfl, h1⟩
      · exact .inl h1
      · exact .inr ⟨(true, t, d) :: a, x, b, rfl, h1⟩
    · exact .inl h
  | (false, t, d) :: r, n, w, row, ht, h => by
    simp only [finP] at h
    rcases fin_cell fs i c r _ _ _ (fun x hx hf => by rw [actP_len]; exact ht x (List.mem_cons_of_mem _ hx) hf) h with h1 | ⟨a, x, b, rfl, h1⟩
    · rcases act_cell (ht _ List.mem_cons_self rfl) h1 with h2 | h2
      · exact .inl h2
      · exact .inr ⟨[], _, r, rfl, by simpa [wr] using h2⟩
    · exact .inr ⟨(false, t, d) :: a, x, b, rfl, by
        rw [show n + wr ((false, t, d) :: a) = n + 1 + wr a by simp [wr]; omega]
        exact h1⟩

theorem left_fence {fs : List Ft} {i n t : Nat} {d c : By} {r : List PW} (h : ∃ a x b, (true, t, d) :: r = a ++ x :: b ∧ leftBy fs i x (n + wr a) c) : ∃ a x b, r = a ++ x :: b ∧ leftBy fs i x (n + wr a) c := by
  obtain ⟨a, x, b, h1, h2⟩ := h
  cases a with
  | nil =>
    simp only [List.nil_append, List.cons.injEq] at h1
    obtain ⟨rfl, rfl⟩ := h1
    exact absurd h2.1 (by simp)
  | cons y a =>
    simp only [List.cons_append, List.cons.injEq] at h1
    obtain ⟨rfl, rfl⟩ := h1
    exact ⟨a, x, b, rfl, h2⟩
theorem left_write {fs : List Ft} {i n t : Nat} {d c : By} {r : List PW} (h : ∃ a x b, (false, t, d) :: r = a ++ x :: b ∧ leftBy fs i x (n + wr a) c) : leftBy fs i (false, t, d) n c ∨ ∃ a x b, r = a ++ x :: b ∧ leftBy fs i x (n + 1 + wr a) c := by
  obtain ⟨a, x, b, h1, h2⟩ := h
  cases a with
  | nil =>
    simp only [List.nil_append, List.cons.injEq] at h1
    obtain ⟨rfl, rfl⟩ := h1
    exact .inl h2
  | cons y a =>
    simp only [List.cons_append, List.cons.injEq] at h1
    obtain ⟨rfl, rfl⟩ := h1
    refine .inr ⟨a, x, b, rfl, ?_⟩
    rw [show n + 1 + wr a = n + wr ((false, t, d) :: a) by simp [wr]; omega]
    exact h2
theorem left_none {fs : List Ft} {i n : Nat} {c : By} {r : List PW} (hn : fs.length ≤ n) : ¬ ∃ a x b, r = a ++ x :: b ∧ leftBy fs i x (n + wr a) c := by
  rintro ⟨a, x, b, _, h⟩
  have := h.2.1
  omega

/-! Two writes that change places -/
theorem act_comm {k1 k2 N1 N2 : Int} {t1 t2 : Nat} {d1 d2 : By} {row : List By} (ht : t1 ≠ t2) (h1 : k1 ≠ 3) (h2 : k2 ≠ 3) : actP k2 N2 t2 d2 (actP k1 N1 t1 d1 row) = actP k1 N1 t1 d1 (actP k2 N2 t2 d2 row) := by
  have g1 : ∀ x : By, (row.set t1 x).getD t2 [] = row.getD t2 [] := fun x => by simp [List.getD, List.getElem?_set_ne ht]
  have g2 : ∀ x : By, (row.set t2 x).getD t1 [] = row.getD t1 [] := fun x => by simp [List.getD, List.getElem?_set_ne (Ne.symm ht)]
  have c : ∀ x y : By, (row.set t1 x).set t2 y = (row.set t2 y).set t1 x := fun x y => List.set_comm _ _ ht
  have z2 : ¬ ((2 : Int) = 0) := by decide
  rcases Classical.em (k1 = 0) with a0 | a0
  · subst a0
    rcases Classical.em (k2 = 0) with b0 | b0
    · subst b0; simp only [actP, if_true, c]
    · rcases Classical.em (k2 = 2) with b2 | b2
      · subst b2; simp only [actP, if_true, if_neg z2, g1, c]
      · simp only [actP, if_true, if_neg b0, if_neg b2, if_neg h2]
  · rcases Classical.em (k1 = 2) with a2 | a2
    · subst a2
      rcases Classical.em (k2 = 0) with b0 | b0
      · subst b0; simp only [actP, if_true, if_neg z2, g2, c]
      · rcases Classical.em (k2 = 2) with b2 | b2
        · subst b2; simp only [actP, if_true, if_neg z2, g1, g2, c]
        · simp only [actP, if_true, if_neg b0, if_neg b2, if_neg h2, if_neg z2]
    · simp only [actP, if_neg a0, if_neg a2, if_neg h1]

theorem fin_swap {fs fs' : List Ft} {t1 t2 : Nat} {d1 d2 : By} (ht : t1 ≠ t2) (z : List PW) : ∀ (a : List PW) (n : Nat) (w : Bool) (row : List By),
    (∀ j, j < wr a → ftOf fs' (n + j) = ftOf fs (n + j)) → ftOf fs' (n + wr a) = ftOf fs (n + wr a + 1) → ftOf fs' (n + wr a + 1) = ftOf fs (n + wr a) → (∀ j, ftOf fs' (n + wr a + 2 + j) = ftOf fs (n + wr a + 2 + j)) →
    (ftOf fs (n + wr a)).1 ≠ 3 → (ftOf fs (n + wr a + 1)).1 ≠ 3 →
    finP fs (a ++ (false, t1, d1) :: (false, t2, d2) :: z) n w row = finP fs' (a ++ (false, t2, d2) :: (false, t1, d1) :: z) n w row
  | [], n, w, row, _, e1, e2, e3, k1, k2 => by
    simp only [wr, Nat.add_zero] at e1 e2 e3 k1 k2
    simp only [List.nil_append, finP, e1, e2]
    rw [act_comm ht k1 k2]
    rw [fin_congr fs fs' z (n + 1 + 1) (n + 1 + 1) _ _ fun j => (e3 j).symm]
    congr 1
    rw [Bool.and_assoc, Bool.and_assoc, Bool.and_comm (decide _)]
  | (true, _, _) :: r, n, w, row, e0, e1, e2, e3, k1, k2 => by
    simp only [List.cons_append, finP]
    split
    · exact fin_swap ht z r n w row e0 e1 e2 e3 k1 k2
    · rfl
  | (false, _, _) :: r, n, w, row, e0, e1, e2, e3, k1, k2 => by
    simp only [wr] at e0 e1 e2 e3 k1 k2
    have hz := e0 0 (by omega)
    simp only [Nat.add_zero] at hz
    simp only [List.cons_append, finP, hz]
    have s : ∀ m, n + (wr r + 1) + m = n + 1 + wr r + m := fun m => by omega
    have s0 : n + (wr r + 1) = n + 1 + wr r := by omega
    rw [s0] at e1 e2 k1 k2
    exact fin_swap ht z r (n + 1) _ _ (fun j hj => by
      have := e0 (j + 1) (by omega)
      rwa [show n + (j + 1) = n + 1 + j by omega] at this) e1 e2 (fun j => by have := e3 j; rwa [s0] at this) k1 k2
theorem done_swap {t1 t2 : Nat} {d1 d2 : By} (ht : t1 ≠ t2) (a z : List PW) (row : List By) : doneP (a ++ (false, t1, d1) :: (false, t2, d2) :: z) row = doneP (a ++ (false, t2, d2) :: (false, t1, d1) :: z) row := by
  rw [doneP_app, doneP_app, doneP_cons, doneP_cons, doneP_cons, doneP_cons]
  simp only [Bool.false_eq_true, if_false]
  rw [List.set_comm _ _ ht]
end Go.Ev
