/- What the disk's functions compute: Get, texts of cells. -/
import Derived.Test.YtpjjloaphlaokaaFdK
import Derived.Laws.Strings
set_option linter.unusedVariables false
set_option linter.unusedSimpArgs false
set_option maxRecDepth 20000
namespace Go.Ev
open Go Go.Proofs

theorem getR_done (t : Nat) : ∀ (ts : List T3) (row : List AV), t < row.length → (∀ x ∈ ts, x.1 = false → 0 ≤ x.2.1) → getR (t : Int) row ts = (doneRow ts row).getD t .und
  | [], row, ht, _ => by simp [getR, lastHit, doneRow]
  | x :: r, row, ht, h => by
    obtain ⟨f, n, d⟩ := x
    have ih := fun row' h' => getR_done t r row' h' fun x hx => h x (List.mem_cons_of_mem _ hx)
    show getR (t : Int) row ((f, n, d) :: r) = (doneRow r (if f = true then row else row.set n.toNat d)).getD t .und
    cases f with
    | true =>
      simp only [if_true]
      rw [← ih row ht]
      simp only [getR, lastHit]
      cases lastHit (t : Int) r <;> simp
    | false =>
      have hn := h _ List.mem_cons_self rfl
      simp only [Bool.false_eq_true, if_false]
      rw [← ih _ (by simpa using ht)]
      simp only [getR, lastHit]
      cases lastHit (t : Int) r with
      | some d => rfl
      | none =>
        simp only [Bool.not_false, Bool.true_and, decide_eq_true_eq, Int.toNat_natCast]
        by_cases e : n = (t : Int)
        · subst e
          simp [List.getD, List.getElem?_set_self, ht]
        · have hn' : 0 ≤ n := hn
          have : n.toNat ≠ t := by omega
          simp [e, List.getD, List.getElem?_set_ne this]
/-- What is read from a cell: what it has when all is done. -/
theorem p14 {D : Dsk} (hok : DOk D) {v : AV} (hv : DR D v) {t : Nat} (ht : t < D.cells.length) : Pu tab 14 [v, iv t] (fun r => ∃ y d, (doneRow D.ts D.cells)[t]? = some y ∧ Same d y ∧ r = .tup [y, iv 0]) := by
  obtain ⟨nc, cc, nq, cq, h1, h2, rfl⟩ := hv
  have hc1 := hok.c1
  have hq1 := hok.q1
  have hlen : t < (doneRow D.ts D.cells).length := by rw [doneRow_len]; exact ht
  have hy := List.getElem?_eq_getElem hlen
  have hg := getR_done t D.ts D.cells ht fun x hx hf => ((hok.ts x hx).2 hf).1
  have hg2 : (doneRow D.ts D.cells).getD t .und = (doneRow D.ts D.cells)[t] := by simp [List.getD, hy]
  obtain ⟨nl, cap, d, e1, e2, e3⟩ := doneRow_dat D.ts D.cells hok.cells (fun x hx => (hok.ts x hx).1) _ (List.getElem_mem hlen)
  have ht2 : tab 14 = some (extFn getF) := by unfold tab; rfl
  have hcl := (hok.cells _ (List.getElem_mem ht)).sl
  refine (pu_ext (v := .tup [(doneRow D.ts D.cells)[t], iv 0]) ht2 ?_).mono fun r hr => ?_
  · simp only [getF, trip_flat D.ts fun x hx => (hok.ts x hx).1.sl]
    rw [if_pos ⟨trivial, trivial, by omega⟩, if_pos ⟨by omega, by omega⟩]
    simp only [List.getD, Int.toNat_natCast, List.getElem?_eq_getElem ht, Option.getD_some, hcl, if_true]
    rw [hg, hg2]
  · subst hr
    exact ⟨_, d, hy, ⟨nl, cap, e1, e3⟩, rfl⟩
theorem p14n {D : Dsk} (hok : DOk D) {v : AV} (hv : DR D v) {t : Int} (ht : hasC D.cells.length t = false) : Pu tab 14 [v, iv t] (· = .tup [.sl true 0 (some 0) [], iv 230]) := by
  obtain ⟨nc, cc, nq, cq, h1, h2, rfl⟩ := hv
  have hc1 := hok.c1
  have hq1 := hok.q1
  have ht2 : tab 14 = some (extFn getF) := by unfold tab; rfl
  refine pu_ext ht2 ?_
  simp only [getF, trip_flat D.ts fun x hx => (hok.ts x hx).1.sl]
  have hn : ¬ (0 ≤ t ∧ t < (D.cells.length : Int)) := by
    rintro ⟨e1, e2⟩
    simp [hasC, e1, e2] at ht
  rw [if_pos ⟨trivial, trivial, by omega⟩, if_neg hn]

theorem DR.done {sz n : Nat} {row : List AV} {v : AV} (h : DR ⟨sz, row, []⟩ v) (hn : row.length = n) : ∃ (nc : Bool) (cc : Option Nat) (nq : Bool) (cq : Option Nat), v = .agg [iv sz, .sl nc n cc row, .sl nq 0 cq []] := by
  obtain ⟨nc, cc, nq, cq, _, _, rfl⟩ := h
  subst hn
  exact ⟨nc, cc, nq, cq, rfl⟩

/-- A text. -/
abbrev tx (d : List UInt8) : AV := .lit (.string ⟨d.toArray⟩)
theorem uv_byte (b : UInt8) : byteOf (uv b) = some b := by
  simp [uv, byteOf]
theorem bytes_of : ∀ d : List UInt8, (d.map uv).mapM byteOf = some d
  | [] => rfl
  | b :: r => by rw [List.map_cons, List.mapM_cons, uv_byte, bytes_of r]; rfl
theorem map_uv_inj {d e : List UInt8} (h : d.map uv = e.map uv) : d = e := by
  have h1 := bytes_of d
  rw [h, bytes_of e] at h1
  exact (Option.some.inj h1).symm
theorem Same.inj {d e : List UInt8} {x : AV} (h : Same d x) (k : Same e x) : d = e := by
  obtain ⟨_, _, _, rfl⟩ := h
  obtain ⟨_, _, _, h2⟩ := k
  simp only [AV.sl.injEq] at h2
  exact map_uv_inj h2.2.2.2

theorem ev_b2s {g : Look} {nl : Bool} {cap : Option Nat} (d : List UInt8) : evR g .b2s [.sl nl d.length cap (d.map uv)] = some (tx d) := by
  simp only [evR, slC, List.length_map, Nat.mul_one, if_true, b2sOf, bytes_of, Option.map_some]
theorem tx_list (d : List UInt8) : (⟨d.toArray⟩ : ByteArray).toList = d := by
  exact ByteArray.toList_mk d
theorem sb_sneq (d e : List UInt8) : sbin .neq (.string ⟨d.toArray⟩) (.string ⟨e.toArray⟩) = some (.bool (!decide (d = e))) := by
  simp only [sbin, tx_list]
  by_cases h : d = e <;> simp [h]
theorem sb_seq (d e : List UInt8) : sbin .eql (.string ⟨d.toArray⟩) (.string ⟨e.toArray⟩) = some (.bool (decide (d = e))) := by
  simp only [sbin, tx_list]
  by_cases h : d = e <;> simp [h]
end Go.Ev
