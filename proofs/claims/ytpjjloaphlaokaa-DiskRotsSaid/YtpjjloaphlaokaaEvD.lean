/- Operations that only read: the model does what the evaluator says. -/
import Derived.Test.YtpjjloaphlaokaaEvC
set_option linter.unusedVariables false
set_option linter.unusedSimpArgs false
set_option linter.unnecessarySimpa false
namespace Go.Ev
open Go

section
variable {P : Program} {B : Nat → Prop} {h : Heap} {φ : Phi} {w : World}

theorem run_underlying' {t : TypeId} {d : TypeDesc} (hu : P.underlying t = some d) (w : World) : (underlying t).run P w = .ok d w := by
  simp [underlying, hu]
theorem run_sizeOf' {t : TypeId} {k : Nat} (hs : szOf P t = some k) (w : World) : (sizeOf t).run P w = .ok k w := by
  unfold szOf at hs
  simp only [Option.map_eq_some_iff] at hs
  obtain ⟨i, hi, rfl⟩ := hs
  simp [sizeOf, typeInfo, hi]
theorem run_isAgg' {t : TypeId} {b : Bool} (hs : aggT P t = some b) (w : World) : (isAgg t).run P w = .ok b w := by
  unfold aggT at hs
  unfold isAgg
  split at hs
  · rename_i d hd; cases hs; simp [run_underlying' hd]
  · rename_i d hd; cases hs; simp [run_underlying' hd]
  · rename_i d hnot1 hnot2 hd
    cases hs
    simp only [Sem.run_bind, run_underlying' hd, Result.andThen_ok]
    rfl
  · cases hs

theorem VR.phi {w : World} {Ow : Nat → Prop} {φ φ' : Phi} {x : AV} {v : Value} (h : VR w Ow φ x v) (hφ : ∀ o p, φ o = some p → φ' o = some p) : VR w Ow φ' x v :=
  h.step hφ (Nat.le_refl _) (fun _ _ _ => rfl) (fun _ _ e => e) (fun _ cs _ fz e => ⟨cs, fz, e, rfl⟩)
theorem VR.noPhi {w : World} {Ow : Nat → Prop} {φ : Phi} {x : AV} {v : Value} (h : VR w Ow noPhi x v) : VR w Ow φ x v := h.phi (fun _ _ e => by cases e)
theorem VR.own {w : World} {Ow Ow' : Nat → Prop} {φ : Phi} {x : AV} {v : Value} (h : VR w Ow φ x v) (hO : ∀ b, Ow' b → Ow b) : VR w Ow' φ x v :=
  h.step (fun _ _ e => e) (Nat.le_refl _) (fun _ _ _ => rfl) (fun b _ e => hO b e) (fun _ cs _ fz e => ⟨cs, fz, e, rfl⟩)

theorem add_none (b o n : Nat) : (⟨b, o, none⟩ : Addr).add n = ⟨b, o + n, none⟩ := by unfold Addr.add; split <;> simp_all

/-- Rows of cells and what is known of them. -/
def Cells (w : World) (Ow : Nat → Prop) (φ : Phi) (xs : List AV) (cs : List Value) : Prop :=
  cs.length = xs.length ∧ (∀ (j : Nat) (x : AV) (v : Value), xs[j]? = some x → cs[j]? = some v → VR w Ow φ x v) ∧ ∀ v ∈ cs, v.oneCell' = true
theorem Cells.drop {w : World} {Ow : Nat → Prop} {φ : Phi} {xs : List AV} {cs : List Value} (h : Cells w Ow φ xs cs) (n : Nat) : Cells w Ow φ (xs.drop n) (cs.drop n) :=
  ⟨by simp [h.1], fun j x v e e' => h.2.1 (n + j) x v (by simpa using e) (by simpa using e'), fun v hv => h.2.2 v (List.mem_of_mem_drop hv)⟩
theorem Cells.take {w : World} {Ow : Nat → Prop} {φ : Phi} {xs : List AV} {cs : List Value} (h : Cells w Ow φ xs cs) (n : Nat) : Cells w Ow φ (xs.take n) (cs.take n) := by
  refine ⟨by simp [h.1], fun j x v e e' => ?_, fun v hv => h.2.2 v (List.mem_of_mem_take hv)⟩
  by_cases hj : j < n
  · exact h.2.1 j x v (by simpa [hj] using e) (by simpa [hj] using e')
  · simp [List.getElem?_take, hj] at e
theorem Cells.append {w : World} {Ow : Nat → Prop} {φ : Phi} {xs ys : List AV} {cs ds : List Value} (h : Cells w Ow φ xs cs) (k : Cells w Ow φ ys ds) : Cells w Ow φ (xs ++ ys) (cs ++ ds) := by
  refine ⟨by simp [h.1, k.1], fun j x v e e' => ?_, fun v hv => ?_⟩
  · by_cases hj : j < xs.length
    · rw [List.getElem?_append_left hj] at e
      rw [List.getElem?_append_left (by rw [h.1]; exact hj)] at e'
      exact h.2.1 j x v e e'
    · rw [List.getElem?_append_right (by omega)] at e
      rw [List.getElem?_append_right (by rw [h.1]; omega), h.1] at e'
      exact k.2.1 _ x v e e'
  · rcases List.mem_append.1 hv with hv | hv
    · exact h.2.2 v hv
    · exact k.2.2 v hv
theorem Cells.map {w w' : World} {Ow Ow' : Nat → Prop} {φ φ' : Phi} {xs : List AV} {cs : List Value} (h : Cells w Ow φ xs cs) (f : ∀ x v, VR w Ow φ x v → VR w' Ow' φ' x v) : Cells w' Ow' φ' xs cs :=
  ⟨h.1, fun j x v e e' => f x v (h.2.1 j x v e e'), h.2.2⟩
theorem Cells.one {w : World} {Ow : Nat → Prop} {φ : Phi} {x : AV} {v : Value} (h : VR w Ow φ x v) (h1 : v.oneCell' = true) : Cells w Ow φ [x] [v] :=
  ⟨rfl, fun j y u e e' => by
    cases j with
    | zero => simp at e e'; subst e; subst e'; exact h
    | succ j => simp at e, fun u hu => by simp at hu; subst hu; exact h1⟩
theorem Cells.nil {w : World} {Ow : Nat → Prop} {φ : Phi} : Cells w Ow φ [] [] := ⟨rfl, by simp, by simp⟩

theorem leaf_one {w : World} {Ow : Nat → Prop} {φ : Phi} {x : AV} {v : Value} (h : VR w Ow φ x v) (hl : x.leaf = true) : v.oneCell' = true := by
  cases h <;> first | (simp [AV.leaf] at hl; done) | (simpa [AV.leaf] using hl) | rfl
/-- What may be stored. -/
theorem cells?_VR {w : World} {Ow : Nat → Prop} {φ : Phi} {x : AV} {v : Value} {xs : List AV} (h : VR w Ow φ x v) (hc : x.cells? = some xs) : Cells w Ow φ xs v.cells.toList := by
  cases h with
  | agg ys cs hlen hx ho =>
    simp only [AV.cells?, Option.some.injEq] at hc
    subst hc
    exact ⟨by simpa [Value.cells] using hlen, fun j x v e e' => hx j x v e (by simpa [Value.cells] using e'), fun v hv => ho v (by simpa [Value.cells] using hv)⟩
  | und v => simp [AV.cells?, AV.leaf] at hc
  | tup ys cs hlen hx => simp [AV.cells?, AV.leaf] at hc
  | lit v =>
    simp only [AV.cells?] at hc
    by_cases h1 : (AV.lit v).leaf = true
    · rw [if_pos h1] at hc
      cases hc
      simp only [AV.leaf] at h1
      have : v.cells = #[v] := by cases v <;> first | rfl | simp [Value.oneCell'] at h1
      rw [this]
      exact Cells.one (.lit v) h1
    · rw [if_neg h1] at hc
      cases hc
  | sl isNil n c cap xs a cs hnil hn hcap hlen hx ho hm => simp [AV.cells?, AV.leaf] at hc; subst hc; exact Cells.one (.sl isNil n c cap xs a cs hnil hn hcap hlen hx ho hm) rfl
  | ref o off n sz c b base cap a hφ ha hn hcap hr => simp [AV.cells?, AV.leaf] at hc; subst hc; exact Cells.one (.ref o off n sz c b base cap a hφ ha hn hcap hr) rfl
  | ptr o off b base hφ => simp [AV.cells?, AV.leaf] at hc; subst hc; exact Cells.one (.ptr o off b base hφ) rfl
  | fptr xs cs b o hlen hx ho hm => simp [AV.cells?, AV.leaf] at hc; subst hc; exact Cells.one (.fptr xs cs b o hlen hx ho hm) rfl
  | fn f xs cs hlen hx => simp [AV.cells?, AV.leaf] at hc; subst hc; exact Cells.one (.fn f xs cs hlen hx) rfl
  | iface t x v hx => simp [AV.cells?, AV.leaf] at hc; subst hc; exact Cells.one (.iface t x v hx) rfl

/-- The cells of a live object. -/
theorem HR.cells {o : Nat} {cs : List AV} (hr : HR B h φ w) (hl : look h o = some cs) : ∃ (b base : Nat) (c : Array Value) (T : TypeId) (fz : Nat × Nat), φ o = some (b, base) ∧
    w.heap[b]? = some (Obj.cells c T fz) ∧ ¬ B b ∧ base + cs.length ≤ c.size ∧ (∀ j, j < c.size → w.frozen? ⟨b, j, none⟩ = false) ∧
    ∃ vs : List Value, Cells w (Own B h φ) φ cs vs ∧ ∀ (j : Nat) (v : Value), vs[j]? = some v → c[base + j]? = some v := by
  obtain ⟨b, base, c, T, fz, h1, h2, h3, h4, h5, h6⟩ := hr.live o cs hl
  refine ⟨b, base, c, T, fz, h1, h2, h3, h4, h5, (c.toList.drop base).take cs.length, ⟨by simp; omega, fun j x v e e' => ?_, fun v hv => ?_⟩, fun j v e => ?_⟩
  · obtain ⟨u, hu, _, hv⟩ := h6 j x e
    have hj : j < cs.length := (List.getElem?_eq_some_iff.1 e).1
    simp [List.getElem?_take, hj] at e'
    rw [hu] at e'
    cases e'
    exact hv
  · obtain ⟨j, hj, rfl⟩ := List.mem_iff_getElem.1 hv
    have hj' : j < cs.length := by simp at hj; omega
    obtain ⟨u, hu, ho, _⟩ := h6 j _ (List.getElem?_eq_getElem hj')
    have : c[base + j]? = some ((c.toList.drop base).take cs.length)[j] := by
      have := List.getElem?_eq_getElem hj
      simp [List.getElem?_take, hj'] at this
      simpa using this
    rw [hu] at this
    cases this
    exact ho
  · have hj : j < cs.length := by
      have := (List.getElem?_eq_some_iff.1 e).1
      simp at this
      omega
    simpa [List.getElem?_take, hj] using e
theorem cell_of_block {b : Nat} {c : Array Value} {T : TypeId} {fz : Nat × Nat} (hb : w.heap[b]? = some (Obj.cells c T fz)) (o : Nat) : w.cell? ⟨b, o, none⟩ = c[o]? := by
  simp [World.cell?, hb]

/-- What is read at a place. -/
theorem rdM_VR {g : Look} {p : AV} {k : Nat} {ys : List AV} {v : Value} (hr : HR B h φ w) (hg : ∀ o cs, g o = some cs → look h o = some cs)
    (hv : VR w (Own B h φ) φ p v) (e : rdM g p k = some ys) :
    ∃ b o, v = .pointer (some ⟨b, o, none⟩) ∧ ys.length = k ∧ ∃ cs : List Value, Cells w (Own B h φ) φ ys cs ∧ ∀ (j : Nat) (v : Value), cs[j]? = some v → w.cell? ⟨b, o + j, none⟩ = some v := by
  cases hv with
  | ptr o off b base hφ =>
    simp only [rdM] at e
    split at e
    · rename_i cs hcs
      split at e
      · rename_i hle
        cases e
        obtain ⟨b', base', c, T, fz, h1, h2, _, h4, h5, vs, h6, h7⟩ := hr.cells (hg o cs hcs)
        rw [hφ] at h1
        cases h1
        refine ⟨_, _, rfl, by simp; omega, _, (h6.drop off).take k, fun j v e => ?_⟩
        rw [cell_of_block h2]
        have hj : j < k := by
          have := (List.getElem?_eq_some_iff.1 e).1
          simp at this
          omega
        simp [List.getElem?_take, hj] at e
        rw [Nat.add_assoc]
        exact h7 _ v e
      · cases e
    · cases e
  | fptr xs cs b o hlen hx ho hm =>
    simp only [rdM] at e
    split at e
    · rename_i hle
      cases e
      have hc : Cells w (Own B h φ) Ev.noPhi xs cs := ⟨hlen, hx, ho⟩
      refine ⟨b, o, rfl, by simp; omega, _, (hc.take k).map (fun x v hv => hv.noPhi), fun j v e => ?_⟩
      have hj : j < k := by
        have := (List.getElem?_eq_some_iff.1 e).1
        simp at this
        omega
      simp [List.getElem?_take, hj] at e
      have hne : xs ≠ [] := by
        intro h0
        subst h0
        have := (List.getElem?_eq_some_iff.1 e).1
        simp at hlen
        simp [hlen] at this
      exact (hm hne).2.2 j v e
    · cases e
  | _ => simp [rdM] at e

theorem run_loadCells_at (b o k : Nat) (cs : List Value) (hk : cs.length = k) (hc : ∀ (j : Nat) (v : Value), cs[j]? = some v → w.cell? ⟨b, o + j, none⟩ = some v) :
    (loadCells ⟨b, o, none⟩ k).run P w = .ok cs.toArray w := by
  subst hk
  exact run_loadCells_list w _ cs fun j v e => by rw [add_none]; exact hc j v e

theorem agg_VR {w : World} {Ow : Nat → Prop} {φ : Phi} {ys : List AV} {cs : List Value} (h : Cells w Ow φ ys cs) : VR w Ow φ (.agg ys) (.agg cs.toArray) :=
  .agg ys _ (by simpa using h.1) (fun j x v e e' => h.2.1 j x v e (by simpa using e')) (fun v hv => h.2.2 v (by simpa using hv))

theorem load_VR {g : Look} {p x : AV} {t : TypeId} {ag : Bool} {k : Nat} {v : Value} (hr : HR B h φ w) (hg : ∀ o cs, g o = some cs → look h o = some cs)
    (hv : VR w (Own B h φ) φ p v) (ht : loadI P t = some (ag, k)) (e : evR g (.load ag k) [p] = some x) :
    ∃ u, (Instr.loadAt t v).run P w = .ok u w ∧ VR w (Own B h φ) φ x u := by
  simp only [evR] at e
  split at e
  · rename_i ys hys
    obtain ⟨b, o, rfl, hk, cs, hc, hm⟩ := rdM_VR hr hg hv hys
    unfold loadI at ht
    split at ht
    · rename_i k' ha hs
      cases ht
      simp only [if_true, Option.some.injEq] at e
      subst e
      refine ⟨_, ?_, agg_VR hc⟩
      simp [Instr.loadAt, Instr.sureAddr, loadVar, run_isAgg' ha, run_sizeOf' hs, run_loadCells_at (P := P) b o _ cs (hc.1.trans hk) hm]
    · rename_i k' ha hs
      cases ht
      simp only [Bool.false_eq_true, if_false] at e
      split at e
      · rename_i y
        cases e
        obtain ⟨h1, h2, h3⟩ := hc
        match cs, h1 with
        | [u], _ =>
          refine ⟨u, ?_, h2 0 _ _ rfl rfl⟩
          have h0 : w.cell? ⟨b, o, none⟩ = some u := hm 0 u rfl
          simp [Instr.loadAt, Instr.sureAddr, loadVar, run_isAgg' ha, h0]
      · cases e
    · cases ht
  · cases e

/-! ### Scalars -/
theorem eqGuard_run (op : BinOp) (t : TypeId) (x y : Operand) (a b : Value) (h1 : ∀ c, a ≠ .agg c) (h2 : a ≠ .nilIface) (w : World) : (eqGuard op t x y a b).run P w = .ok () w := by
  cases a <;> first
    | exact absurd rfl (h1 _)
    | exact absurd rfl h2
    | (simp only [eqGuard]; split <;> simp)
set_option maxHeartbeats 1000000 in
theorem sbin_run {op : BinOp} {a b c : Value} (e : sbin op a b = some c) (t : TypeId) (x y : Operand) (w : World) :
    (do eqGuard op t x y a b; binOp op t a b : Sem Value).run P w = .ok c w := by
  unfold sbin at e
  split at e
  · rename_i k x' k' y'
    split at e
    · cases e
    · rename_i hneg
      cases e
      rw [Sem.run_bind, eqGuard_run _ _ _ _ _ _ (by simp) (by simp)]
      simp [binOp, Op.shift, hneg]
  · rename_i k x' k' y'
    split at e
    · cases e
    · rename_i hneg
      cases e
      rw [Sem.run_bind, eqGuard_run _ _ _ _ _ _ (by simp) (by simp)]
      simp [binOp, Op.shift, hneg]
  · rename_i k x' k' y' hs1 hs2
    split at e
    · cases e
    · rename_i hk
      have hk' : k = k' := by simpa using hk
      subst hk'
      rw [Sem.run_bind, eqGuard_run _ _ _ _ _ _ (by simp) (by simp)]
      split at e <;> first
        | (cases e; simp [binOp, Op.intArith, Op.intBits, Op.intCmp]; done)
        | (split at e
           · cases e
           · rename_i hz; cases e; simp [binOp, Op.intDiv, hz]; done)
        | (cases e; done)
  · rename_i x' y'
    rw [Sem.run_bind, eqGuard_run _ _ _ _ _ _ (by simp) (by simp)]
    cases op <;> simp only [] at e <;> first
      | (cases e; done)
      | (by_cases hz : ((x'.size + y'.size : Nat) : Int) > 9223372036854775807
         · rw [if_pos hz] at e; cases e
         · rw [if_neg hz] at e; cases e
           have hz' : ¬ ((x'.size + y'.size : Nat) : Int) > IntKind.i64.max := hz
           simp only [binOp, Op.stringOp, if_neg hz']; rfl)
      | (cases e; simp [binOp, Op.stringOp]; done)
  · cases e
end
end Go.Ev
