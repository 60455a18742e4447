/- Operations that only read, continued; all of them together. -/
import Derived.Test.YtpjjloaphlaokaaEvD
set_option linter.unusedVariables false
set_option linter.unusedSimpArgs false
set_option linter.unnecessarySimpa false
namespace Go.Ev
open Go

section
variable {P : Program} {B : Nat → Prop} {h : Heap} {φ : Phi} {w : World}

theorem Cells.set {Ow : Nat → Prop} {xs : List AV} {cs : List Value} (h : Cells w Ow φ xs cs) (i : Nat) {x : AV} {v : Value} (hv : VR w Ow φ x v) (h1 : v.oneCell' = true) : Cells w Ow φ (xs.set i x) (cs.set i v) := by
  refine ⟨by simp [h.1], fun j y u e e' => ?_, fun u hu => ?_⟩
  · simp only [List.getElem?_set] at e e'
    rw [h.1] at e'
    by_cases hij : i = j
    · subst hij
      by_cases hl : i < xs.length
      · simp only [if_true, hl] at e e'; cases e; cases e'; exact hv
      · simp [hl] at e
    · simp only [hij, if_false] at e e'; exact h.2.1 j y u e e'
  · rcases List.mem_or_eq_of_mem_set hu with hu | rfl
    · exact h.2.2 u hu
    · exact h1
/-- The same on values. -/
def splV (cs : List Value) : Nat → List Value → List Value
  | _, [] => cs
  | off, y :: ys => splV (cs.set off y) (off + 1) ys
theorem Cells.spl {Ow : Nat → Prop} : ∀ {ys : List AV} {vs : List Value} {xs : List AV} {cs : List Value} (off : Nat), Cells w Ow φ xs cs → Cells w Ow φ ys vs → Cells w Ow φ (spl xs off ys) (splV cs off vs)
  | [], vs, xs, cs, off, h, k => by
    have : vs = [] := List.length_eq_zero_iff.1 k.1
    subst this
    exact h
  | y :: ys, vs, xs, cs, off, h, k => by
    match vs, k with
    | v :: vs, k =>
      refine Cells.spl (ys := ys) (vs := vs) (off + 1) (h.set off (k.2.1 0 y v rfl rfl) (k.2.2 v (by simp))) ⟨by simpa using k.1, fun j x u e e' => k.2.1 (j + 1) x u (by simpa using e) (by simpa using e'), fun u hu => k.2.2 u (by simp [hu])⟩
theorem fold_splV (off : Nat) : ∀ (vs : List Value) (s : Nat) (cells : Array Value),
    ((vs.zipIdx s).foldl (fun cs (x : Value × Nat) => cs.setIfInBounds (off + x.2) x.1) cells).toList = splV cells.toList (off + s) vs
  | [], s, cells => rfl
  | v :: vs, s, cells => by
    simp only [List.zipIdx_cons, List.foldl_cons, splV]
    rw [fold_splV off vs (s + 1)]
    simp [Nat.add_assoc]

theorem fillP_run {Ow : Nat → Prop} (place : Nat → Option (Nat × Nat)) : ∀ (ps : List (Nat × Nat)) (vs : List AV) (us : List (Nat × Value)) (zero : List AV) (cells : Array Value) (xs : List AV),
    fillP zero ps vs = some xs → Cells w Ow φ zero cells.toList → us.length = ps.length → (∀ (j : Nat) (p : Nat × Value), us[j]? = some p → place p.1 = ps[j]?) →
    (∀ (j : Nat) (x : AV) (p : Nat × Value), vs[j]? = some x → us[j]? = some p → VR w Ow φ x p.2) →
    ∃ cells', Instr.fill place cells us = some cells' ∧ Cells w Ow φ xs cells'.toList
  | [], [], us, zero, cells, xs, e, hz, hl, hp, hv => by
    have : us = [] := List.length_eq_zero_iff.1 hl
    subst this
    simp only [fillP, Option.some.injEq] at e
    subst e
    exact ⟨cells, rfl, hz⟩
  | [], _ :: _, _, _, _, _, e, _, _, _, _ => by simp [fillP] at e
  | _ :: _, [], _, _, _, _, e, _, _, _, _ => by simp [fillP] at e
  | (off, k) :: ps, v :: vs, us, zero, cells, xs, e, hz, hl, hp, hv => by
    match us, hl with
    | u :: us, hl =>
      simp only [fillP] at e
      split at e
      · rename_i ys hys
        split at e
        · rename_i hc
          have hu := cells?_VR (hv 0 v u rfl rfl) hys
          have hpl : place u.1 = some (off, k) := hp 0 u rfl
          have hsz : u.2.cells.size = k := by have := hu.1; simp at this; omega
          have hcs : cells.size = zero.length := by have := hz.1; simpa using this
          have hz' : Cells w Ow φ (spl zero off ys) (u.2.cells.zipIdx.foldl (fun cs (x : Value × Nat) => cs.setIfInBounds (off + x.2) x.1) cells).toList := by
            have h1 := fold_splV off u.2.cells.toList 0 cells
            have h2 : (u.2.cells.zipIdx.foldl (fun cs (x : Value × Nat) => cs.setIfInBounds (off + x.2) x.1) cells) = ((u.2.cells.toList.zipIdx 0).foldl (fun cs (x : Value × Nat) => cs.setIfInBounds (off + x.2) x.1) cells) := by
              rw [← Array.foldl_toList, Array.toList_zipIdx]
            rw [h2, h1]
            exact Cells.spl _ hz hu
          obtain ⟨cells', h1, h2⟩ := fillP_run place ps vs us _ _ xs e hz' (by simpa using hl) (fun j p hj => hp (j + 1) p (by simpa using hj)) (fun j x p hx hj => hv (j + 1) x p (by simpa using hx) (by simpa using hj))
          refine ⟨cells', ?_, h2⟩
          obtain ⟨u1, u2⟩ := u
          simp only [Instr.fill]
          rw [show place u1 = some (off, k) from hpl]
          simp only []
          rw [if_neg (by simp [hsz, hcs]; omega)]
          exact h1
        · cases e
      · cases e
theorem zeroOf_run {t : TypeId} {zero : List AV} (hz : zeroOf P t = some zero) (w : World) (Ow : Nat → Prop) (φ : Phi) :
    ∃ z, (zeroValue t).run P w = .ok z w ∧ Cells w Ow φ zero z.cells.toList := by
  unfold zeroOf at hz
  split at hz
  · rename_i i hi
    split at hz
    · rename_i z hzz
      split at hz
      · rename_i a ha
        exact ⟨z, by simp [zeroValue, typeInfo, hi, hzz], cells?_VR (ofVal_VR ha) hz⟩
      · cases hz
    · cases hz
  · cases hz
theorem info_of {t : TypeId} {k : Nat} (hs : szOf P t = some k) : ∃ i, P.info? t = some i ∧ i.size = k := by
  unfold szOf at hs
  simp only [Option.map_eq_some_iff] at hs
  exact hs
theorem mapM_sizes (w : World) : ∀ {fs : List Field} {ps : List (Nat × Nat)}, (fs.mapM fun f => (szOf P f.type).map fun k => (f.offset, k)) = some ps →
    (fs.mapM fun f => do pure (f.offset, ← sizeOf f.type) : Sem (List (Nat × Nat))).run P w = .ok ps w
  | [], ps, h => by simp at h; subst h; simp
  | f :: fs, ps, h => by
    simp only [List.mapM_cons, Option.bind_eq_bind, Option.bind_eq_some_iff, Option.map_eq_some_iff, Option.pure_def, Option.some.injEq] at h
    obtain ⟨p, ⟨k, hk, rfl⟩, qs, hqs, rfl⟩ := h
    have ih := mapM_sizes w hqs
    simp only [List.mapM_cons, Sem.run_bind, run_sizeOf' hk, Result.andThen_ok, Sem.run_pure] at ih ⊢
    rw [ih]
    simp

theorem natOf_VR {Ow : Nat → Prop} {x : AV} {v : Value} {n : Nat} (hv : VR w Ow φ x v) (e : natOf x = some n) : ∃ k, v = .int k n := by
  unfold natOf at e
  split at e
  · rename_i k m
    split at e
    · rename_i h0
      cases e
      cases hv
      exact ⟨k, by rw [Int.toNat_of_nonneg h0]⟩
    · cases e
  · cases e
end

end Go.Ev
