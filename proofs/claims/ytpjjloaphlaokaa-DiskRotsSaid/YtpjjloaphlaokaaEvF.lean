/- All operations that only read. -/
import Derived.Test.YtpjjloaphlaokaaEvE
set_option linter.unusedVariables false
set_option linter.unusedSimpArgs false
set_option linter.unnecessarySimpa false
namespace Go.Ev
open Go

section
variable {P : Program} {B : Nat → Prop} {h : Heap} {φ : Phi} {w : World}

theorem mapM_fst {α β : Type} {l : List (Nat × α)} {ps : List β} {qs : List β} (hq : (l.mapM fun p => ps[p.1]?) = some qs) :
    qs.length = l.length ∧ ∀ (j : Nat) (p : Nat × α), l[j]? = some p → ps[p.1]? = qs[j]? := by
  obtain ⟨h1, h2⟩ := mapM_some hq
  refine ⟨h1, fun j p hj => ?_⟩
  have hj' : j < qs.length := by rw [h1]; exact (List.getElem?_eq_some_iff.1 hj).1
  rw [List.getElem?_eq_getElem hj']
  exact h2 j p _ hj (List.getElem?_eq_getElem hj')

theorem build_VR {Ow : Nat → Prop} {t : TypeId} {parts : Array (Nat × Operand)} {zero : List AV} {qs : List (Nat × Nat)} {ρ : Operand → Value} {x : AV} {vf : Operand → AV}
    (ht : tr P (.build t parts) = some (.build zero qs, parts.toList.map (·.2)))
    (hv : ∀ y, VR w Ow φ (vf y) (ρ y)) (he : (fillP zero qs ((parts.toList.map (·.2)).map vf)).map AV.agg = some x) :
    ∃ u, (Instr.build t (parts.map fun (i, y) => (i, ρ y))).run P w = .ok u w ∧ VR w Ow φ x u := by
  simp only [Option.map_eq_some_iff] at he
  obtain ⟨xs, hxs, rfl⟩ := he
  have hparts : (parts.map fun (i, y) => (i, ρ y)).toList = parts.toList.map fun p => (p.1, ρ p.2) := by simp
  have hval : ∀ (j : Nat) (x : AV) (p : Nat × Value), ((parts.toList.map (·.2)).map vf)[j]? = some x → (parts.toList.map fun p => (p.1, ρ p.2))[j]? = some p → VR w Ow φ x p.2 := by
    intro j x p e e'
    simp only [List.getElem?_map, Option.map_eq_some_iff] at e e'
    obtain ⟨y, ⟨q, hq, rfl⟩, rfl⟩ := e
    obtain ⟨q', hq', rfl⟩ := e'
    rw [hq] at hq'
    cases hq'
    exact hv _
  simp only [tr] at ht
  split at ht
  · rename_i z fs hz hu
    obtain ⟨z0, hz0, hzc⟩ := zeroOf_run hz w Ow φ
    split at ht
    · rename_i ps hps
      simp only [Option.map_eq_some_iff] at ht
      obtain ⟨qs', hq, he⟩ := ht
      cases he
      obtain ⟨hl, hp⟩ := mapM_fst hq
      have hm := mapM_sizes w hps
      have hm' : (fs.mapM fun f => do pure (f.offset, ← sizeOf f.type) : Sem (Array (Nat × Nat))).run P w = .ok ps.toArray w := by
        rw [← Array.toArray_toList (xs := fs)]
        simp only [List.mapM_toArray, Sem.run_map, hm, Result.andThen_ok]
      obtain ⟨cells', h1, h2⟩ := fillP_run (w := w) (φ := φ) (Ow := Ow) (ps.toArray[·]?) qs _ (parts.toList.map fun p => (p.1, ρ p.2)) zero z0.cells xs hxs hzc (by simp [hl]) (fun j p hj => by
        simp only [List.getElem?_map, Option.map_eq_some_iff] at hj
        obtain ⟨q, hq, rfl⟩ := hj
        simpa using hp j q hq) hval
      refine ⟨.agg cells', ?_, .agg xs cells' (by simpa using h2.1) (fun j x v e e' => h2.2.1 j x v e (by simpa using e')) (fun v hv => h2.2.2 v (by simpa using hv))⟩
      simp only [Instr.build, Sem.run_bind, hz0, Result.andThen_ok, run_underlying' hu, hm']
      rw [hparts, h1]
      rfl
    · cases ht
  · rename_i z n e hz hu
    obtain ⟨z0, hz0, hzc⟩ := zeroOf_run hz w Ow φ
    simp only [Option.map_eq_some_iff] at ht
    obtain ⟨sz, hs, he⟩ := ht
    cases he
    obtain ⟨cells', h1, h2⟩ := fillP_run (w := w) (φ := φ) (Ow := Ow) (fun i => some (i * sz, sz)) (parts.toList.map fun p => (p.1 * sz, sz)) _ (parts.toList.map fun p => (p.1, ρ p.2)) zero z0.cells xs hxs hzc (by simp) (fun j p hj => by
        simp only [List.getElem?_map, Option.map_eq_some_iff] at hj ⊢
        obtain ⟨q, hq, rfl⟩ := hj
        simp [hq]) hval
    refine ⟨.agg cells', ?_, .agg xs cells' (by simpa using h2.1) (fun j x v e e' => h2.2.1 j x v e (by simpa using e')) (fun v hv => h2.2.2 v (by simpa using hv))⟩
    simp only [Instr.build, Sem.run_bind, hz0, Result.andThen_ok, run_underlying' hu, run_sizeOf' hs]
    rw [hparts, h1]
    rfl
  · cases ht

theorem part_agg {Ow : Nat → Prop} {t : TypeId} {ag : Bool} {k off : Nat} {xs : List AV} {cs : Array Value} {x : AV} (hv : VR w Ow φ (.agg xs) (.agg cs)) (ht : loadI P t = some (ag, k))
    (he : (if off + k ≤ xs.length then if ag then some (.agg ((xs.drop off).take k)) else xs[off]? else none) = some x) :
    ∃ u, (part t cs off).run P w = .ok u w ∧ VR w Ow φ x u := by
  cases hv with
  | agg _ _ hlen hx ho =>
    have hc : Cells w Ow φ xs cs.toList := ⟨by simpa using hlen, fun j x v e e' => hx j x v e (by simpa using e'), fun v hv => ho v (by simpa using hv)⟩
    split at he
    · rename_i hle
      unfold loadI at ht
      split at ht
      · rename_i k' ha hs
        cases ht
        simp only [if_true, Option.some.injEq] at he
        subst he
        have h2 : (cs.extract off (off + k)).toList = (cs.toList.drop off).take k := by simp
        refine ⟨.agg (cs.extract off (off + k)), by simp [part, run_isAgg' ha, run_sizeOf' hs], ?_⟩
        have h3 := agg_VR ((hc.drop off).take k)
        have h4 : ((cs.toList.drop off).take k).toArray = cs.extract off (off + k) := by apply Array.ext'; simpa using h2.symm
        rw [h4] at h3
        exact h3
      · rename_i k' ha hs
        cases ht
        simp only [Bool.false_eq_true, if_false] at he
        have hlt : off < cs.size := by omega
        refine ⟨cs[off], by simp [part, run_isAgg' ha, hlt], hx off x _ he (by simp [hlt])⟩
      · cases ht
    · cases he

/-- Bounds as the model looks at them. -/
theorem natBound_run {v : Value} {k : IntKind} {n y : Nat} (hv : v = .int k n) (hn : n ≤ y) (c : BoundsCode) (w : World) : (Instr.sliceBound v y c).run P w = .ok n w := by
  subst hv
  simp only [Instr.sliceBound, Sem.run_bind, asIntOf, Sem.run_pure, Result.andThen_ok]
  rw [if_pos ⟨by omega, by omega⟩]
  simp

theorem pickOpt_map {b : Bool} {ops : List Operand} {vf : Operand → AV} {x : Option AV} {r : List AV} (o : Option Operand) (rest : List Operand) (hb : b = o.isSome) (hl : ops = o.toList ++ rest)
    (e : pickOpt b (ops.map vf) = some (x, r)) : x = o.map vf ∧ r = rest.map vf := by
  subst hl
  cases o with
  | none => subst hb; simp [pickOpt] at e; exact ⟨e.1.symm, e.2.symm⟩
  | some y => subst hb; simp [pickOpt] at e; exact ⟨e.1.symm, e.2.symm⟩

theorem bounds3_run {Ow : Nat → Prop} {isSlice : Bool} {len cap n : Nat} {lo hi mx : Option Operand} {vf : Operand → AV} {ρ : Operand → Value} {a b : Nat} {m : Option Nat}
    (hv : ∀ y, VR w Ow φ (vf y) (ρ y)) (e : bounds3 len lo.isSome hi.isSome mx.isSome ((lo.toList ++ hi.toList ++ mx.toList).map vf) = some (a, b, m))
    (hm : ∀ k, m = some k → k ≤ cap) (hb : m = none → b ≤ cap) :
    (Instr.sliceBounds isSlice len cap (lo.map ρ) (hi.map ρ) (mx.map ρ)).run P w = .ok (a, b, m.getD cap) w ∧ a ≤ b ∧ b ≤ m.getD cap := by
  simp only [bounds3, Option.bind_eq_bind, Option.bind_eq_some_iff] at e
  obtain ⟨⟨x1, r1⟩, e1, ⟨x2, r2⟩, e2, ⟨x3, r3⟩, e3, e⟩ := e
  obtain ⟨rfl, rfl⟩ := pickOpt_map lo (hi.toList ++ mx.toList) rfl (by simp) e1
  obtain ⟨rfl, rfl⟩ := pickOpt_map hi mx.toList rfl rfl e2
  obtain ⟨rfl, rfl⟩ := pickOpt_map mx [] rfl (by simp) e3
  simp only [List.map_nil, List.isEmpty_nil, Bool.not_true, Bool.false_eq_true, if_false, Option.bind_eq_some_iff] at e
  obtain ⟨a', ha, b', hb', e⟩ := e
  have hlo : ∀ y, b' ≤ y → a' ≤ b' → ((match lo.map ρ with | some v => Instr.sliceBound v b' (if (mx.map ρ).isSome then .slice3C else .sliceB) | none => pure 0 : Sem Nat)).run P w = .ok a' w := by
    intro y hy hab
    cases lo with
    | none => simp [boundOf] at ha; subst ha; rfl
    | some o =>
      obtain ⟨k, hk⟩ := natOf_VR (hv o) ha
      exact natBound_run hk hab _ w
  cases mx with
  | none =>
    simp only [Option.map_none] at e
    split at e
    · rename_i hab
      cases e
      refine ⟨?_, hab, by simpa using hb rfl⟩
      have h2 : ((match hi.map ρ with | some v => Instr.sliceBound v cap (if isSlice then .sliceAcap else .sliceAlen) | none => pure len : Sem Nat)).run P w = .ok b w := by
        cases hi with
        | none => simp [boundOf] at hb'; subst hb'; rfl
        | some o =>
          obtain ⟨k, hk⟩ := natOf_VR (hv o) hb'
          exact natBound_run hk (hb rfl) _ w
      have h3 := hlo b (Nat.le_refl _) hab
      cases hi with
      | none =>
        simp [boundOf] at hb'
        subst hb'
        simp only [Instr.sliceBounds, Option.map_none, Sem.run_bind, Sem.run_pure, Result.andThen_ok, Option.getD_none]
        cases lo with
        | none => simp only [Option.map_none, Sem.run_pure, Result.ok.injEq, and_true] at h3; subst h3; simp only [Option.map_none, Sem.run_bind, Sem.run_pure, Result.andThen_ok]
        | some o3 => simp only [Option.map_some, Option.map_none, Option.isSome_none, Bool.false_eq_true, if_false] at h3; simp only [Option.map_some, Option.isSome_none, Bool.false_eq_true, if_false, Sem.run_bind, Sem.run_pure, Result.andThen_ok, h3]
      | some o =>
        simp only [Option.map_some] at h2
        simp only [Instr.sliceBounds, Option.map_none, Option.map_some, Sem.run_bind, Sem.run_pure, Result.andThen_ok, h2, Option.getD_none]
        cases lo with
        | none => simp only [Option.map_none, Sem.run_pure, Result.ok.injEq, and_true] at h3; subst h3; simp only [Option.map_none, Sem.run_bind, Sem.run_pure, Result.andThen_ok]
        | some o3 => simp only [Option.map_some, Option.map_none, Option.isSome_none, Bool.false_eq_true, if_false] at h3; simp only [Option.map_some, Option.isSome_none, Bool.false_eq_true, if_false, Sem.run_bind, Sem.run_pure, Result.andThen_ok, h3]
    · cases e
  | some o =>
    simp only [Option.map_some, Option.bind_eq_some_iff] at e
    obtain ⟨c, hc, e⟩ := e
    split at e
    · rename_i hab
      cases e
      obtain ⟨hab, hbc, hhi⟩ := hab
      have hcc := hm c rfl
      refine ⟨?_, hab, by simpa using hbc⟩
      obtain ⟨k, hk⟩ := natOf_VR (hv o) hc
      have h1 := natBound_run (P := P) hk hcc (if isSlice then .slice3Acap else .slice3Alen) w
      have h3 := hlo b (Nat.le_refl _) hab
      simp only [Option.map_some, Option.isSome_some, if_true] at h3
      cases hi with
      | none => simp at hhi
      | some o2 =>
        obtain ⟨k2, hk2⟩ := natOf_VR (hv o2) hb'
        have h2 := natBound_run (P := P) hk2 hbc .slice3B w
        simp only [Instr.sliceBounds, Option.map_some, Option.isSome_some, if_true, Sem.run_bind, Sem.run_pure, Result.andThen_ok, h1, h2, Option.getD_some]
        cases lo with
        | none => simp only [Option.map_none, Sem.run_pure, Result.ok.injEq, and_true] at h3; subst h3; simp only [Option.map_none, Sem.run_bind, Sem.run_pure, Result.andThen_ok]
        | some o3 => simp only [Option.map_some, Option.map_none] at h3; simp only [Option.map_some, Option.isSome_none, Bool.false_eq_true, if_false, Sem.run_bind, Sem.run_pure, Result.andThen_ok, h3]
    · cases e
end
end Go.Ev
