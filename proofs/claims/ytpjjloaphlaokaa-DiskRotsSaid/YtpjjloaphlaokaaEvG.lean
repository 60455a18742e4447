/- All operations that only read: slices, addresses, indexes; the theorem. -/
import Derived.Test.YtpjjloaphlaokaaEvF
set_option linter.unusedVariables false
set_option linter.unusedSimpArgs false
set_option linter.unnecessarySimpa false
namespace Go.Ev
open Go

section
variable {P : Program} {B : Nat → Prop} {h : Heap} {φ : Phi} {w : World}

theorem mxOk_le {n c m : Nat} {cap : Option Nat} (hn : n ≤ c) (hcap : ∀ k, cap = some k → c = k) (e : mxOk n cap m = true) : m ≤ c := by
  unfold mxOk at e
  simp only [Bool.or_eq_true, decide_eq_true_eq] at e
  rcases e with e | e
  · omega
  · cases cap with
    | none => simp at e
    | some k => have := hcap k rfl; simp at e; omega
theorem capCut_eq {c a : Nat} {cap m : Option Nat} (hcap : ∀ k, cap = some k → c = k) : ∀ k, capCut cap a m = some k → m.getD c - a = k := by
  intro k e
  cases m with
  | some m => simpa [capCut] using e
  | none =>
    cases cap with
    | none => simp [capCut] at e
    | some k' => have := hcap k' rfl; subst this; simpa [capCut] using e

theorem slice_VR {t e : TypeId} {sz : Nat} {lo hi mx : Option Operand} {vf : Operand → AV} {ρ : Operand → Value} {x y : AV} {v : Value} {g : Look}
    (hv : ∀ y, VR w (Own B h φ) φ (vf y) (ρ y)) (hu : P.underlying t = some (.slice e)) (hs : szOf P e = some sz) (hx : VR w (Own B h φ) φ x v)
    (he : evR g (.slice sz lo.isSome hi.isSome mx.isSome) (x :: (lo.toList ++ hi.toList ++ mx.toList).map vf) = some y) :
    ∃ u, (Instr.sliceAt t v (lo.map ρ) (hi.map ρ) (mx.map ρ)).run P w = .ok u w ∧ VR w (Own B h φ) φ y u := by
  have key : ∀ (a : Option Addr) (n c l hh : Nat) (m : Option Nat), (Instr.sliceBounds true n c (lo.map ρ) (hi.map ρ) (mx.map ρ)).run P w = .ok (l, hh, m.getD c) w →
      (Instr.sliceAt t (.slice a n c) (lo.map ρ) (hi.map ρ) (mx.map ρ)).run P w = .ok (.slice (if m.getD c = l then a else a.map (·.add (l * sz))) (hh - l) (m.getD c - l)) w := by
    intro a n c l hh m hb
    simp only [Instr.sliceAt, Sem.run_bind, run_underlying' hu, Result.andThen_ok, Instr.slice, hb, run_sizeOf' hs, Sem.run_pure]
  simp only [evR] at he
  cases hx with
  | sl isNil n c cap xs a cs hnil hn hcap hlen hx ho hm =>
    simp only [] at he
    split at he
    · rename_i l hh m hb
      split at he
      · rename_i hc
        obtain ⟨hbn, hxl, hmx⟩ := hc
        cases he
        obtain ⟨h1, h2, h3⟩ := bounds3_run (P := P) (w := w) (isSlice := true) (cap := c) (n := n) (ρ := ρ) hv hb
          (fun k e => by subst e; exact mxOk_le hn hcap hmx) (fun _ => by omega)
        refine ⟨_, key a n c l hh m h1, ?_⟩
        have hcl : Cells w (Own B h φ) Ev.noPhi xs cs := ⟨hlen, hx, ho⟩
        have hcl' := (hcl.drop (l * sz)).take ((hh - l) * sz)
        refine .sl isNil (hh - l) (m.getD c - l) _ _ _ _ ?_ (by omega) (capCut_eq hcap) hcl'.1 hcl'.2.1 hcl'.2.2 fun hne => ?_
        · split
          · exact hnil
          · rw [← hnil]; cases a <;> rfl
        · have hpos : 0 < (hh - l) * sz := by
            rcases Nat.eq_zero_or_pos ((hh - l) * sz) with h0 | h0
            · rw [h0] at hne; simp at hne
            · exact h0
          have hlh : l < hh := by
            rcases Nat.lt_or_ge l hh with h0 | h0
            · exact h0
            · rw [Nat.sub_eq_zero_of_le h0] at hpos; simp at hpos
          have hxne : xs ≠ [] := by intro h0; subst h0; simp at hne
          obtain ⟨b, o, rfl, hb1, hb2, hb3⟩ := hm hxne
          rw [if_neg (by omega)]
          refine ⟨b, o + l * sz, by simp [add_none], hb1, hb2, fun j v e => ?_⟩
          have hj : j < (hh - l) * sz := by
            have := (List.getElem?_eq_some_iff.1 e).1
            simp at this
            omega
          simp [List.getElem?_take, hj] at e
          rw [Nat.add_assoc]
          exact hb3 _ v e
      · cases he
    · cases he
  | ref o off n sz' c b base cap a hφ ha hn hcap hr =>
    simp only [] at he
    split at he
    · rename_i l hh m hb
      split at he
      · rename_i hc
        obtain ⟨rfl, hbn, hmx⟩ := hc
        cases he
        obtain ⟨h1, h2, h3⟩ := bounds3_run (P := P) (w := w) (isSlice := true) (cap := c) (n := n) (ρ := ρ) hv hb
          (fun k e => by subst e; exact mxOk_le hn hcap hmx) (fun _ => mxOk_le hn hcap hbn)
        refine ⟨_, key (some a) n c l hh m h1, ?_⟩
        have hmc : m.getD c ≤ c := by
          cases m with
          | none => exact Nat.le_refl _
          | some m => exact mxOk_le hn hcap hmx
        obtain ⟨rs, T, fz, hrs, hrl⟩ := hr
        have hx : (if m.getD c = l then some a else (some a).map (·.add (l * sz'))) = some (if m.getD c = l then a else a.add (l * sz')) := by split <;> rfl
        rw [hx]
        refine .ref o (off + l * sz') (hh - l) sz' _ b base _ _ hφ (fun hne => ?_) (by omega) (capCut_eq hcap) ⟨rs, T, fz, hrs, ?_⟩
        · rw [if_neg (by omega), ha (by omega), add_none, Nat.add_assoc]
        · have : l * sz' + (m.getD c - l) * sz' = m.getD c * sz' := by rw [← Nat.add_mul]; congr 1; omega
          have h5 : m.getD c * sz' ≤ c * sz' := Nat.mul_le_mul_right _ hmc
          omega
      · cases he
    · cases he
  | _ => simp at he

theorem sliceS_VR {t : TypeId} {lo hi : Option Operand} {vf : Operand → AV} {ρ : Operand → Value} {x y : AV} {v : Value} {g : Look}
    (hv : ∀ y, VR w (Own B h φ) φ (vf y) (ρ y)) (hu : P.underlying t = some .string) (hx : VR w (Own B h φ) φ x v)
    (he : evR g (.sliceS lo.isSome hi.isSome) (x :: (lo.toList ++ hi.toList).map vf) = some y) :
    ∃ u, (Instr.sliceAt t v (lo.map ρ) (hi.map ρ) none).run P w = .ok u w ∧ VR w (Own B h φ) φ y u := by
  cases hx with
  | lit v =>
    cases v with
    | string s =>
      simp only [evR] at he
      split at he
      · rename_i l hh m hb
        split at he
        · rename_i hle
          cases he
          have hb' : bounds3 s.size lo.isSome hi.isSome (none : Option Operand).isSome ((lo.toList ++ hi.toList ++ (none : Option Operand).toList).map vf) = some (l, hh, m) := by simpa using hb
          have hm : m = none := by
            simp only [bounds3, Option.bind_eq_bind, Option.bind_eq_some_iff] at hb
            obtain ⟨⟨x1, r1⟩, e1, ⟨x2, r2⟩, e2, ⟨x3, r3⟩, e3, e⟩ := hb
            simp only [pickOpt, Bool.false_eq_true, if_false, Option.some.injEq, Prod.mk.injEq] at e3
            obtain ⟨rfl, rfl⟩ := e3
            split at e
            · cases e
            · simp only [Option.bind_eq_some_iff] at e
              obtain ⟨_, _, _, _, e⟩ := e
              split at e
              · cases e; rfl
              · cases e
          subst hm
          obtain ⟨h1, h2, h3⟩ := bounds3_run (P := P) (w := w) (isSlice := false) (cap := s.size) (n := s.size) (ρ := ρ) hv hb' (fun k e => by cases e) (fun _ => hle)
          refine ⟨_, ?_, .lit _⟩
          simp only [Option.map_none] at h1
          simp [Instr.sliceAt, run_underlying' hu, Instr.slice, h1]
        · cases he
      · cases he
    | _ => simp [evR] at he
  | _ => simp [evR] at he

theorem faddr_VR {s : TypeId} {f : Nat} {fs : Array Field} {fd : Field} {k : Nat} {x y : AV} {v : Value} {g : Look}
    (hu : P.underlying s = some (.struct fs)) (hf : fs[f]? = some fd) (hk : szOf P fd.type = some k) (hk0 : k ≠ 0)
    (hx : VR w (Own B h φ) φ x v) (he : evR g (.faddr fd.offset) [x] = some y) :
    ∃ u, (Instr.fieldAt s v f).run P w = .ok u w ∧ VR w (Own B h φ) φ y u := by
  have key : ∀ b o, (Instr.fieldAt s (.pointer (some ⟨b, o, none⟩)) f).run P w = .ok (.pointer (some ⟨b, o + fd.offset, none⟩)) w := by
    intro b o
    simp [Instr.fieldAt, run_underlying' hu, hf, Instr.sureAddr, fieldPlace, run_sizeOf' hk, hk0, add_none]
  cases hx with
  | ptr o off b base hφ =>
    simp only [evR, Option.some.injEq] at he
    subst he
    refine ⟨_, key _ _, ?_⟩
    rw [Nat.add_assoc]
    exact .ptr o (off + fd.offset) b base hφ
  | fptr xs cs b o hlen hx ho hm =>
    simp only [evR, Option.some.injEq] at he
    subst he
    have hcl : Cells w (Own B h φ) Ev.noPhi xs cs := ⟨hlen, hx, ho⟩
    have hcl' := hcl.drop fd.offset
    refine ⟨_, key _ _, .fptr _ _ b _ hcl'.1 hcl'.2.1 hcl'.2.2 fun hne => ?_⟩
    have hxne : xs ≠ [] := by intro h0; subst h0; simp at hne
    obtain ⟨h1, h2, h3⟩ := hm hxne
    refine ⟨h1, h2, fun j v e => ?_⟩
    rw [Nat.add_assoc]
    exact h3 _ v (by simpa using e)
  | _ => simp [evR] at he

theorem iaddr_VR {t e : TypeId} {sz : Nat} {x y i : AV} {v vi : Value} {g : Look}
    (hu : P.underlying t = some (.slice e)) (hs : szOf P e = some sz) (hx : VR w (Own B h φ) φ x v) (hi : VR w (Own B h φ) φ i vi)
    (he : evR g (.iaddr none sz) [x, i] = some y) :
    ∃ u, (Instr.indexAt t v vi).run P w = .ok u w ∧ VR w (Own B h φ) φ y u := by
  simp only [evR] at he
  split at he
  · rename_i i' n hn
    obtain ⟨k, rfl⟩ := natOf_VR hi hn
    cases hx with
    | sl isNil m c cap xs a cs hnil hm hcap hlen hx ho hmm =>
      simp only [] at he
      split at he
      · rename_i hc
        obtain ⟨h1, h2, h3⟩ := hc
        cases he
        have hms : 0 < m * sz := Nat.mul_pos (by omega) h2
        have hxne : xs ≠ [] := by intro h0; subst h0; simp at h3; omega
        obtain ⟨b, o, rfl, hb1, hb2, hb3⟩ := hmm hxne
        have hcl : Cells w (Own B h φ) Ev.noPhi xs cs := ⟨hlen, hx, ho⟩
        have hcl' := hcl.drop (n * sz)
        refine ⟨.pointer (some ⟨b, o + n * sz, none⟩), ?_, .fptr _ _ b _ hcl'.1 hcl'.2.1 hcl'.2.2 fun _ => ⟨hb1, hb2, fun j v e => ?_⟩⟩
        · simp [Instr.indexAt, asIntOf, run_underlying' hu, run_sizeOf' hs, h1, add_none]
        · rw [Nat.add_assoc]
          exact hb3 _ v (by simpa using e)
      · cases he
    | ref o off m sz' c b base cap a hφ ha hm hcap hr =>
      simp only [] at he
      split at he
      · rename_i hc
        obtain ⟨h1, rfl⟩ := hc
        cases he
        refine ⟨.pointer (some ⟨b, base + (off + n * sz'), none⟩), ?_, .ptr o _ b base hφ⟩
        have := ha (by omega)
        subst this
        simp [Instr.indexAt, asIntOf, run_underlying' hu, run_sizeOf' hs, h1, add_none, Nat.add_assoc]
      · cases he
    | _ => simp at he
  · cases he
theorem iaddrA_VR {t e : TypeId} {len sz : Nat} {x y i : AV} {v vi : Value} {g : Look}
    (hu : P.underlying t = some (.array len e)) (hs : szOf P e = some sz) (hx : VR w (Own B h φ) φ x v) (hi : VR w (Own B h φ) φ i vi)
    (he : evR g (.iaddr (some len) sz) [x, i] = some y) :
    ∃ u, (Instr.indexAt t v vi).run P w = .ok u w ∧ VR w (Own B h φ) φ y u := by
  simp only [evR] at he
  split at he
  · rename_i i' n hn
    obtain ⟨k, rfl⟩ := natOf_VR hi hn
    split at he
    · rename_i h1
      have key : ∀ b o, (Instr.indexAt t (.pointer (some ⟨b, o, none⟩)) (.int k n)).run P w = .ok (.pointer (some ⟨b, o + n * sz, none⟩)) w := by
        intro b o
        simp [Instr.indexAt, asIntOf, run_underlying' hu, run_sizeOf' hs, h1, add_none, Instr.sureAddr]
      cases hx with
      | ptr o off b base hφ =>
        simp only [Option.some.injEq] at he
        subst he
        refine ⟨_, key _ _, ?_⟩
        rw [Nat.add_assoc]
        exact .ptr o _ b base hφ
      | fptr xs cs b o hlen hx ho hm =>
        simp only [Option.some.injEq] at he
        subst he
        have hcl : Cells w (Own B h φ) Ev.noPhi xs cs := ⟨hlen, hx, ho⟩
        have hcl' := hcl.drop (n * sz)
        refine ⟨_, key _ _, .fptr _ _ b _ hcl'.1 hcl'.2.1 hcl'.2.2 fun hne => ?_⟩
        have hxne : xs ≠ [] := by intro h0; subst h0; simp at hne
        obtain ⟨h1, h2, h3⟩ := hm hxne
        refine ⟨h1, h2, fun j v e => ?_⟩
        rw [Nat.add_assoc]
        exact h3 _ v (by simpa using e)
      | _ => simp at he
    · cases he
  · cases he

theorem cell_heap {w w2 : World} (hw : w2.heap = w.heap) (a : Addr) : w2.cell? a = w.cell? a := by unfold World.cell?; rw [hw]
/-- The contents of a slice. -/
theorem slC_VR {g : Look} {sz n : Nat} {x : AV} {ys : List AV} {v : Value} (hr : HR B h φ w) (hg : ∀ o cs, g o = some cs → look h o = some cs)
    (hx : VR w (Own B h φ) φ x v) (he : slC g sz x = some (n, ys)) :
    ys.length = n * sz ∧ (Builtin.lenOf v).run P w = .ok n w ∧
    ∃ cs : List Value, Cells w (Own B h φ) φ ys cs ∧ ∀ m, m ≤ n → ∀ w2 : World, w2.heap = w.heap → (Builtin.firstCells sz m v).run P w2 = .ok (cs.take (m * sz)).toArray w2 := by
  cases hx with
  | sl isNil n' c cap xs a cs hnil hn hcap hlen hx ho hm =>
    simp only [slC] at he
    split at he
    · rename_i hl
      cases he
      have hcl : Cells w (Own B h φ) Ev.noPhi ys cs := ⟨hlen, hx, ho⟩
      refine ⟨hl, rfl, cs, hcl.map (fun x v hv => hv.noPhi), fun m hmn w2 hw2 => ?_⟩
      by_cases hne : ys = []
      · subst hne
        have h0 : cs = [] := List.length_eq_zero_iff.1 hlen
        subst h0
        have hms : m * sz = 0 := by
          have : n * sz = 0 := by simpa using hl.symm
          rcases Nat.mul_eq_zero.1 this with h | h
          · have : m = 0 := by omega
            simp [this]
          · simp [h]
        cases a with
        | none => simp [Builtin.firstCells]
        | some ad => simp [Builtin.firstCells, hms, loadCells, loadCellsFrom]
      · obtain ⟨b, o, rfl, hb1, hb2, hb3⟩ := hm hne
        have hle : m * sz ≤ n * sz := Nat.mul_le_mul_right _ hmn
        exact run_loadCells_at b o (m * sz) (cs.take (m * sz)) (by rw [List.length_take, hlen, hl]; omega) (fun j v e => by
          have hj : j < m * sz := by
            have := (List.getElem?_eq_some_iff.1 e).1
            simp at this
            omega
          simp [List.getElem?_take, hj] at e
          rw [cell_heap hw2]; exact hb3 j v e)
    · cases he
  | ref o off n' sz' c b base cap a hφ ha hn hcap hrr =>
    simp only [slC] at he
    split at he
    · rename_i hsz
      subst hsz
      simp only [Option.map_eq_some_iff, Prod.mk.injEq] at he
      obtain ⟨ys', hys, rfl, rfl⟩ := he
      obtain ⟨b', o', he', hl, cs, hcl, hm⟩ := rdM_VR hr hg (.ptr o off b base hφ) hys
      simp only [Value.pointer.injEq, Option.some.injEq, Addr.mk.injEq, and_true] at he'
      obtain ⟨rfl, rfl⟩ := he'
      refine ⟨hl, rfl, cs, hcl, fun m hmn w2 hw2 => ?_⟩
      have hle : m * sz' ≤ n' * sz' := Nat.mul_le_mul_right _ hmn
      by_cases hc0 : c = 0
      · have hm0 : m = 0 := by omega
        subst hm0
        simp [Builtin.firstCells, loadCells, loadCellsFrom]
      · rw [ha hc0]
        exact run_loadCells_at _ _ (m * sz') (cs.take (m * sz')) (by rw [List.length_take, hcl.1, hl]; omega) (fun j v e => by
          have hj : j < m * sz' := by
            have := (List.getElem?_eq_some_iff.1 e).1
            simp at this
            omega
          simp [List.getElem?_take, hj] at e
          rw [cell_heap hw2]; exact hm j v e)
    · cases he
  | lit v =>
    cases v with
    | string s =>
      simp only [slC] at he
      split at he
      · rename_i hsz
        subst hsz
        simp only [Option.some.injEq, Prod.mk.injEq] at he
        obtain ⟨rfl, rfl⟩ := he
        refine ⟨by rw [List.length_map, Nat.mul_one]; rfl, rfl, s.data.toList.map fun b => .int .u8 b.toNat, ⟨by simp, fun j x v e e' => ?_, fun v hv => ?_⟩, fun m hmn w2 hw2 => ?_⟩
        · simp only [List.getElem?_map, Option.map_eq_some_iff] at e e'
          obtain ⟨b1, h1, rfl⟩ := e
          obtain ⟨b2, h2, rfl⟩ := e'
          rw [h1] at h2
          cases h2
          exact .lit _
        · simp only [List.mem_map] at hv
          obtain ⟨b, _, rfl⟩ := hv
          rfl
        · simp only [Builtin.firstCells, Sem.run_pure, Nat.mul_one]
          congr 1
          apply Array.ext'
          rw [Array.toList_map, ByteArray.data_extract, Array.toList_extract, ← List.map_take]
          rfl
      · cases he
    | _ => simp [slC] at he
  | _ => simp [slC] at he
end
end Go.Ev
