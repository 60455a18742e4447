/- What comes in, read as abstract values; what a law's call leaves. -/
import Derived.Test.YtpjjloaphlaokaaEvV
import Derived.Test.YtpjjloaphlaokaaEwA
import Derived.ProofKit
import Derived.Deep.Slices
import Derived.ChangeArms
import Derived.OpenShut
set_option linter.unusedVariables false
set_option linter.unusedSimpArgs false
set_option linter.unnecessarySimpa false
namespace Go.Ev
open Go Go.RowKit

/-- The shapes of what comes in. -/
inductive Sh where
  | int (k : IntKind)
  | bool
  | sl (e : Sh)
  | nil
  | cons (a b : Sh)
def Sh.size : Sh → Nat
  | .int _ | .bool | .sl _ => 1
  | .nil => 0
  | .cons a b => a.size + b.size
/-- Cells of a shape. -/
def Sh.ok : Sh → List AV → Prop
  | .int k, xs => ∃ n, xs = [.lit (.int k n)] ∧ (Lit.int k n).wf = true
  | .bool, xs => ∃ b, xs = [.lit (.bool b)]
  | .sl e, xs => ∃ b n c ys, xs = [.sl b n (some c) ys] ∧ n ≤ maxLen ∧ ys.length = n * e.size ∧ (b = true → n = 0) ∧ ∀ i, i < n → e.ok ((ys.drop (i * e.size)).take e.size)
  | .nil, xs => xs = []
  | .cons a b, xs => ∃ ys zs, xs = ys ++ zs ∧ a.ok ys ∧ b.ok zs
theorem Sh.ok_length : ∀ (s : Sh) (xs : List AV), s.ok xs → xs.length = s.size
  | .int k, xs, h => by obtain ⟨n, rfl, _⟩ := h; rfl
  | .bool, xs, h => by obtain ⟨n, rfl⟩ := h; rfl
  | .sl e, xs, h => by obtain ⟨b, n, c, ys, rfl, _⟩ := h; rfl
  | .nil, xs, h => by cases h; rfl
  | .cons a b, xs, h => by
    obtain ⟨ys, zs, rfl, h1, h2⟩ := h
    rw [List.length_append, Sh.ok_length a ys h1, Sh.ok_length b zs h2]
    rfl
def shL (P : Program) (f : TypeId → Option Sh) : List (Nat × TypeId) → Nat → Option Sh
  | [], _ => some .nil
  | (o, t) :: r, off => if Nat.beq o off then match f t with
    | some s => if Nat.beq (P.cellsOf t) s.size then (shL P f r (off + s.size)).map (.cons s) else none
    | none => none
    else none
def shOf (P : Program) : Nat → TypeId → Option Sh
  | 0, _ => none
  | n + 1, t => match P.underlying t with
    | some (.int k) => some (.int k)
    | some .bool => some .bool
    | some (.slice e) => match shOf P n e with
      | some s => if Nat.beq (P.cellsOf e) s.size then some (.sl s) else none
      | none => none
    | some (.struct fs) => match shL P (shOf P n) (fs.toList.map fun f => (f.offset, f.type)) 0 with
      | some s => if Nat.beq (P.cellsOf t) s.size then some s else none
      | none => none
    | some (.array m e) => match shL P (shOf P n) ((List.range m).map fun i => (i * P.cellsOf e, e)) 0 with
      | some s => if Nat.beq (P.cellsOf t) s.size then some s else none
      | none => none
    | _ => none

abbrev noOw : Nat → Prop := fun _ => False
def RdOk (w : World) (s : Sh) (cs : List Value) : Prop := ∃ xs, s.ok xs ∧ Cells w noOw noPhi xs cs

section
variable {H : Type} {enc : TypeId × Value → H} {P : Program} {w : World}

theorem rdL {f : TypeId → Option Sh} (hf : ∀ t s, f t = some s → ∀ n cs y, DataW.trod enc P w 0 (fun _ => true) true n t cs = some y → RdOk w s cs) : ∀ (l : List (Nat × TypeId)) (off : Nat) (s : Sh) (cs : List Value), shL P f l off = some s →
    (∀ (i : Nat) (o : Nat) (t : TypeId), l[i]? = some (o, t) → ∃ m y, DataW.trod enc P w 0 (fun _ => true) true m t ((cs.drop o).take (P.cellsOf t)) = some y) → RdOk w s ((cs.drop off).take s.size)
  | [], off, s, cs, e, _ => by
    simp only [shL, Option.some.injEq] at e
    subst e
    exact ⟨[], rfl, by simpa [Sh.size] using Cells.nil⟩
  | (o, t) :: r, off, s, cs, e, h => by
    simp only [shL] at e
    split at e
    · rename_i ho
      have ho := Nat.eq_of_beq_eq_true ho
      subst ho
      split at e
      · rename_i s1 hs1
        split at e
        · rename_i hc
          have hc := Nat.eq_of_beq_eq_true hc
          simp only [Option.map_eq_some_iff] at e
          obtain ⟨s2, e2, rfl⟩ := e
          obtain ⟨m, y, hy⟩ := h 0 o t rfl
          obtain ⟨xs, k1, c1⟩ := hf t s1 hs1 m _ y hy
          rw [hc] at c1
          obtain ⟨ys, k2, c2⟩ := rdL hf r (o + s1.size) s2 cs e2 fun i o' t' hi => h (i + 1) o' t' (by simpa using hi)
          refine ⟨xs ++ ys, ⟨xs, ys, rfl, k1, k2⟩, ?_⟩
          have := c1.append c2
          rw [← List.drop_drop, ← List.take_add] at this
          exact this
        · cases e
      · cases e
    · cases e

theorem cell_spot {b o : Nat} {sp : Option Nat} {v : Value} (h : w.cell? ⟨b, o, sp⟩ = some v) : sp = none := by
  unfold World.cell? at h
  split at h
  · split at h
    · cases h
    · rename_i hs
      cases sp with
      | none => rfl
      | some k => simp at hs
  · cases h
theorem cell_lt {a : Addr} {v : Value} (h : w.cell? a = some v) : a.block < w.heap.size := by
  unfold World.cell? at h
  split at h
  · rename_i hb
    exact (Array.getElem?_eq_some_iff.1 hb).1
  · cases h

/-- The elements of a slice that comes in. -/
theorem rd_rows {s : Sh} {a : Addr} {k : Nat} (hk : k = s.size) : ∀ (len : Nat), (∀ i, i < len → ∃ cs', w.cells? 0 (a.add (i * k)) k = some cs' ∧ RdOk w s cs') →
    ∃ ys vs, Cells w noOw noPhi ys vs ∧ ys.length = len * s.size ∧ (∀ i, i < len → s.ok ((ys.drop (i * s.size)).take s.size)) ∧ ∀ (j : Nat) (v : Value), vs[j]? = some v → w.cell? (a.add j) = some v
  | 0, _ => ⟨[], [], Cells.nil, by simp, by intro i hi; omega, by simp⟩
  | len + 1, h => by
    obtain ⟨ys, vs, h1, h2, h3, h4⟩ := rd_rows hk len fun i hi => h i (by omega)
    obtain ⟨cs', e1, xs, k1, c1⟩ := h len (by omega)
    have hx := Sh.ok_length s xs k1
    obtain ⟨_, f1, f2⟩ := World.cells?_some e1
    have hvl : vs.length = len * s.size := h1.1.trans h2
    refine ⟨ys ++ xs, vs ++ cs', h1.append c1, by rw [List.length_append, h2, hx, Nat.succ_mul], fun i hi => ?_, fun j v hj => ?_⟩
    · rcases Nat.lt_or_eq_of_le (Nat.le_of_lt_succ hi) with hlt | rfl
      · have hle : i * s.size + s.size ≤ ys.length := by rw [h2, ← Nat.succ_mul]; exact Nat.mul_le_mul_right _ hlt
        rw [List.drop_append_of_le_length (by omega), List.take_append_of_le_length (by simp; omega)]
        exact h3 i hlt
      · rw [← h2, List.drop_left, List.take_of_length_le (by omega)]
        exact k1
    · rw [List.getElem?_append] at hj
      split at hj
      · exact h4 j v hj
      · rename_i hge
        have hjl := (List.getElem?_eq_some_iff.1 hj).1
        have := f2 (j - vs.length) (by omega)
        rw [Go.Deep.add_add, hj] at this
        rw [← this]
        congr 2
        rw [hvl, hk]
        omega

theorem rd_sound : ∀ (n : Nat) (t : TypeId) (s : Sh), shOf P n t = some s → ∀ (m : Nat) (cs : List Value) (y : DataW H × List MemPlace), DataW.trod enc P w 0 (fun _ => true) true m t cs = some y → RdOk w s cs
  | 0, t, s, e, _, _, _, _ => by cases e
  | n + 1, t, s, e, m, cs, y, h => by
    simp only [shOf] at e
    split at e
    · rename_i k hu
      cases e
      obtain ⟨v, rfl, _, hwf⟩ := DataW.trod_int hu h
      exact ⟨[.lit (.int k v)], ⟨v, rfl, hwf⟩, Cells.one (.lit _) rfl⟩
    · rename_i hu
      cases e
      obtain ⟨b, rfl, _⟩ := DataW.trod_bool hu h
      exact ⟨[.lit (.bool b)], ⟨b, rfl⟩, Cells.one (.lit _) rfl⟩
    · rename_i te hu
      split at e
      · rename_i s1 hs1
        split at e
        · rename_i hc
          have hc := Nat.eq_of_beq_eq_true hc
          cases e
          rcases Go.Deep.open_slice hu h with ⟨rfl, _⟩ | ⟨a, len, cap, mm, n', D, Pl, rfl, _, hl, hm, hmm, _, hx⟩
          · refine ⟨[.sl true 0 (some 0) []], ⟨true, 0, 0, [], rfl, by unfold maxLen; omega, by simp, fun _ => rfl, by intro i hi; omega⟩, Cells.one ?_ rfl⟩
            exact .sl true 0 0 (some 0) [] none [] rfl (Nat.le_refl _) (by rintro k ⟨⟩; rfl) rfl (by simp) (by simp) (by simp)
          · simp only [if_true] at hmm
            subst hmm
            obtain ⟨ys, vs, h1, h2, h3, h4⟩ := rd_rows (w := w) (s := s1) (a := a) (k := P.cellsOf te) hc len fun i hi => by
              obtain ⟨cs', q1, q2⟩ := hx i (by omega)
              exact ⟨cs', q1, rd_sound n te s1 hs1 _ _ _ q2⟩
            refine ⟨[.sl false len (some mm) ys], ⟨false, len, mm, ys, rfl, by omega, h2, fun h => (by cases h), h3⟩, Cells.one ?_ rfl⟩
            refine .sl false len mm (some mm) ys (some a) vs rfl hl (by rintro k ⟨⟩; rfl) h1.1 h1.2.1 h1.2.2 fun hne => ?_
            have hpos : 0 < vs.length := by rw [h1.1]; exact List.length_pos_iff.2 hne
            have h0 := h4 0 _ (List.getElem?_eq_getElem hpos)
            obtain ⟨b, o, sp⟩ := a
            have hsp : sp = none := cell_spot (by simpa [Addr.add] using h0)
            subst hsp
            refine ⟨b, o, rfl, by simpa [Addr.add] using cell_lt h0, id, fun j v hj => ?_⟩
            have := h4 j v hj
            rw [add_none] at this
            exact this
        · cases e
      · cases e
    · rename_i fs hu
      split at e
      · rename_i s1 hs1
        split at e
        · rename_i hc
          have hc := Nat.eq_of_beq_eq_true hc
          cases e
          obtain ⟨xs, n', _, _, hl, hlen, hx⟩ := DataW.trod_struct hu h
          have := rdL (enc := enc) (w := w) (rd_sound n) (fs.toList.map fun f => (f.offset, f.type)) 0 s cs hs1 fun i o t hi => by
            simp only [List.getElem?_map, Option.map_eq_some_iff, Prod.mk.injEq] at hi
            obtain ⟨f, hf, rfl, rfl⟩ := hi
            have hf' : fs[i]? = some f := by simpa using hf
            have hlt := (Array.getElem?_eq_some_iff.1 hf').1
            exact ⟨n', xs[i]'(by omega), by rw [hx i f hf']; exact List.getElem?_eq_getElem _⟩
          rw [List.drop_zero, List.take_of_length_le (by omega)] at this
          exact this
        · cases e
      · cases e
    · rename_i am ae hu
      split at e
      · rename_i s1 hs1
        split at e
        · rename_i hc
          have hc := Nat.eq_of_beq_eq_true hc
          cases e
          obtain ⟨xs, n', _, _, hl, hlen, hx⟩ := DataW.trod_array hu h
          have := rdL (enc := enc) (w := w) (rd_sound n) ((List.range am).map fun i => (i * P.cellsOf ae, ae)) 0 s cs hs1 fun i o t hi => by
            simp only [List.getElem?_map, Option.map_eq_some_iff, Prod.mk.injEq] at hi
            obtain ⟨i', hi', rfl, rfl⟩ := hi
            have hlt : i < am := by simpa using (List.getElem?_eq_some_iff.1 hi').1
            have hie : i' = i := by
              have := (List.getElem?_eq_some_iff.1 hi').2
              simpa using this.symm
            subst hie
            exact ⟨n', xs[i']'(by omega), by rw [hx i' hlt]; exact List.getElem?_eq_getElem _⟩
          rw [List.drop_zero, List.take_of_length_le (by omega)] at this
          exact this
        · cases e
      · cases e
    · cases e

/-- A struct, an array: what an argument says. -/
theorem rd_agg {t : TypeId} {s : Sh} {n : Nat} {v : Value} {d : DataW H} {p : List MemPlace} (hs : shOf P n t = some s) (hv : ∃ cs, v = .agg cs) (h : DataW.Trod enc P w 0 (fun _ => true) true t v d p) : ∃ xs, s.ok xs ∧ VR w noOw noPhi (.agg xs) v := by
  obtain ⟨cs, rfl⟩ := hv
  obtain ⟨m, hm⟩ := h
  obtain ⟨xs, h1, h2⟩ := rd_sound n t s hs m _ _ hm
  have := agg_VR h2
  simp only [Value.cells, Array.toArray_toList] at this
  exact ⟨xs, h1, this⟩
/-- A slice. -/
theorem rd_sl {t : TypeId} {s : Sh} {n : Nat} {a : Option Addr} {len cap : Nat} {d : DataW H} {p : List MemPlace} (hs : shOf P n t = some (.sl s)) (h : DataW.Trod enc P w 0 (fun _ => true) true t (.slice a len cap) d p) : ∃ x, (Sh.sl s).ok [x] ∧ VR w noOw noPhi x (.slice a len cap) := by
  obtain ⟨m, hm⟩ := h
  obtain ⟨xs, h1, h2⟩ := rd_sound n t _ hs m _ _ hm
  obtain ⟨b, k, c, ys, rfl, h3⟩ := h1
  exact ⟨_, ⟨b, k, c, ys, rfl, h3⟩, h2.2.1 0 _ _ rfl rfl⟩
end

theorem ok_arr {P : Program} {w : World} {r : Reach} {base : Nat} {t : TypeId} {v : Value} {n : Nat} {e : TypeId} (ht : P.underlying t = some (.array n e)) (h : Value.okWide P w r base t v) : ∃ cs, v = .agg cs ∧ cs.size = P.cellsOf t := by
  simp only [Value.okWide, ht] at h
  obtain ⟨cs, h1, h2, _⟩ := h
  exact ⟨cs, h1, h2⟩
/-- A law's call. -/
theorem law_calls {P : Program} {pol : Pol} {X : Ext} (hX : ExtOk P X) (hm : P.follows .mixedOrders = true) {f : FuncId} {args : List AV} {vs : Array Value} {w : World} (hp : Pu (tabOf P pol X) f args (· = bv true)) (hn : args.all (AV.noRef deep) = true)
    (ha : ArgsR w noOw noPhi args vs) : Calls P f vs w fun e w' => e = .returned (.bool true) ∧ Below w.heap.size w w' := by
  obtain ⟨v, rfl, n, he⟩ := hp.use hn []
  have hr : HR noOw [] noPhi w := HR.nil fun b hb => hb.elim
  refine (evCall_sound hX hm he hr (by rw [own_nil]; exact ha)).mono fun e w' hret => ?_
  obtain ⟨u, φ', rfl, _, hst, hv, _, _⟩ := hret
  cases hv
  refine ⟨rfl, hst.os, hst.tape, hst.output, hst.size, fun k hk => hst.keep k hk ?_⟩
  rintro ⟨o, cs, base, h1, _⟩
  simp [look] at h1
end Go.Ev
