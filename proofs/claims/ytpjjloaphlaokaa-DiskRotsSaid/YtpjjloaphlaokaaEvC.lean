/- What an abstract value says of a value, an abstract heap of memory; what stays. -/
import Derived.Test.YtpjjloaphlaokaaEvB
import Derived.RowKit3
import Derived.Below
set_option linter.unusedVariables false
set_option linter.unusedSimpArgs false
namespace Go.Ev
open Go

abbrev Phi := Nat → Option (Nat × Nat)
def noPhi : Phi := fun _ => none

/-- 'v' is what 'x' says; 'Ow': the blocks that may still change. -/
inductive VR (w : World) (Ow : Nat → Prop) : Phi → AV → Value → Prop
  | und {φ} (v : Value) : VR w Ow φ .und v
  | lit {φ} (v : Value) : VR w Ow φ (.lit v) v
  | sl {φ} (isNil : Bool) (n c : Nat) (cap : Option Nat) (xs : List AV) (a : Option Addr) (cs : List Value)
      (hnil : a.isNone = isNil) (hn : n ≤ c) (hcap : ∀ k, cap = some k → c = k) (hlen : cs.length = xs.length)
      (hx : ∀ (j : Nat) (x : AV) (v : Value), xs[j]? = some x → cs[j]? = some v → VR w Ow noPhi x v)
      (ho : ∀ v ∈ cs, v.oneCell' = true)
      (hm : xs ≠ [] → ∃ b o, a = some ⟨b, o, none⟩ ∧ b < w.heap.size ∧ ¬ Ow b ∧ ∀ (j : Nat) (v : Value), cs[j]? = some v → w.cell? ⟨b, o + j, none⟩ = some v) :
      VR w Ow φ (.sl isNil n cap xs) (.slice a n c)
  | ref {φ : Phi} (o off n sz c b base : Nat) (cap : Option Nat) (a : Addr) (hφ : φ o = some (b, base))
      (ha : c ≠ 0 → a = ⟨b, base + off, none⟩) (hn : n ≤ c) (hcap : ∀ k, cap = some k → c = k)
      (hr : ∃ (cs : Array Value) (T : TypeId) (fz : Nat × Nat), w.heap[b]? = some (Obj.cells cs T fz) ∧ base + off + c * sz ≤ cs.size) :
      VR w Ow φ (.ref o off n sz cap) (.slice (some a) n c)
  | ptr {φ : Phi} (o off b base : Nat) (hφ : φ o = some (b, base)) : VR w Ow φ (.ptr o off) (.pointer (some ⟨b, base + off, none⟩))
  | fptr {φ} (xs : List AV) (cs : List Value) (b o : Nat) (hlen : cs.length = xs.length)
      (hx : ∀ (j : Nat) (x : AV) (v : Value), xs[j]? = some x → cs[j]? = some v → VR w Ow noPhi x v)
      (ho : ∀ v ∈ cs, v.oneCell' = true)
      (hm : xs ≠ [] → b < w.heap.size ∧ ¬ Ow b ∧ ∀ (j : Nat) (v : Value), cs[j]? = some v → w.cell? ⟨b, o + j, none⟩ = some v) :
      VR w Ow φ (.fptr xs) (.pointer (some ⟨b, o, none⟩))
  | fn {φ} (f : FuncId) (xs : List AV) (cs : Array Value) (hlen : cs.size = xs.length)
      (hx : ∀ (j : Nat) (x : AV) (v : Value), xs[j]? = some x → cs[j]? = some v → VR w Ow φ x v) : VR w Ow φ (.fn f xs) (.func (.func f) #[] cs)
  | iface {φ} (t : TypeId) (x : AV) (v : Value) (hx : VR w Ow φ x v) : VR w Ow φ (.iface t x) (.iface t v)
  | agg {φ} (xs : List AV) (cs : Array Value) (hlen : cs.size = xs.length)
      (hx : ∀ (j : Nat) (x : AV) (v : Value), xs[j]? = some x → cs[j]? = some v → VR w Ow φ x v)
      (ho : ∀ v ∈ cs, v.oneCell' = true) : VR w Ow φ (.agg xs) (.agg cs)
  | tup {φ} (xs : List AV) (cs : Array Value) (hlen : cs.size = xs.length)
      (hx : ∀ (j : Nat) (x : AV) (v : Value), xs[j]? = some x → cs[j]? = some v → VR w Ow φ x v) : VR w Ow φ (.tup xs) (.tuple cs)

/-- Rows keep their lengths. -/
def Shapes (w w' : World) : Prop := ∀ (b : Nat) (cs : Array Value) (T : TypeId) (fz : Nat × Nat), w.heap[b]? = some (Obj.cells cs T fz) →
  ∃ (cs' : Array Value) (fz' : Nat × Nat), w'.heap[b]? = some (Obj.cells cs' T fz') ∧ cs'.size = cs.size
/-- The world goes on: what nobody owned is as it was. -/
structure Stp (φ : Phi) (Ow : Nat → Prop) (w : World) (φ' : Phi) (Ow' : Nat → Prop) (w' : World) : Prop where
  phi : ∀ o p, φ o = some p → φ' o = some p
  size : w.heap.size ≤ w'.heap.size
  keep : ∀ b, b < w.heap.size → ¬ Ow b → w'.heap[b]? = w.heap[b]?
  own : ∀ b, b < w.heap.size → Ow' b → Ow b
  shape : Shapes w w'
  os : w'.os = w.os
  tape : w'.tape = w.tape
  output : w'.output = w.output

theorem Stp.refl (φ : Phi) (Ow : Nat → Prop) (w : World) : Stp φ Ow w φ Ow w :=
  ⟨fun _ _ h => h, Nat.le_refl _, fun _ _ _ => rfl, fun _ _ h => h, fun _ cs _ fz h => ⟨cs, fz, h, rfl⟩, rfl, rfl, rfl⟩
theorem Stp.trans {φ φ' φ'' : Phi} {O O' O'' : Nat → Prop} {w w' w'' : World} (h : Stp φ O w φ' O' w') (k : Stp φ' O' w' φ'' O'' w'') : Stp φ O w φ'' O'' w'' where
  phi o p e := k.phi o p (h.phi o p e)
  size := Nat.le_trans h.size k.size
  keep b hb ho := (k.keep b (Nat.lt_of_lt_of_le hb h.size) (fun e => ho (h.own b hb e))).trans (h.keep b hb ho)
  own b hb e := h.own b hb (k.own b (Nat.lt_of_lt_of_le hb h.size) e)
  shape b cs T fz e := by
    obtain ⟨c1, f1, e1, s1⟩ := h.shape b cs T fz e
    obtain ⟨c2, f2, e2, s2⟩ := k.shape b c1 T f1 e1
    exact ⟨c2, f2, e2, s2.trans s1⟩
  os := k.os.trans h.os
  tape := k.tape.trans h.tape
  output := k.output.trans h.output

/-- What a value says stays said. -/
theorem VR.step {w w' : World} {Ow Ow' : Nat → Prop} {φ : Phi} {x : AV} {v : Value} (h : VR w Ow φ x v) :
    ∀ {φ' : Phi}, (∀ o p, φ o = some p → φ' o = some p) → w.heap.size ≤ w'.heap.size → (∀ b, b < w.heap.size → ¬ Ow b → w'.heap[b]? = w.heap[b]?) →
      (∀ b, b < w.heap.size → Ow' b → Ow b) → Shapes w w' →
      VR w' Ow' φ' x v := by
  induction h with
  | und v => intros; exact .und v
  | lit v => intros; exact .lit v
  | sl isNil n c cap xs a cs hnil hn hcap hlen hx ho hm ih =>
    intro φ' hφ hs hk hO hsh
    refine .sl isNil n c cap xs a cs hnil hn hcap hlen (fun j x v e e' => ih j x v e e' (fun _ _ h => h) hs hk hO hsh) ho fun hne => ?_
    obtain ⟨b, o, ha, hb, hno, hc⟩ := hm hne
    refine ⟨b, o, ha, Nat.lt_of_lt_of_le hb hs, fun e => hno (hO b hb e), fun j v e => ?_⟩
    rw [← hc j v e]
    exact World.cell?_of_block (w := w) (hk b hb hno)
  | ref o off n sz c b base cap a hφ ha hn hcap hr =>
    intro φ' hφ' hs hk hO hsh
    obtain ⟨cs, T, fz, e, hle⟩ := hr
    obtain ⟨cs', fz', e', hs'⟩ := hsh b cs T fz e
    exact .ref o off n sz c b base cap a (hφ' _ _ hφ) ha hn hcap ⟨cs', T, fz', e', by omega⟩
  | ptr o off b base hφ =>
    intro φ' hφ' hs hk hO hsh
    exact .ptr o off b base (hφ' _ _ hφ)
  | fptr xs cs b o hlen hx ho hm ih =>
    intro φ' hφ hs hk hO hsh
    refine .fptr xs cs b o hlen (fun j x v e e' => ih j x v e e' (fun _ _ h => h) hs hk hO hsh) ho fun hne => ?_
    obtain ⟨hb, hno, hc⟩ := hm hne
    refine ⟨Nat.lt_of_lt_of_le hb hs, fun e => hno (hO b hb e), fun j v e => ?_⟩
    rw [← hc j v e]
    exact World.cell?_of_block (w := w) (hk b hb hno)
  | fn f xs cs hlen hx ih =>
    intro φ' hφ hs hk hO hsh
    exact .fn f xs cs hlen fun j x v e e' => ih j x v e e' hφ hs hk hO hsh
  | iface t x v hx ih =>
    intro φ' hφ hs hk hO hsh
    exact .iface t x v (ih hφ hs hk hO hsh)
  | agg xs cs hlen hx ho ih =>
    intro φ' hφ hs hk hO hsh
    exact .agg xs cs hlen (fun j x v e e' => ih j x v e e' hφ hs hk hO hsh) ho
  | tup xs cs hlen hx ih =>
    intro φ' hφ hs hk hO hsh
    exact .tup xs cs hlen fun j x v e e' => ih j x v e e' hφ hs hk hO hsh

/-- The blocks of live objects. -/
def Live (h : Heap) (φ : Phi) (b : Nat) : Prop := ∃ o cs base, look h o = some cs ∧ φ o = some (b, base)
/-- The blocks in which nothing is frozen: those of live objects, and 'B'. -/
def Own (B : Nat → Prop) (h : Heap) (φ : Phi) (b : Nat) : Prop := B b ∨ Live h φ b
theorem VR.stp {w w' : World} {B : Nat → Prop} {h h' : Heap} {φ φ' : Phi} {x : AV} {v : Value} (s : Stp φ (Live h φ) w φ' (Live h' φ') w') (hv : VR w (Own B h φ) φ x v) : VR w' (Own B h' φ') φ' x v :=
  hv.step s.phi s.size (fun b hb ho => s.keep b hb (fun e => ho (.inr e))) (fun b hb e => e.elim .inl fun e => .inr (s.own b hb e)) s.shape

structure HR (B : Nat → Prop) (h : Heap) (φ : Phi) (w : World) : Prop where
  bsz : ∀ b, B b → b < w.heap.size
  live : ∀ o cs, look h o = some cs → ∃ (b base : Nat) (c : Array Value) (T : TypeId) (fz : Nat × Nat), φ o = some (b, base) ∧ w.heap[b]? = some (Obj.cells c T fz) ∧ ¬ B b ∧ base + cs.length ≤ c.size ∧
    (∀ j, j < c.size → w.frozen? ⟨b, j, none⟩ = false) ∧ (∀ (j : Nat) (x : AV), cs[j]? = some x → ∃ v, c[base + j]? = some v ∧ v.oneCell' = true ∧ VR w (Own B h φ) φ x v)
  inj : ∀ o o' cs cs' b base base', look h o = some cs → look h o' = some cs' → φ o = some (b, base) → φ o' = some (b, base') → o = o'
  dom : ∀ o p, φ o = some p → o < h.length

/-- Of frames. -/
def FR (w : World) (Ow : Nat → Prop) (φ : Phi) (fr : List AV) (tmps : Array Value) : Prop :=
  tmps.size = fr.length ∧ ∀ (i : Nat) (x : AV) (v : Value), fr[i]? = some x → tmps[i]? = some v → VR w Ow φ x v
theorem FR.stp {w w' : World} {B : Nat → Prop} {h h' : Heap} {φ φ' : Phi} {fr : List AV} {t : Array Value} (s : Stp φ (Live h φ) w φ' (Live h' φ') w') (hf : FR w (Own B h φ) φ fr t) : FR w' (Own B h' φ') φ' fr t :=
  ⟨hf.1, fun i x v e e' => (hf.2 i x v e e').stp s⟩
theorem FR.put {w : World} {Ow : Nat → Prop} {φ : Phi} {fr : List AV} {a : Act} (h : FR w Ow φ fr a.tmps) (d : Option Nat) {x : AV} {v : Value} (hv : VR w Ow φ x v) :
    FR w Ow φ (putA fr d x) (a.put d v).tmps := by
  cases d with
  | none => exact h
  | some d =>
    refine ⟨by simp [putA, Act.put, h.1], fun i y u e e' => ?_⟩
    simp only [putA, Act.put, List.getElem?_set, Array.getElem?_setIfInBounds] at e e'
    rw [h.1] at e'
    by_cases hd : d = i
    · subst hd
      by_cases hl : d < fr.length
      · simp only [if_true, hl] at e e'
        cases e; cases e'; exact hv
      · simp [hl] at e
    · simp only [hd, if_false] at e e'
      exact h.2 i y u e e'
theorem FR.get {w : World} {Ow : Nat → Prop} {φ : Phi} {fr : List AV} {t : Array Value} (h : FR w Ow φ fr t) (i : Nat) : VR w Ow φ (fr.getD i (.lit undef)) (t.getD i undef) := by
  by_cases hi : i < fr.length
  · have h1 : fr[i]? = some fr[i] := List.getElem?_eq_getElem hi
    have hi' : i < t.size := by rw [h.1]; exact hi
    have h2 : t[i]? = some t[i] := Array.getElem?_eq_getElem hi'
    have := h.2 i _ _ h1 h2
    simpa [List.getD, h1, Array.getD, hi'] using this
  · have hi' : ¬ i < t.size := by rw [h.1]; exact hi
    simp [List.getD, List.getElem?_eq_none (Nat.le_of_not_lt hi), Array.getD, hi']
    exact .lit _

theorem ofLeaf_VR {w : World} {Ow : Nat → Prop} {φ : Phi} {v : Value} {x : AV} (h : ofLeaf v = some x) : VR w Ow φ x v ∧ v.oneCell' = true ∧ x.leaf = true := by
  unfold ofLeaf at h
  split at h
  · cases h
    exact ⟨.sl true 0 0 (some 0) [] none [] rfl (Nat.le_refl _) (by rintro k h; cases h; rfl) rfl (by simp) (by simp) (by simp), rfl, rfl⟩
  all_goals first
    | (cases h; done)
    | (cases h; refine ⟨.lit _, ?_⟩; cases v <;> simp_all [Value.oneCell', AV.leaf])
theorem mapM_some {α β : Type} {f : α → Option β} : ∀ {l : List α} {r : List β}, l.mapM f = some r → r.length = l.length ∧ ∀ (j : Nat) (x : α) (y : β), l[j]? = some x → r[j]? = some y → f x = some y
  | [], r, h => by simp at h; subst h; simp
  | a :: l, r, h => by
    simp only [List.mapM_cons, Option.bind_eq_bind, Option.bind_eq_some_iff, Option.pure_def, Option.some.injEq] at h
    obtain ⟨y, hy, ys, hys, rfl⟩ := h
    obtain ⟨h1, h2⟩ := mapM_some hys
    refine ⟨by simp [h1], fun j x z e e' => ?_⟩
    cases j with
    | zero => simp at e e'; subst e; subst e'; exact hy
    | succ j => simp at e e'; exact h2 j x z e e'
theorem ofVal_VR {w : World} {Ow : Nat → Prop} {φ : Phi} {v : Value} {x : AV} (h : ofVal v = some x) : VR w Ow φ x v := by
  unfold ofVal at h
  split at h
  · rename_i cs
    simp only [Option.map_eq_some_iff] at h
    obtain ⟨xs, hxs, rfl⟩ := h
    obtain ⟨h1, h2⟩ := mapM_some hxs
    refine .agg xs cs (by simpa using h1.symm) (fun j x v e e' => (ofLeaf_VR (h2 j v x (by simpa using e') e)).1) fun v hv => ?_
    obtain ⟨j, hj, rfl⟩ := Array.mem_iff_getElem.1 hv
    have hj' : j < xs.length := by rw [h1]; simpa using hj
    exact (ofLeaf_VR (w := w) (Ow := Ow) (φ := φ) (h2 j cs[j] xs[j] (by simp [hj]) (List.getElem?_eq_getElem hj'))).2.1
  · exact (ofLeaf_VR h).1
theorem opv_VR {w : World} {Ow : Nat → Prop} {φ : Phi} {fr : List AV} {a : Act} (h : FR w Ow φ fr a.tmps) (x : Operand) : VR w Ow φ (opv fr x) (a.eval x) := by
  cases x with
  | tmp t => exact h.get t
  | const v =>
    simp only [opv, Act.eval]
    cases hv : ofVal v with
    | none => exact .und _
    | some y => exact ofVal_VR hv
  | global g => exact .und _
  | func f => exact .fn f [] #[] rfl (by simp)

end Go.Ev
