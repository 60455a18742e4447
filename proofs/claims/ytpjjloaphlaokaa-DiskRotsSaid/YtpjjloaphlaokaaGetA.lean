/- What slices.Backward over a disk's queue yields. -/
import Derived.RangeFuncBox
import Derived.RangeFuncNested
import Derived.RangeFuncLeaves
import Derived.Shelf.Abstract
import Derived.WalkKit
import Derived.OwnWalkIn
import Derived.TacticsInMore
import Derived.LoopNIn
import Derived.LoopIn
import Derived.Outline
import Derived.IntWalk
import Derived.Test.YtpjjloaphlaokaaProg
import Derived.Test.YtpjjloaphlaokaaEwB
set_option linter.unusedVariables false
set_option linter.unusedSimpArgs false
namespace Go.Proofs.Dk
open Go Go.Proofs Go.RowKit Go.Shelf

attribute [local go_sem] Oper.semAt_some

/-- A write in a queue. -/
structure Wr where
  f : Bool
  n : Int
  a : Option Addr
  l : Nat
  c : Nat
instance : Inhabited Wr := ⟨⟨false, 0, none, 0, 0⟩⟩
def Wr.d (x : Wr) : Value := .slice x.a x.l x.c
def Wr.val (x : Wr) : Value := .agg #[.bool x.f, .int .i64 x.n, .slice x.a x.l x.c]
def upto {α : Type} (f : Nat → α) (k : Nat) : List α := (List.range k).map f
theorem upto_succ {α : Type} (f : Nat → α) (k : Nat) : upto f (k + 1) = upto f k ++ [f k] := by simp [upto, List.range_succ]
theorem upto_length {α : Type} (f : Nat → α) (k : Nat) : (upto f k).length = k := by simp [upto]
/-- What comes in round j: the last but j. -/
def bk (qs : List Wr) (j : Nat) : Nat × Wr := (qs.length - 1 - j, qs.getD (qs.length - 1 - j) default)

/-- What a round keeps: what lay below, and the iterator's own variable. -/
def Kp (n₀ Bs : Nat) (A B : World) : Prop := Below n₀ A B ∧ B.heap[Bs]? = A.heap[Bs]?
theorem Kp.refl (n₀ Bs : Nat) (A : World) : Kp n₀ Bs A A := ⟨Below.refl _ _, rfl⟩
theorem Kp.trans {n₀ Bs : Nat} {A B C : World} (h : Kp n₀ Bs A B) (k : Kp n₀ Bs B C) : Kp n₀ Bs A C := ⟨h.1.trans k.1, k.2.trans h.2⟩
theorem Kp.box {n₀ Bs : Nat} {A B : World} (h : Kp n₀ Bs A B) (o : Nat) : B.cell? ⟨Bs, o, none⟩ = A.cell? ⟨Bs, o, none⟩ := by
  unfold World.cell?
  rw [h.2]
set_option maxRecDepth 100000 in
set_option maxHeartbeats 2000000 in
theorem back1_in (F : Fence) (n : Nat) (h7 : F.fn 40) (hro : F.round = none) (hn : 1 ≤ n) (l Bs n₀ b off cap : Nat) (qs : List Wr) (hreach : qs.length * 40 ≤ 140737488351232) (hb : b < n₀) (J Jx : List (Nat × Wr) → World → Prop)
    (hY : ∀ pre x W, J pre W → pre.length < qs.length → YieldAt F (n - 1) Try.prog l #[.int .i64 (x.1 : Int), x.2.val] W fun e W' =>
      (e = .returned (.bool true) ∧ J (pre ++ [x]) W' ∧ Kp n₀ Bs W W') ∨ (e = .returned (.bool false) ∧ Jx (pre ++ [x]) W'))
    (W : World) (hBs : W.cell? ⟨Bs, 0, none⟩ = some (.slice (some ⟨b, off, none⟩) qs.length cap))
    (hc : ∀ j, j < qs.length → W.cell? ⟨b, off + j * 3, none⟩ = some (.bool (qs.getD j default).f) ∧ W.cell? ⟨b, off + j * 3 + 1, none⟩ = some (.int .i64 (qs.getD j default).n) ∧ W.cell? ⟨b, off + j * 3 + 2, none⟩ = some (.slice (qs.getD j default).a (qs.getD j default).l (qs.getD j default).c)) (h0 : J [] W) :
    CallsIn F n Try.prog 40 #[.func (.yield l) #[] #[], .pointer (some ⟨Bs, 0, none⟩)] W fun e W' => (∃ v, e = .returned v) ∧
      ((∃ ys, ys = upto (bk qs) qs.length ∧ J ys W') ∨ (∃ pre, (∃ k, k ≤ qs.length ∧ pre = upto (bk qs) k) ∧ Jx pre W')) := by
  refine callsIn_of_wp Try.func40 rfl h7 ?_ hro
  simp only [Try.ntmps40, List.size_toArray, List.length_cons, List.length_nil, Nat.reduceAdd, Nat.reduceSub, Array.replicate_succ, Array.replicate_zero, List.push_toArray, List.append_toArray, List.nil_append, List.cons_append]
  have hlw : IntKind.i64.wrap ((qs.length : Int) - 1) = (qs.length : Int) - 1 := IntWalk.i64_in _ (by omega)
  gi_wp2
  gi_loopw [3] (fun i wr => ∃ k : Nat, k ≤ qs.length ∧ i = .int .i64 ((qs.length : Int) - 1 - k) ∧ J (upto (bk qs) k) wr ∧ Kp n₀ Bs W wr)
    (fun i _ => (intOf i + 1).toNat)
  case atStart => exact ⟨0, Nat.zero_le _, by simp, h0, Kp.refl _ _ _⟩
  case round =>
    obtain ⟨k, hk, rfl, hJs, hnx⟩ := hrel
    by_cases hlt : k < qs.length
    · have hlt2 : qs.length - 1 - k < qs.length := by omega
      obtain ⟨c0, c1, c2⟩ := hc _ hlt2
      have d0 : wr.cell? ⟨b, off + (qs.length - 1 - k) * 3, none⟩ = some (.bool (qs.getD (qs.length - 1 - k) default).f) := (hnx.1.cell (p := ⟨b, _, none⟩) hb).trans c0
      have d1 : wr.cell? ⟨b, off + (qs.length - 1 - k) * 3 + 1, none⟩ = some (.int .i64 (qs.getD (qs.length - 1 - k) default).n) := (hnx.1.cell (p := ⟨b, _, none⟩) hb).trans c1
      have d2 : wr.cell? ⟨b, off + (qs.length - 1 - k) * 3 + 2, none⟩ = some (.slice (qs.getD (qs.length - 1 - k) default).a (qs.getD (qs.length - 1 - k) default).l (qs.getD (qs.length - 1 - k) default).c) := (hnx.1.cell (p := ⟨b, _, none⟩) hb).trans c2
      have dB := (hnx.box 0).trans hBs
      have ei : (qs.length : Int) - 1 - k = ((qs.length - 1 - k : Nat) : Int) := by omega
      obtain ⟨fn, tmps, assign, body, hy, hR⟩ := hY _ (bk qs k) wr hJs (by rw [upto_length]; exact hlt)
      simp only [bk, Wr.val] at hy
      clear c0 c1 c2 hc
      rw [ei]
      generalize hj : qs.length - 1 - k = j at *
      generalize qs.getD j default = x at *
      have hjw : IntKind.i64.wrap ((j : Int) - 1) = (j : Int) - 1 := IntWalk.i64_in _ (by omega)
      gi_wp2
      refine hR.mono ?_
      rintro e W3 (⟨rfl, hJ3, hk3⟩ | ⟨rfl, hJx3⟩)
      · gi_wp2
        go_roundw
        case rel => exact ⟨k + 1, by omega, by rw [show (j : Int) - 1 = (qs.length : Int) - 1 - ((k + 1 : Nat) : Int) by omega], by rw [upto_succ]; exact hJ3, hnx.trans hk3⟩
        case measure => simp [intOf]
      · gi_wp2
        refine bodyPost_ret (results_none rfl _ _ _) rfl ?_
        exact ⟨⟨_, rfl⟩, .inr ⟨_, ⟨k + 1, by omega, (upto_succ _ _).symm⟩, hJx3⟩⟩
    · obtain rfl : k = qs.length := by omega
      rw [show (qs.length : Int) - 1 - (qs.length : Int) = -1 by omega]
      gi_wp2
      go_end0
      exact ⟨⟨_, rfl⟩, .inl ⟨_, rfl, hJs⟩⟩

set_option maxRecDepth 100000 in
set_option maxHeartbeats 1000000 in
/-- .. at a queue of no writes: no round. -/
theorem back1_nil_in (F : Fence) (n : Nat) (h7 : F.fn 40) (hro : F.round = none) (l Bs : Nat) (a : Option Addr) (cap : Nat) (J : List (Nat × Wr) → World → Prop) (W : World) (hBs : W.cell? ⟨Bs, 0, none⟩ = some (.slice a 0 cap)) (h0 : J [] W) :
    CallsIn F n Try.prog 40 #[.func (.yield l) #[] #[], .pointer (some ⟨Bs, 0, none⟩)] W fun e W' => (∃ v, e = .returned v) ∧ J [] W' := by
  refine callsIn_of_wp Try.func40 rfl h7 ?_ hro
  simp only [Try.ntmps40, List.size_toArray, List.length_cons, List.length_nil, Nat.reduceAdd, Nat.reduceSub, Array.replicate_succ, Array.replicate_zero, List.push_toArray, List.append_toArray, List.nil_append, List.cons_append]
  gi_wp2
  gi_loopw [3] (fun i wr => i = .int .i64 (-1) ∧ J [] wr) (fun _ _ => 0)
  case atStart => exact ⟨rfl, h0⟩
  case round =>
    obtain ⟨rfl, hJs⟩ := hrel
    gi_wp2
    go_end0
    exact ⟨⟨_, rfl⟩, hJs⟩

set_option maxHeartbeats 1000000 in
/-- slices.Backward(q): the slice value is boxed; the function value captures the box. -/
theorem backward_in (F : Fence) (n : Nat) (h5 : F.fn 31) (hro : F.round = none) (a : Option Addr) (len cap : Nat) (w : World) :
    CallsIn F n Try.prog 31 #[.slice a len cap] w fun e w' => e = .returned (.func (.func 40) #[] #[.pointer (some ⟨w.heap.size, 0, none⟩)]) ∧ w' = w.alloc (.cells #[.slice a len cap] 29) := by
  refine callsIn_of_wp Try.func31 rfl h5 ?_ hro
  simp only [Try.ntmps31, List.size_toArray, List.length_cons, List.length_nil, Nat.reduceAdd, Nat.reduceSub, Array.replicate_succ, Array.replicate_zero, List.push_toArray, List.append_toArray, List.nil_append, List.cons_append]
  gi_wp2
  go_ret
  exact ⟨rfl, rfl⟩

/-- The slice value holds the writes, in a block below n₀; or there are none. -/
def Writes (n₀ : Nat) (W : World) (sv : Value) (qs : List Wr) : Prop :=
  (qs = [] ∧ ∃ a cap, sv = .slice a 0 cap) ∨ ∃ b off cap, sv = .slice (some ⟨b, off, none⟩) qs.length cap ∧ b < n₀ ∧
    ∀ j, j < qs.length → W.cell? ⟨b, off + j * 3, none⟩ = some (.bool (qs.getD j default).f) ∧ W.cell? ⟨b, off + j * 3 + 1, none⟩ = some (.int .i64 (qs.getD j default).n) ∧ W.cell? ⟨b, off + j * 3 + 2, none⟩ = some (.slice (qs.getD j default).a (qs.getD j default).l (qs.getD j default).c)
theorem Writes.below {n₀ : Nat} {A B : World} (h : Below n₀ A B) {sv : Value} {qs : List Wr} : Writes n₀ A sv qs → Writes n₀ B sv qs
  | .inl e => .inl e
  | .inr ⟨b, off, cap, e, hb, hc⟩ => .inr ⟨b, off, cap, e, hb, fun j hj => ⟨(h.cell (p := ⟨b, _, none⟩) hb).trans (hc j hj).1, (h.cell (p := ⟨b, _, none⟩) hb).trans (hc j hj).2.1, (h.cell (p := ⟨b, _, none⟩) hb).trans (hc j hj).2.2⟩⟩

/-- The value that slices.Backward hands back: all writes, the last one first; or the first k of them. -/
theorem back_stops (F : Fence) (n : Nat) (h7 : F.fn 40) (hro : F.round = none) (hn : 1 ≤ n) (Bs n₀ : Nat) (sv : Value) (qs : List Wr) (hreach : qs.length * 40 ≤ 140737488351232) (w : World) (hBs : Bs < w.heap.size) (hn₀ : n₀ ≤ w.heap.size)
    (hc : w.cell? ⟨Bs, 0, none⟩ = some sv) (hI : Writes n₀ w sv qs) :
    SeqStopsK F n Try.prog 40 #[.pointer (some ⟨Bs, 0, none⟩)] (fun x : Nat × Wr => #[Value.int .i64 (x.1 : Int), x.2.val]) (Kp n₀ Bs) (fun ys => ys = upto (bk qs) qs.length)
      (fun pre => ∃ k, k ≤ qs.length ∧ pre = upto (bk qs) k) qs.length w := fun l J Jx W hW _ _ hY h0 => by
  have hc' := (hW.cell (p := ⟨Bs, 0, none⟩) hBs).trans hc
  rcases hI.below (hW.mono hn₀) with ⟨rfl, a, cap, rfl⟩ | ⟨b, off, cap, rfl, hb, hcs⟩
  · exact (back1_nil_in F n h7 hro l Bs a cap J W hc' h0).mono fun e W' ⟨he, hj⟩ => ⟨he, .inl ⟨_, rfl, hj⟩⟩
  · exact back1_in F n h7 hro hn l Bs n₀ b off cap qs hreach hb J Jx hY W hc' hcs h0
end Go.Proofs.Dk
/- What disk.Get answers. -/
namespace Go.Proofs.Dk
open Go Go.Proofs Go.RowKit Go.Shelf

attribute [local go_sem] Oper.semAt_some

set_option maxHeartbeats 1000000 in
theorem has_yes (F : Fence) (n : Nat) (h : F.fn 26) (hro : F.round = none) (sz : Int) (ac : Option Addr) (nc cc : Nat) (aq : Option Addr) (m c : Nat) (at_ : Int) (w : World) (h0 : 0 ≤ at_) (h1 : at_ < nc) :
    CallsIn F n Try.prog 26 #[.agg #[.int .i64 sz, .slice ac nc cc, .slice aq m c], .int .i64 at_] w fun e w' => e = .returned (.bool true) ∧ w' = w.alloc (.cells #[.int .i64 sz, .slice ac nc cc, .slice aq m c] 31) := by
  refine callsIn_of_wp Try.func26 rfl h ?_ hro
  simp only [Try.ntmps26, List.size_toArray, List.length_cons, List.length_nil, Nat.reduceAdd, Nat.reduceSub, Array.replicate_succ, Array.replicate_zero, List.push_toArray, List.append_toArray, List.nil_append, List.cons_append]
  gi_wp2
  go_ret
  exact ⟨rfl, rfl⟩
set_option maxHeartbeats 1000000 in
theorem has_no (F : Fence) (n : Nat) (h : F.fn 26) (hro : F.round = none) (sz : Int) (ac : Option Addr) (nc cc : Nat) (aq : Option Addr) (m c : Nat) (at_ : Int) (w : World) (h0 : at_ < 0 ∨ nc ≤ at_) :
    CallsIn F n Try.prog 26 #[.agg #[.int .i64 sz, .slice ac nc cc, .slice aq m c], .int .i64 at_] w fun e w' => e = .returned (.bool false) ∧ w' = w.alloc (.cells #[.int .i64 sz, .slice ac nc cc, .slice aq m c] 31) := by
  refine callsIn_of_wp Try.func26 rfl h ?_ hro
  simp only [Try.ntmps26, List.size_toArray, List.length_cons, List.length_nil, Nat.reduceAdd, Nat.reduceSub, Array.replicate_succ, Array.replicate_zero, List.push_toArray, List.append_toArray, List.nil_append, List.cons_append]
  by_cases hn : at_ < 0
  · have hn' : ¬ 0 ≤ at_ := by omega
    clear h0 hn
    gi_wp2
    go_ret
    exact ⟨rfl, rfl⟩
  · have h1 : 0 ≤ at_ := by omega
    have h2 : (nc : Int) ≤ at_ := by omega
    have h2' : ¬ at_ < nc := by omega
    clear h0 hn
    gi_wp2
    go_ret
    exact ⟨rfl, rfl⟩

/-- A write that a cell's contents come from. -/
def hit (at_ : Int) (x : Wr) : Bool := !x.f && decide (x.n = at_)
theorem Writes.mono {n₀ n₁ : Nat} {W : World} {sv : Value} {qs : List Wr} (h : n₀ ≤ n₁) : Writes n₀ W sv qs → Writes n₁ W sv qs
  | .inl e => .inl e
  | .inr ⟨b, off, cap, e, hb, hc⟩ => .inr ⟨b, off, cap, e, by omega, hc⟩
/-- What Get finds: the last write to the cell, or what the cell holds. -/
def Found (qs : List Wr) (at_ : Int) (cell res : Value) : Prop :=
  (∃ k x, k < qs.length ∧ bk qs k = x ∧ (∀ j, j < k → hit at_ (bk qs j).2 = false) ∧ hit at_ x.2 = true ∧ res = x.2.d) ∨ ((∀ j, j < qs.length → hit at_ (bk qs j).2 = false) ∧ res = cell)
def fr14 (sz : Int) (ac : Option Addr) (nc cc : Nat) (aq : Option Addr) (m c : Nat) (t : Nat) (H : Nat) (s7 s15 s16 : Value) : Array Value :=
  #[.agg #[.int .i64 sz, .slice ac nc cc, .slice aq m c], .int .i64 t, .pointer (some ⟨H, 0, none⟩), .pointer (some ⟨H + 1, 0, none⟩), .pointer (some ⟨H + 1 + 1, 0, none⟩), .pointer (some ⟨H + 1 + 1 + 1, 0, none⟩), undef, s7,
    .agg #[.int .i64 sz, .slice ac nc cc, .slice aq m c], .int .i64 t, .bool true, .bool false, .pointer (some ⟨H, 2, none⟩), .slice aq m c, .func (.func 40) #[] #[.pointer (some ⟨H + 1 + 1 + 1 + 1 + 1, 0, none⟩)],
    s15, s16, undef, undef, undef, undef, undef, undef, undef, undef, undef, undef, undef, undef, undef, undef, undef, undef]
theorem cellH {W : World} {b : Nat} {cs : Array Value} {T : TypeId} {fz : Nat × Nat} (h : W.heap[b]? = some (.cells cs T fz)) (o : Nat) : W.cell? ⟨b, o, none⟩ = cs[o]? := by
  simp [World.cell?, h]
theorem frzH {W : World} {b : Nat} {cs : Array Value} {T : TypeId} (h : W.heap[b]? = some (.cells cs T (0, 0))) (o : Nat) : W.frozen? ⟨b, o, none⟩ = false := by
  simp [World.frozen?, h]
theorem oldH {W : World} (o : Obj) {b : Nat} {x : Obj} (h : W.heap[b]? = some x) : (W.alloc o).heap[b]? = some x := by
  have hb := (Array.getElem?_eq_some_iff.1 h).1
  show (W.heap.push o)[b]? = some x
  rw [Array.getElem?_push, if_neg (by omega)]
  exact h
theorem newH (W : World) (o : Obj) {b : Nat} (hb : b = W.heap.size) : (W.alloc o).heap[b]? = some o := by
  subst hb
  show (W.heap.push o)[W.heap.size]? = some o
  simp
theorem cell_set_ne {W : World} {a b : Addr} (v : Value) (h : a.block ≠ b.block) : (W.setCell b v).cell? a = W.cell? a := by
  unfold World.cell?
  rw [Below.heap_setCell _ _ _ _ h]
set_option maxRecDepth 100000 in
set_option maxHeartbeats 8000000 in
theorem get_in (F : Fence) (n : Nat) (h14 : F.fn 14) (h26 : F.fn 26) (h31 : F.fn 31) (h40 : F.fn 40) (hro : F.round = none) (hn : 3 ≤ n) (sz : Int) (bc oc nc cc : Nat) (aq : Option Addr) (m c : Nat) (t : Nat) (w : World) (h1 : t < nc)
    (qs : List Wr) (hreach : qs.length * 40 ≤ 140737488351232) (hI : Writes w.heap.size w (.slice aq m c) qs) (hbc : bc < w.heap.size) (ra : Option Addr) (rl rc : Nat) (hcell : w.cell? ⟨bc, oc + t, none⟩ = some (.slice ra rl rc)) :
    CallsIn F n Try.prog 14 #[.agg #[.int .i64 sz, .slice (some ⟨bc, oc, none⟩) nc cc, .slice aq m c], .int .i64 (t : Int)] w fun e W' => ∃ res, e = .returned (.tuple #[res, .int .i64 0]) ∧ Below w.heap.size w W' ∧ Found qs t (.slice ra rl rc) res := by
  have hn1 : 1 ≤ n := by omega
  refine callsIn_of_wp_marks Try.func14 rfl h14 ?_ hro
  simp only [Try.ntmps14, List.size_toArray, List.length_cons, List.length_nil, Nat.reduceAdd, Nat.reduceSub, Array.replicate_succ, Array.replicate_zero, List.push_toArray, List.append_toArray, List.nil_append, List.cons_append]
  gi_wp2_with (first | (gi_at_call 26; refine (has_yes F (n - 1) h26 hro _ _ _ _ _ _ _ _ _ (by omega) (by omega)).mono ?_; rintro e w' ⟨rfl, rfl⟩) | (gi_at_call 31; refine (backward_in F (n - 1) h31 hro _ _ _ _).mono ?_; rintro e w' ⟨rfl, rfl⟩))
  obtain ⟨wS, hwS⟩ : ∃ wS, wS = ((((((w.alloc (Obj.cells #[Value.int IntKind.i64 sz, Value.slice (some ⟨bc, oc, none⟩) nc cc, Value.slice aq m c] 31)).alloc (Obj.cells #[Value.int IntKind.i64 t] 3)).alloc (Obj.cells #[Value.slice none 0 0] 24)).alloc (Obj.cells #[Value.int IntKind.i64 0] 33)).alloc (Obj.cells #[Value.int IntKind.i64 sz, Value.slice (some ⟨bc, oc, none⟩) nc cc, Value.slice aq m c] 31)).alloc (Obj.cells #[Value.slice aq m c] 29)) := ⟨_, rfl⟩
  have hsz : wS.heap.size = w.heap.size + 1 + 1 + 1 + 1 + 1 + 1 := by rw [hwS]; simp
  have b0 : wS.heap[w.heap.size]? = some (.cells #[Value.int IntKind.i64 sz, Value.slice (some ⟨bc, oc, none⟩) nc cc, Value.slice aq m c] 31 (0, 0)) := by rw [hwS]; exact oldH _ (oldH _ (oldH _ (oldH _ (oldH _ (newH w _ rfl)))))
  have b1 : wS.heap[w.heap.size + 1]? = some (.cells #[Value.int IntKind.i64 t] 3 (0, 0)) := by rw [hwS]; exact oldH _ (oldH _ (oldH _ (oldH _ (newH _ _ (by simp)))))
  have b2 : wS.heap[w.heap.size + 1 + 1]? = some (.cells #[Value.slice none 0 0] 24 (0, 0)) := by rw [hwS]; exact oldH _ (oldH _ (oldH _ (newH _ _ (by simp))))
  have b3 : wS.heap[w.heap.size + 1 + 1 + 1]? = some (.cells #[Value.int IntKind.i64 0] 33 (0, 0)) := by rw [hwS]; exact oldH _ (oldH _ (newH _ _ (by simp)))
  have b5 : wS.heap[w.heap.size + 1 + 1 + 1 + 1 + 1]? = some (.cells #[Value.slice aq m c] 29 (0, 0)) := by rw [hwS]; exact newH _ _ (by simp)
  have cd1 : wS.cell? ⟨w.heap.size, 1, none⟩ = some (.slice (some ⟨bc, oc, none⟩) nc cc) := cellH b0 1
  have ca : wS.cell? ⟨w.heap.size + 1, 0, none⟩ = some (.int .i64 t) := cellH b1 0
  have c2 : wS.cell? ⟨w.heap.size + 1 + 1, 0, none⟩ = some (.slice none 0 0) := cellH b2 0
  have f2 : wS.frozen? ⟨w.heap.size + 1 + 1, 0, none⟩ = false := frzH b2 0
  have c3 : wS.cell? ⟨w.heap.size + 1 + 1 + 1, 0, none⟩ = some (.int .i64 0) := cellH b3 0
  have f3 : wS.frozen? ⟨w.heap.size + 1 + 1 + 1, 0, none⟩ = false := frzH b3 0
  have cq : wS.cell? ⟨w.heap.size + 1 + 1 + 1 + 1 + 1, 0, none⟩ = some (.slice aq m c) := cellH b5 0
  have hB0 : Below w.heap.size w wS := by
    rw [hwS]
    exact ((((((Below.refl _ w).alloc (Nat.le_refl _) _).alloc (by simp) _).alloc (by simp; omega) _).alloc (by simp; omega) _).alloc (by simp; omega) _).alloc (by simp; omega) _
  rw [← hwS]
  clear hwS
  refine wpIn_rangeFunc_ownH hro hn1 (gf := 40) (lb := #[.pointer (some ⟨w.heap.size + 1 + 1 + 1 + 1 + 1, 0, none⟩)]) rfl h40 (enters_of Try.func40 (by kernel_rfl) rfl)
    (back_stops F (n - 1) h40 hro (by omega) (w.heap.size + 1 + 1 + 1 + 1 + 1) (w.heap.size + 1 + 1) _ qs hreach wS (by omega) (by omega) cq ((hI.below hB0).mono (by omega)))
    (fun h k => h.trans k) (fun W l o o' hl h hc hk => ⟨belowK_b (w := wS) (by omega) W l o o' hl h hc hk, World.putObj_heap_other (by omega)⟩) (Below.refl _ _) (fun _ => rfl)
    (fun pre W => ((∀ p ∈ pre, hit t p.2 = false) ∧ W.cell? ⟨w.heap.size + 1 + 1, 0, none⟩ = some (.slice none 0 0) ∧ W.frozen? ⟨w.heap.size + 1 + 1, 0, none⟩ = false ∧ W.cell? ⟨w.heap.size + 1 + 1 + 1, 0, none⟩ = some (.int .i64 0) ∧ W.frozen? ⟨w.heap.size + 1 + 1 + 1, 0, none⟩ = false) ∧ Below (w.heap.size + 1 + 1) wS W)
    (fun cd pre W => (cd = .ret ∧ ∃ ini last, pre = ini ++ [last] ∧ (∀ p ∈ ini, hit t p.2 = false) ∧ hit t last.2 = true ∧ W.cell? ⟨w.heap.size + 1 + 1, 0, none⟩ = some (.slice last.2.a last.2.l last.2.c) ∧ W.cell? ⟨w.heap.size + 1 + 1 + 1, 0, none⟩ = some (.int .i64 0)) ∧ Below (w.heap.size + 1 + 1) wS W)
    (OwnFrom.and (Own.from (fun s A B row hs hg hr => ⟨hs.1, cell_kept hs.2.1 hg hr, (frozen_kept hs.2.1 hg hr).trans hs.2.2.1, cell_kept hs.2.2.2.1 hg hr, (frozen_kept hs.2.2.2.1 hg hr).trans hs.2.2.2.2⟩) _) (ownFrom_below (by omega) (by omega)))
    (fun cd => OwnFrom.and (Own.from (fun s A B row hs hg hr => by obtain ⟨hc, ini, last, e1, e2, e3, e4, e5⟩ := hs; exact ⟨hc, ini, last, e1, e2, e3, cell_kept e4 hg hr, cell_kept e5 hg hr⟩) _) (ownFrom_below (by omega) (by omega)))
    ⟨⟨by simp, c2, f2, c3, f3⟩, Below.refl _ _⟩
    (fun x a' W => ∃ B, wS.heap.size ≤ B ∧ a' = { tmps := fr14 sz (some ⟨bc, oc, none⟩) nc cc aq m c t w.heap.size (.pointer (some ⟨B, 0, none⟩)) (.int .i64 (x.1 : Int)) x.2.val, defers := [] } ∧ W.cell? ⟨B, 0, none⟩ = some (.bool x.2.f) ∧ W.cell? ⟨B, 1, none⟩ = some (.int .i64 x.2.n) ∧ W.cell? ⟨B, 2, none⟩ = some (.slice x.2.a x.2.l x.2.c))
    (fun x a' => Own.from (fun s A B row hs hg hr => by obtain ⟨b, e0, e1, e2, e3, e4⟩ := hs; exact ⟨b, e0, e1, cell_kept e2 hg hr, cell_kept e3 hg hr, cell_kept e4 hg hr⟩) _) ?assign ?body ?done ?stop
  case assign =>
    intro l pre x W K hi hK
    obtain ⟨hi1, hB⟩ := hi
    simp only [Wr.val]
    gi_wp2
    have hs : wS.heap.size ≤ W.heap.size := hB.size
    have g := fun o : Obj => World.grownBy_alloc W o none
    exact hK _ _ ((KeepsOthers.alloc W _).from _) ⟨(Below.refl _ W).alloc (by omega) _, Below.heap_alloc _ _ _ (by omega)⟩
      ⟨⟨hi1.1, cell_kept hi1.2.1 (g _) (fun r e => by cases e), (frozen_kept hi1.2.1 (g _) (fun r e => by cases e)).trans hi1.2.2.1, cell_kept hi1.2.2.2.1 (g _) (fun r e => by cases e), (frozen_kept hi1.2.2.2.1 (g _) (fun r e => by cases e)).trans hi1.2.2.2.2⟩, hB.alloc (by omega) _⟩
      ⟨W.heap.size, hs, rfl, cellH (newH W _ rfl) 0, cellH (newH W _ rfl) 1, cellH (newH W _ rfl) 2⟩
  case body =>
    rintro l pre x a' W _ _ ⟨⟨hp, i2, j2, i3, j3⟩, hB⟩ ⟨B, hBs, rfl, e0, e1, e2⟩ _
    have ca' : W.cell? ⟨w.heap.size + 1, 0, none⟩ = some (.int .i64 t) := (hB.cell (p := ⟨w.heap.size + 1, 0, none⟩) (by show w.heap.size + 1 < _; omega)).trans ca
    simp only [fr14]
    gi_wp2
    · have hf : x.2.f = true := by assumption
      exact ⟨KeepsFrom.refl _ _, Kp.refl _ _ _, ⟨fun p hp' => (List.mem_append.1 hp').elim (hp p) (fun e => by simp at e; subst e; simp [hit, hf]), i2, j2, i3, j3⟩, hB⟩
    · have hf : ¬ x.2.f = true := by assumption
      have hx : (x.2.n == (t : Int)) = true := by assumption
      have hx' : x.2.n = t := by simpa using hx
      exact ⟨((KeepsOthers.setCell _ _ _).trans (KeepsOthers.setCell _ _ _)).from _, ⟨rfl, pre, x, rfl, hp, by simp [hit, hf, hx'], (cell_set_ne _ (by show w.heap.size + 1 + 1 ≠ w.heap.size + 1 + 1 + 1; omega)).trans (World.cell?_setCell_same' _ _ _ (by rw [i2]; rfl)),
        World.cell?_setCell_same' _ _ _ (by rw [cell_set_ne _ (by show w.heap.size + 1 + 1 + 1 ≠ w.heap.size + 1 + 1; omega), i3]; rfl)⟩, (hB.setCell (p := ⟨w.heap.size + 1 + 1, 0, none⟩) (Nat.le_refl _) _).setCell (p := ⟨w.heap.size + 1 + 1 + 1, 0, none⟩) (by show w.heap.size + 1 + 1 ≤ w.heap.size + 1 + 1 + 1; omega) _⟩
    · have hx : (x.2.n == (t : Int)) = false := by assumption
      have hx' : ¬ x.2.n = t := by simpa using hx
      exact ⟨KeepsFrom.refl _ _, Kp.refl _ _ _, ⟨fun p hp' => (List.mem_append.1 hp').elim (hp p) (fun e => by simp at e; subst e; simp [hit, hx']), i2, j2, i3, j3⟩, hB⟩
  case done =>
    rintro D ys W hD rfl ⟨⟨hp, i2, j2, i3, j3⟩, hB⟩ hK
    have cd' : W.cell? ⟨w.heap.size, 1, none⟩ = some (.slice (some ⟨bc, oc, none⟩) nc cc) := (hB.cell (p := ⟨w.heap.size, 1, none⟩) (by show w.heap.size < _; omega)).trans cd1
    have ca' : W.cell? ⟨w.heap.size + 1, 0, none⟩ = some (.int .i64 t) := (hB.cell (p := ⟨w.heap.size + 1, 0, none⟩) (by show w.heap.size + 1 < _; omega)).trans ca
    have hBw : Below w.heap.size w W := hB0.trans (hB.mono (by omega))
    have hcell' : W.cell? ⟨bc, oc + t, none⟩ = some (.slice ra rl rc) := (hBw.cell (p := ⟨bc, oc + t, none⟩) hbc).trans hcell
    gi_wp2
    have hK' : ((W.setCell ⟨w.heap.size + 1 + 1, 0, none⟩ (.slice ra rl rc)).setCell ⟨w.heap.size + 1 + 1 + 1, 0, none⟩ (.int .i64 0)).heap[D]? = some (.deferred (some [])) := ((KeepsOthers.setCell W _ _).trans (KeepsOthers.setCell _ _ _)).same D _ hK rfl
    have hq2 : ((W.setCell ⟨w.heap.size + 1 + 1, 0, none⟩ (.slice ra rl rc)).setCell ⟨w.heap.size + 1 + 1 + 1, 0, none⟩ (.int .i64 0)).cell? ⟨w.heap.size + 1 + 1, 0, none⟩ = some (.slice ra rl rc) :=
      (cell_set_ne _ (by show w.heap.size + 1 + 1 ≠ w.heap.size + 1 + 1 + 1; omega)).trans (World.cell?_setCell_same' _ _ _ (by rw [i2]; rfl))
    have hq3 : ((W.setCell ⟨w.heap.size + 1 + 1, 0, none⟩ (.slice ra rl rc)).setCell ⟨w.heap.size + 1 + 1 + 1, 0, none⟩ (.int .i64 0)).cell? ⟨w.heap.size + 1 + 1 + 1, 0, none⟩ = some (.int .i64 0) :=
      World.cell?_setCell_same' _ _ _ (by rw [cell_set_ne _ (by show w.heap.size + 1 + 1 + 1 ≠ w.heap.size + 1 + 1; omega), i3]; rfl)
    have hB2 : Below w.heap.size w ((W.setCell ⟨w.heap.size + 1 + 1, 0, none⟩ (.slice ra rl rc)).setCell ⟨w.heap.size + 1 + 1 + 1, 0, none⟩ (.int .i64 0)) :=
      (hBw.setCell (p := ⟨w.heap.size + 1 + 1, 0, none⟩) (by show w.heap.size ≤ w.heap.size + 1 + 1; omega) _).setCell (p := ⟨w.heap.size + 1 + 1 + 1, 0, none⟩) (by show w.heap.size ≤ w.heap.size + 1 + 1 + 1; omega) _
    refine ⟨by simp, .inl ⟨_, _, rfl, run_takeDeferred hK', ?_⟩⟩
    have c4 := cell_kept hq2 (grownBy_putObj' _ D (.deferred none)) (fun r e => by cases e; exact ⟨_, hK', rfl⟩)
    have c5 := cell_kept hq3 (grownBy_putObj' _ D (.deferred none)) (fun r e => by cases e; exact ⟨_, hK', rfl⟩)
    refine ⟨.tuple #[.slice ra rl rc, .int .i64 0], ?_, _, rfl, hB2.trans (belowK_b (w := w) (Nat.le_refl _) _ D _ _ (by omega) hK' rfl rfl), .inr ⟨fun j hj => hp (bk qs j) (by simp only [upto, List.mem_map, List.mem_range]; exact ⟨j, hj, rfl⟩), rfl⟩⟩
    simp [results, Try.f14, go_sem, c4, c5]
  case stop =>
    rintro D cd pre W hD ⟨k, hk, rfl⟩ ⟨⟨rfl, ini, last, e1, e2, e3, hcr, hci⟩, hB⟩ hK
    have hBw : Below w.heap.size w W := hB0.trans (hB.mono (by omega))
    gi_wp2
    refine ⟨by simp, .inl ⟨_, _, rfl, run_takeDeferred hK, ?_⟩⟩
    have c4 := cell_kept hcr (grownBy_putObj' _ D (.deferred none)) (fun r e => by cases e; exact ⟨_, hK, rfl⟩)
    have c5 := cell_kept hci (grownBy_putObj' _ D (.deferred none)) (fun r e => by cases e; exact ⟨_, hK, rfl⟩)
    obtain ⟨k', rfl⟩ : ∃ k', k = k' + 1 := by
      cases k with
      | zero => simp [upto] at e1
      | succ k' => exact ⟨k', rfl⟩
    rw [upto_succ] at e1
    obtain ⟨rfl, e5⟩ := List.append_inj' e1 rfl
    obtain rfl : bk qs k' = last := by simpa using e5
    refine ⟨.tuple #[.slice (bk qs k').2.a (bk qs k').2.l (bk qs k').2.c, .int .i64 0], ?_, _, rfl, hBw.trans (belowK_b (w := w) (Nat.le_refl _) _ D _ _ (by omega) hK rfl rfl), .inl ⟨k', bk qs k', by omega, rfl, fun j hj => e2 (bk qs j) (by simp only [upto, List.mem_map, List.mem_range]; exact ⟨j, hj, rfl⟩), e3, rfl⟩⟩
    simp [results, Try.f14, go_sem, c4, c5]
end Go.Proofs.Dk
/- disk.Get: all inputs. -/
namespace Go.Proofs.Dk
open Go Go.Proofs Go.RowKit Go.Shelf

attribute [local go_sem] Oper.semAt_some

set_option maxRecDepth 100000 in
set_option maxHeartbeats 4000000 in
theorem get_no_in (F : Fence) (n : Nat) (h14 : F.fn 14) (h26 : F.fn 26) (hro : F.round = none) (hn : 3 ≤ n) (sz : Int) (ac : Option Addr) (nc cc : Nat) (aq : Option Addr) (m c : Nat) (at_ : Int) (w : World) (h0 : at_ < 0 ∨ nc ≤ at_) :
    CallsIn F n Try.prog 14 #[.agg #[.int .i64 sz, .slice ac nc cc, .slice aq m c], .int .i64 at_] w fun e W' => e = .returned (.tuple #[.slice none 0 0, .int .i64 230]) ∧ Below w.heap.size w W' := by
  have hn1 : 1 ≤ n := by omega
  refine callsIn_of_wp Try.func14 rfl h14 ?_ hro
  simp only [Try.ntmps14, List.size_toArray, List.length_cons, List.length_nil, Nat.reduceAdd, Nat.reduceSub, Array.replicate_succ, Array.replicate_zero, List.push_toArray, List.append_toArray, List.nil_append, List.cons_append]
  gi_wp2_with (gi_at_call 26; refine (has_no F (n - 1) h26 hro _ _ _ _ _ _ _ _ _ h0).mono ?_; rintro e w' ⟨rfl, rfl⟩)
  have hB0 : Below w.heap.size w ((w.alloc (Obj.cells #[Value.int IntKind.i64 sz, Value.slice ac nc cc, Value.slice aq m c] 31))) := (Below.refl _ w).alloc (Nat.le_refl _) _
  refine bodyPost_ret (v := .tuple #[.slice none 0 0, .int .i64 230]) ?_ rfl ⟨rfl, ?_⟩
  · simp [results, Try.f14, go_sem]
  · exact ((((hB0.alloc (by simp) _).alloc (by simp; omega) _).alloc (by simp; omega) _).alloc (by simp; omega) _)
end Go.Proofs.Dk
/- disk.Get as a rule. -/
namespace Go.Ev
open Go Go.Proofs Go.Proofs.Dk Go.RowKit

abbrev T3 := Bool × Int × AV
def trip : List AV → Option (List T3)
  | [] => some []
  | .lit (.bool f) :: .lit (.int .i64 n) :: .sl i k c x :: r => (trip r).map ((f, n, AV.sl i k c x) :: ·)
  | _ => none
def lastHit (t : Int) : List T3 → Option AV
  | [] => none
  | x :: r => match lastHit t r with
    | some d => some d
    | none => if !x.1 && decide (x.2.1 = t) then some x.2.2 else none
def isSl : AV → Bool
  | .sl _ _ _ _ => true
  | _ => false
def getR (t : Int) (cells : List AV) (ts : List T3) : AV := match lastHit t ts with
  | some d => d
  | none => cells.getD t.toNat .und
def getF : List AV → Option AV
  | [.agg [.lit (.int .i64 _), .sl _ n _ cells, .sl _ m _ queue], .lit (.int .i64 t)] =>
    match trip queue with
    | some ts => if n = cells.length ∧ ts.length = m ∧ m * 40 ≤ 140737488351232 then
        if 0 ≤ t ∧ t < n then
          if isSl (cells.getD t.toNat .und) then some (.tup [getR t cells ts, .lit (.int .i64 0)]) else none
        else some (.tup [.sl true 0 (some 0) [], .lit (.int .i64 230)])
      else none
    | none => none
  | _ => none

def dT : T3 := (false, 0, .und)
def hitT (t : Int) (x : T3) : Bool := !x.1 && decide (x.2.1 = t)
theorem trip_spec : ∀ (xs : List AV) (ts : List T3), trip xs = some ts → xs.length = ts.length * 3 ∧ ∀ j, j < ts.length →
    xs[j * 3]? = some (.lit (.bool (ts.getD j dT).1)) ∧ xs[j * 3 + 1]? = some (.lit (.int .i64 (ts.getD j dT).2.1)) ∧ xs[j * 3 + 2]? = some (ts.getD j dT).2.2 ∧ isSl (ts.getD j dT).2.2 = true := by
  intro xs
  fun_induction trip xs with
  | case1 => intro ts e; cases e; exact ⟨rfl, fun j h => absurd h (by simp)⟩
  | case2 f n i k c x r ih =>
    intro ts e
    obtain ⟨ts', e1, rfl⟩ := Option.map_eq_some_iff.1 e
    obtain ⟨h1, h2⟩ := ih ts' e1
    refine ⟨by simp [h1]; omega, fun j hj => ?_⟩
    cases j with
    | zero => simp [isSl]
    | succ j =>
      have := h2 j (by simpa using hj)
      have e3 : (j + 1) * 3 = j * 3 + 1 + 1 + 1 := by omega
      simp only [e3, List.getElem?_cons_succ, List.getD_cons_succ]
      exact this
  | case3 => intro ts e; cases e
theorem last_some {t : Int} : ∀ {ts : List T3} {d : AV}, lastHit t ts = some d → ∃ i, i < ts.length ∧ hitT t (ts.getD i dT) = true ∧ d = (ts.getD i dT).2.2 ∧ ∀ j, i < j → j < ts.length → hitT t (ts.getD j dT) = false
  | [], d, e => by cases e
  | x :: r, d, e => by
    simp only [lastHit] at e
    cases h : lastHit t r with
    | some d' =>
      rw [h] at e
      cases e
      obtain ⟨i, h1, h2, h3, h4⟩ := last_some h
      refine ⟨i + 1, by simpa using h1, by simpa using h2, by simpa using h3, fun j hj hl => ?_⟩
      cases j with
      | zero => omega
      | succ j => simpa using h4 j (by omega) (by simpa using hl)
    | none =>
      rw [h] at e
      have hn := last_none h
      by_cases hh : (!x.1 && decide (x.2.1 = t)) = true
      · dsimp only at e
        rw [if_pos hh] at e
        cases e
        refine ⟨0, by simp, by simpa [hitT] using hh, by simp, fun j hj hl => ?_⟩
        cases j with
        | zero => omega
        | succ j => simpa using hn j (by simpa using hl)
      · dsimp only at e
        rw [if_neg hh] at e
        cases e
where last_none {t : Int} : ∀ {ts : List T3}, lastHit t ts = none → ∀ j, j < ts.length → hitT t (ts.getD j dT) = false
  | [], _, j, h => absurd h (by simp)
  | x :: r, e, j, hj => by
    simp only [lastHit] at e
    cases h : lastHit t r with
    | some d' => rw [h] at e; cases e
    | none =>
      rw [h] at e
      cases j with
      | zero =>
        by_cases hh : (!x.1 && decide (x.2.1 = t)) = true
        · dsimp only at e
          rw [if_pos hh] at e
          cases e
        · simpa [hitT] using hh
      | succ j => simpa using last_none h j (by simpa using hj)

/-- A queue's writes, as the model holds them. -/
theorem writes_of {w : World} {Ow : Nat → Prop} {φ : Phi} (hOw : ∀ b, Ow b → b < w.heap.size) {i : Bool} {m : Nat} {cap : Option Nat} {xs : List AV} {u : Value} (h : VR w Ow φ (.sl i m cap xs) u) {ts : List T3} (ht : trip xs = some ts) (hm : ts.length = m) :
    ∃ (a : Option Addr) (c : Nat) (qs : List Wr), u = .slice a m c ∧ qs.length = m ∧ Writes w.heap.size w (.slice a m c) qs ∧
      ∀ j, j < m → (qs.getD j default).f = (ts.getD j dT).1 ∧ (qs.getD j default).n = (ts.getD j dT).2.1 ∧ VR w Ow noPhi (ts.getD j dT).2.2 (qs.getD j default).d := by
  cases h with
  | sl _ n c _ _ a cs hnil hn hcap hlen hx ho hmm =>
  obtain ⟨hl, hs⟩ := trip_spec xs ts ht
  have each : ∀ j, j < m → ∃ q : Wr, cs[j * 3]? = some (.bool q.f) ∧ cs[j * 3 + 1]? = some (.int .i64 q.n) ∧ cs[j * 3 + 2]? = some q.d ∧ q.f = (ts.getD j dT).1 ∧ q.n = (ts.getD j dT).2.1 ∧ VR w Ow noPhi (ts.getD j dT).2.2 q.d := by
    intro j hj
    obtain ⟨e1, e2, e3, e4⟩ := hs j (by omega)
    have g1 : cs[j * 3]? = some (cs[j * 3]'(by omega)) := List.getElem?_eq_getElem _
    have g2 : cs[j * 3 + 1]? = some (cs[j * 3 + 1]'(by omega)) := List.getElem?_eq_getElem _
    have g3 : cs[j * 3 + 2]? = some (cs[j * 3 + 2]'(by omega)) := List.getElem?_eq_getElem _
    have v1 := hx _ _ _ e1 g1
    have v2 := hx _ _ _ e2 g2
    have v3 := hx _ _ _ e3 g3
    generalize cs[j * 3]'(by omega) = y1 at *
    generalize cs[j * 3 + 1]'(by omega) = y2 at *
    generalize cs[j * 3 + 2]'(by omega) = y3 at *
    cases v1
    cases v2
    generalize (ts.getD j dT).2.2 = z at *
    cases z <;> first | cases e4 | skip
    cases v3 with
    | sl _ _ c3 _ _ a3 cs3 h1 h2 h3 h4 h5 h6 h7 => exact ⟨⟨_, _, a3, _, c3⟩, g1, g2, g3, rfl, rfl, .sl _ _ c3 _ _ a3 cs3 h1 h2 h3 h4 h5 h6 h7⟩
  let q : Nat → Wr := fun j => if hj : j < m then Classical.choose (each j hj) else default
  have hq : ∀ j, j < m → ((List.range m).map q).getD j default = q j := by
    intro j hj
    simp [List.getD_eq_getElem?_getD, hj]
  have hqs : ∀ j (hj : j < m), q j = Classical.choose (each j hj) := fun j hj => by simp [q, hj]
  refine ⟨a, c, (List.range m).map q, rfl, by simp, ?_, fun j hj => ?_⟩
  · by_cases h0 : m = 0
    · subst h0
      exact .inl ⟨by simp, a, c, rfl⟩
    · have hne : xs ≠ [] := by
        intro e
        rw [e] at hl
        simp at hl
        omega
      obtain ⟨b, o, rfl, hb, hnb, hc⟩ := hmm hne
      refine .inr ⟨b, o, c, by simp, hb, fun j hj => ?_⟩
      have hj' : j < m := by simpa using hj
      rw [hq j hj', hqs j hj']
      obtain ⟨p1, p2, p3, _⟩ := Classical.choose_spec (each j hj')
      exact ⟨hc _ _ p1, by rw [Nat.add_assoc]; exact hc _ _ p2, by rw [Nat.add_assoc]; exact hc _ _ p3⟩
  · rw [hq j hj, hqs j hj]
    exact (Classical.choose_spec (each j hj)).2.2.2

theorem vs2 {w : World} {Ow : Nat → Prop} {φ : Phi} {x y : AV} {vs : Array Value} (h : ArgsR w Ow φ [x, y] vs) : ∃ u v, vs = #[u, v] ∧ VR w Ow φ x u ∧ VR w Ow φ y v := by
  obtain ⟨h1, h2⟩ := h
  obtain ⟨l⟩ := vs
  match l, h1 with
  | [u, v], _ => exact ⟨u, v, rfl, h2 0 x u rfl rfl, h2 1 y v rfl rfl⟩
theorem ag3 {w : World} {Ow : Nat → Prop} {φ : Phi} {x y z : AV} {c : Value} (h : VR w Ow φ (.agg [x, y, z]) c) : ∃ u v t, c = .agg #[u, v, t] ∧ VR w Ow φ x u ∧ VR w Ow φ y v ∧ VR w Ow φ z t := by
  cases h with
  | agg _ cs hlen hx ho =>
  obtain ⟨l⟩ := cs
  match l, hlen with
  | [u, v, t], _ => exact ⟨u, v, t, rfl, hx 0 x u rfl rfl, hx 1 y v rfl rfl, hx 2 z t rfl rfl⟩
theorem tup2 {w : World} {Ow : Nat → Prop} {φ : Phi} {x y : AV} {u v : Value} (h : VR w Ow φ x u) (k : VR w Ow φ y v) : VR w Ow φ (.tup [x, y]) (.tuple #[u, v]) := by
  refine .tup _ _ rfl fun j a b e e' => ?_
  match j with
  | 0 => cases e; cases e'; exact h
  | 1 => cases e; cases e'; exact k
  | j + 2 => cases e
theorem bel_VR {w w' : World} {Ow : Nat → Prop} {x : AV} {v : Value} (h : VR w Ow noPhi x v) (hb : Below w.heap.size w w') : VR w' Ow noPhi x v :=
  h.step (fun _ _ e => e) hb.size (fun b h1 _ => hb.block b h1) (fun _ _ e => e) (Below.shapes hb)
theorem vr_none {w : World} {Ow : Nat → Prop} : VR w Ow noPhi (.sl true 0 (some 0) []) (.slice none 0 0) :=
  .sl _ _ _ _ _ none [] rfl (Nat.le_refl _) (fun k e => by cases e; rfl) rfl (fun j x v e => by cases e) (fun v e => by cases e) (fun e => absurd rfl e)

def xD : Ext := fun f => if f = 14 then some getF else none
set_option maxRecDepth 100000 in
theorem extOk_D : ExtOk Try.prog xD := by
  intro f e he
  by_cases hf : f = 14
  · subst hf
    obtain rfl : getF = e := by simpa [xD] using he
    refine ⟨⟨_, _, Try.func14, rfl, by decide⟩, fun args v hv Ow w vs hOw ha => ?_⟩
    unfold getF at hv
    split at hv
    · rename_i sz i1 n c1 cells i2 m c2 queue t
      split at hv
      · rename_i ts hts
        split at hv
        · rename_i hcond
          obtain ⟨hn, hm, hbound⟩ := hcond
          obtain ⟨u1, u2, rfl, a1, a2⟩ := vs2 ha
          obtain ⟨v1, v2, v3, rfl, b1, b2, b3⟩ := ag3 a1
          cases a2
          cases b1
          obtain ⟨aq, cq, qs, rfl, hq1, hq2, hq3⟩ := writes_of hOw b3 hts hm
          split at hv
          · rename_i hin
            obtain ⟨hin0, hin1⟩ := hin
            obtain ⟨k, rfl⟩ : ∃ k : Nat, t = k := ⟨t.toNat, by omega⟩
            have hk : k < n := by omega
            split at hv
            · rename_i hsl
              cases hv
              cases b2 with
              | sl _ _ cc _ _ ac cs hnil hnc hcap hlen hx ho hmm =>
              obtain ⟨bc, oc, rfl, hbc, hnb, hcs⟩ := hmm (by intro e; subst e; simp at hn; omega)
              have g0 : cells[k]? = some (cells[k]'(by omega)) := List.getElem?_eq_getElem _
              have g1 : cs[k]? = some (cs[k]'(by omega)) := List.getElem?_eq_getElem _
              have g2 := hx _ _ _ g0 g1
              have g3 : cells.getD k .und = cells[k]'(by omega) := by simp [List.getD_eq_getElem?_getD, g0]
              have hcell := hcs _ _ g1
              simp only [Int.toNat_natCast] at hsl
              rw [g3] at hsl
              have hy : ∃ ra rl rc, cs[k]'(by omega) = .slice ra rl rc := by
                generalize cells[k]'(by omega) = z at *
                cases z <;> first | cases hsl | skip
                generalize cs[k]'(by omega) = y at *
                cases g2
                exact ⟨_, _, _, rfl⟩
              obtain ⟨ra, rl, rc, hy⟩ := hy
              rw [hy] at hcell g2
              refine (callsIn_wide.1 (get_in Fence.wide 3 trivial trivial trivial trivial rfl (Nat.le_refl _) sz bc oc n cc aq m cq k w hk qs (by omega) hq2 hbc ra rl rc hcell)).mono fun e w' hp => ?_
              obtain ⟨res, rfl, hb, hf⟩ := hp
              refine ⟨_, rfl, hb, tup2 ?_ (.lit _)⟩
              refine bel_VR ?_ hb
              have hh : ∀ j, j < m → hit (k : Int) (qs.getD j default) = hitT (k : Int) (ts.getD j dT) := fun j hj => by
                simp only [hit, hitT, (hq3 j hj).1, (hq3 j hj).2.1]
              unfold getR
              cases hl : lastHit (k : Int) ts with
              | some d =>
                obtain ⟨i, q1, q2, rfl, q4⟩ := last_some hl
                rcases hf with ⟨j, x, p1, rfl, p3, p4, rfl⟩ | ⟨p1, _⟩
                · simp only [bk] at p3 p4 ⊢
                  rw [hq1] at p1 p3 p4 ⊢
                  have : m - 1 - j = i := by
                    rcases Nat.lt_trichotomy (m - 1 - j) i with h | h | h
                    · have := p3 (m - 1 - i) (by omega)
                      rw [show m - 1 - (m - 1 - i) = i by omega, hh i (by omega), q2] at this
                      cases this
                    · exact h
                    · have := q4 (m - 1 - j) h (by omega)
                      rw [← hh _ (by omega), p4] at this
                      cases this
                  rw [this]
                  exact (hq3 i (by omega)).2.2
                · have := p1 (m - 1 - i) (by omega)
                  simp only [bk] at this
                  rw [hq1, show m - 1 - (m - 1 - i) = i by omega, hh i (by omega), q2] at this
                  cases this
              | none =>
                have hno := last_some.last_none hl
                rcases hf with ⟨j, x, p1, rfl, p3, p4, rfl⟩ | ⟨_, rfl⟩
                · simp only [bk] at p4
                  rw [hq1] at p1 p4
                  rw [hh _ (by omega), hno _ (by omega)] at p4
                  cases p4
                · simp only [Int.toNat_natCast]
                  rw [g3]
                  exact g2
            · cases hv
          · rename_i hout
            cases hv
            cases b2 with
            | sl _ _ cc _ _ ac cs hnil hnc hcap hlen hx ho hmm =>
            refine (callsIn_wide.1 (get_no_in Fence.wide 3 trivial trivial rfl (Nat.le_refl _) sz ac n cc aq m cq t w (by omega))).mono fun e w' hp => ?_
            obtain ⟨rfl, hb⟩ := hp
            exact ⟨_, rfl, hb, tup2 vr_none (.lit _)⟩
        · cases hv
      · cases hv
    · cases hv
  · simp [xD, hf] at he
end Go.Ev
