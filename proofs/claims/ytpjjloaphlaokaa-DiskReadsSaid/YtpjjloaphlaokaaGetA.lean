/- What slices.Backward over a disk's queue yields. -/
import Derived.RangeFuncBox
import Derived.RangeFuncNested
import Derived.RangeFuncLeaves
import Derived.Shelf.Abstract
import Derived.WalkKit
import Derived.OwnWalkIn
import Derived.TacticsInMore
import Derived.LoopNIn
import Derived.LoopIn
import Derived.Outline
import Derived.IntWalk
import Derived.Test.YtpjjloaphlaokaaProg
namespace Go.Proofs.Dk
open Go Go.Proofs Go.RowKit Go.Shelf

attribute [local go_sem] Oper.semAt_some

/-- A write in a queue. -/
structure Wr where
  f : Bool
  n : Int
  a : Option Addr
  l : Nat
  c : Nat
instance : Inhabited Wr := ⟨⟨false, 0, none, 0, 0⟩⟩
def Wr.d (x : Wr) : Value := .slice x.a x.l x.c
def Wr.val (x : Wr) : Value := .agg #[.bool x.f, .int .i64 x.n, .slice x.a x.l x.c]
def upto {α : Type} (f : Nat → α) (k : Nat) : List α := (List.range k).map f
theorem upto_succ {α : Type} (f : Nat → α) (k : Nat) : upto f (k + 1) = upto f k ++ [f k] := by simp [upto, List.range_succ]
theorem upto_length {α : Type} (f : Nat → α) (k : Nat) : (upto f k).length = k := by simp [upto]
/-- What comes in round j: the last but j. -/
def bk (qs : List Wr) (j : Nat) : Nat × Wr := (qs.length - 1 - j, qs.getD (qs.length - 1 - j) default)

/-- What a round keeps: what lay below, and the iterator's own variable. -/
def Kp (n₀ Bs : Nat) (A B : World) : Prop := Below n₀ A B ∧ B.heap[Bs]? = A.heap[Bs]?
theorem Kp.refl (n₀ Bs : Nat) (A : World) : Kp n₀ Bs A A := ⟨Below.refl _ _, rfl⟩
theorem Kp.trans {n₀ Bs : Nat} {A B C : World} (h : Kp n₀ Bs A B) (k : Kp n₀ Bs B C) : Kp n₀ Bs A C := ⟨h.1.trans k.1, k.2.trans h.2⟩
theorem Kp.box {n₀ Bs : Nat} {A B : World} (h : Kp n₀ Bs A B) (o : Nat) : B.cell? ⟨Bs, o, none⟩ = A.cell? ⟨Bs, o, none⟩ := by
  unfold World.cell?
  rw [h.2]
set_option maxRecDepth 100000 in
set_option maxHeartbeats 2000000 in
theorem back1_in (F : Fence) (n : Nat) (h7 : F.fn 40) (hro : F.round = none) (hn : 1 ≤ n) (l Bs n₀ b off cap : Nat) (qs : List Wr) (hreach : qs.length * 40 ≤ 140737488351232) (hb : b < n₀) (J Jx : List (Nat × Wr) → World → Prop)
    (hY : ∀ pre x W, J pre W → pre.length < qs.length → YieldAt F (n - 1) Try.prog l #[.int .i64 (x.1 : Int), x.2.val] W fun e W' =>
      (e = .returned (.bool true) ∧ J (pre ++ [x]) W' ∧ Kp n₀ Bs W W') ∨ (e = .returned (.bool false) ∧ Jx (pre ++ [x]) W'))
    (W : World) (hBs : W.cell? ⟨Bs, 0, none⟩ = some (.slice (some ⟨b, off, none⟩) qs.length cap))
    (hc : ∀ j, j < qs.length → W.cell? ⟨b, off + j * 3, none⟩ = some (.bool (qs.getD j default).f) ∧ W.cell? ⟨b, off + j * 3 + 1, none⟩ = some (.int .i64 (qs.getD j default).n) ∧ W.cell? ⟨b, off + j * 3 + 2, none⟩ = some (.slice (qs.getD j default).a (qs.getD j default).l (qs.getD j default).c)) (h0 : J [] W) :
    CallsIn F n Try.prog 40 #[.func (.yield l) #[] #[], .pointer (some ⟨Bs, 0, none⟩)] W fun e W' => (∃ v, e = .returned v) ∧
      ((∃ ys, ys = upto (bk qs) qs.length ∧ J ys W') ∨ (∃ pre, (∃ k, k ≤ qs.length ∧ pre = upto (bk qs) k) ∧ Jx pre W')) := by
  refine callsIn_of_wp Try.func40 rfl h7 ?_ hro
  simp only [Try.ntmps40, List.size_toArray, List.length_cons, List.length_nil, Nat.reduceAdd, Nat.reduceSub, Array.replicate_succ, Array.replicate_zero, List.push_toArray, List.append_toArray, List.nil_append, List.cons_append]
  have hlw : IntKind.i64.wrap ((qs.length : Int) - 1) = (qs.length : Int) - 1 := IntWalk.i64_in _ (by omega)
  gi_wp2
  gi_loopw [3] (fun i wr => ∃ k : Nat, k ≤ qs.length ∧ i = .int .i64 ((qs.length : Int) - 1 - k) ∧ J (upto (bk qs) k) wr ∧ Kp n₀ Bs W wr)
    (fun i _ => (intOf i + 1).toNat)
  case atStart => exact ⟨0, Nat.zero_le _, by simp, h0, Kp.refl _ _ _⟩
  case round =>
    obtain ⟨k, hk, rfl, hJs, hnx⟩ := hrel
    by_cases hlt : k < qs.length
    · have hlt2 : qs.length - 1 - k < qs.length := by omega
      obtain ⟨c0, c1, c2⟩ := hc _ hlt2
      have d0 : wr.cell? ⟨b, off + (qs.length - 1 - k) * 3, none⟩ = some (.bool (qs.getD (qs.length - 1 - k) default).f) := (hnx.1.cell (p := ⟨b, _, none⟩) hb).trans c0
      have d1 : wr.cell? ⟨b, off + (qs.length - 1 - k) * 3 + 1, none⟩ = some (.int .i64 (qs.getD (qs.length - 1 - k) default).n) := (hnx.1.cell (p := ⟨b, _, none⟩) hb).trans c1
      have d2 : wr.cell? ⟨b, off + (qs.length - 1 - k) * 3 + 2, none⟩ = some (.slice (qs.getD (qs.length - 1 - k) default).a (qs.getD (qs.length - 1 - k) default).l (qs.getD (qs.length - 1 - k) default).c) := (hnx.1.cell (p := ⟨b, _, none⟩) hb).trans c2
      have dB := (hnx.box 0).trans hBs
      have ei : (qs.length : Int) - 1 - k = ((qs.length - 1 - k : Nat) : Int) := by omega
      obtain ⟨fn, tmps, assign, body, hy, hR⟩ := hY _ (bk qs k) wr hJs (by rw [upto_length]; exact hlt)
      simp only [bk, Wr.val] at hy
      clear c0 c1 c2 hc
      rw [ei]
      generalize hj : qs.length - 1 - k = j at *
      generalize qs.getD j default = x at *
      have hjw : IntKind.i64.wrap ((j : Int) - 1) = (j : Int) - 1 := IntWalk.i64_in _ (by omega)
      gi_wp2
      refine hR.mono ?_
      rintro e W3 (⟨rfl, hJ3, hk3⟩ | ⟨rfl, hJx3⟩)
      · gi_wp2
        go_roundw
        case rel => exact ⟨k + 1, by omega, by rw [show (j : Int) - 1 = (qs.length : Int) - 1 - ((k + 1 : Nat) : Int) by omega], by rw [upto_succ]; exact hJ3, hnx.trans hk3⟩
        case measure => simp [intOf]
      · gi_wp2
        refine bodyPost_ret (results_none rfl _ _ _) rfl ?_
        exact ⟨⟨_, rfl⟩, .inr ⟨_, ⟨k + 1, by omega, (upto_succ _ _).symm⟩, hJx3⟩⟩
    · obtain rfl : k = qs.length := by omega
      rw [show (qs.length : Int) - 1 - (qs.length : Int) = -1 by omega]
      gi_wp2
      go_end0
      exact ⟨⟨_, rfl⟩, .inl ⟨_, rfl, hJs⟩⟩

set_option maxRecDepth 100000 in
set_option maxHeartbeats 1000000 in
/-- .. at a queue of no writes: no round. -/
theorem back1_nil_in (F : Fence) (n : Nat) (h7 : F.fn 40) (hro : F.round = none) (l Bs : Nat) (a : Option Addr) (cap : Nat) (J : List (Nat × Wr) → World → Prop) (W : World) (hBs : W.cell? ⟨Bs, 0, none⟩ = some (.slice a 0 cap)) (h0 : J [] W) :
    CallsIn F n Try.prog 40 #[.func (.yield l) #[] #[], .pointer (some ⟨Bs, 0, none⟩)] W fun e W' => (∃ v, e = .returned v) ∧ J [] W' := by
  refine callsIn_of_wp Try.func40 rfl h7 ?_ hro
  simp only [Try.ntmps40, List.size_toArray, List.length_cons, List.length_nil, Nat.reduceAdd, Nat.reduceSub, Array.replicate_succ, Array.replicate_zero, List.push_toArray, List.append_toArray, List.nil_append, List.cons_append]
  gi_wp2
  gi_loopw [3] (fun i wr => i = .int .i64 (-1) ∧ J [] wr) (fun _ _ => 0)
  case atStart => exact ⟨rfl, h0⟩
  case round =>
    obtain ⟨rfl, hJs⟩ := hrel
    gi_wp2
    go_end0
    exact ⟨⟨_, rfl⟩, hJs⟩

set_option maxHeartbeats 1000000 in
/-- slices.Backward(q): the slice value is boxed; the function value captures the box. -/
theorem backward_in (F : Fence) (n : Nat) (h5 : F.fn 31) (hro : F.round = none) (a : Option Addr) (len cap : Nat) (w : World) :
    CallsIn F n Try.prog 31 #[.slice a len cap] w fun e w' => e = .returned (.func (.func 40) #[] #[.pointer (some ⟨w.heap.size, 0, none⟩)]) ∧ w' = w.alloc (.cells #[.slice a len cap] 29) := by
  refine callsIn_of_wp Try.func31 rfl h5 ?_ hro
  simp only [Try.ntmps31, List.size_toArray, List.length_cons, List.length_nil, Nat.reduceAdd, Nat.reduceSub, Array.replicate_succ, Array.replicate_zero, List.push_toArray, List.append_toArray, List.nil_append, List.cons_append]
  gi_wp2
  go_ret
  exact ⟨rfl, rfl⟩

/-- The slice value holds the writes, in a block below n₀; or there are none. -/
def Writes (n₀ : Nat) (W : World) (sv : Value) (qs : List Wr) : Prop :=
  (qs = [] ∧ ∃ a cap, sv = .slice a 0 cap) ∨ ∃ b off cap, sv = .slice (some ⟨b, off, none⟩) qs.length cap ∧ b < n₀ ∧
    ∀ j, j < qs.length → W.cell? ⟨b, off + j * 3, none⟩ = some (.bool (qs.getD j default).f) ∧ W.cell? ⟨b, off + j * 3 + 1, none⟩ = some (.int .i64 (qs.getD j default).n) ∧ W.cell? ⟨b, off + j * 3 + 2, none⟩ = some (.slice (qs.getD j default).a (qs.getD j default).l (qs.getD j default).c)
theorem Writes.below {n₀ : Nat} {A B : World} (h : Below n₀ A B) {sv : Value} {qs : List Wr} : Writes n₀ A sv qs → Writes n₀ B sv qs
  | .inl e => .inl e
  | .inr ⟨b, off, cap, e, hb, hc⟩ => .inr ⟨b, off, cap, e, hb, fun j hj => ⟨(h.cell (p := ⟨b, _, none⟩) hb).trans (hc j hj).1, (h.cell (p := ⟨b, _, none⟩) hb).trans (hc j hj).2.1, (h.cell (p := ⟨b, _, none⟩) hb).trans (hc j hj).2.2⟩⟩

/-- The value that slices.Backward hands back: all writes, the last one first; or the first k of them. -/
theorem back_stops (F : Fence) (n : Nat) (h7 : F.fn 40) (hro : F.round = none) (hn : 1 ≤ n) (Bs n₀ : Nat) (sv : Value) (qs : List Wr) (hreach : qs.length * 40 ≤ 140737488351232) (w : World) (hBs : Bs < w.heap.size) (hn₀ : n₀ ≤ w.heap.size)
    (hc : w.cell? ⟨Bs, 0, none⟩ = some sv) (hI : Writes n₀ w sv qs) :
    SeqStopsK F n Try.prog 40 #[.pointer (some ⟨Bs, 0, none⟩)] (fun x : Nat × Wr => #[Value.int .i64 (x.1 : Int), x.2.val]) (Kp n₀ Bs) (fun ys => ys = upto (bk qs) qs.length)
      (fun pre => ∃ k, k ≤ qs.length ∧ pre = upto (bk qs) k) qs.length w := fun l J Jx W hW _ _ hY h0 => by
  have hc' := (hW.cell (p := ⟨Bs, 0, none⟩) hBs).trans hc
  rcases hI.below (hW.mono hn₀) with ⟨rfl, a, cap, rfl⟩ | ⟨b, off, cap, rfl, hb, hcs⟩
  · exact (back1_nil_in F n h7 hro l Bs a cap J W hc' h0).mono fun e W' ⟨he, hj⟩ => ⟨he, .inl ⟨_, rfl, hj⟩⟩
  · exact back1_in F n h7 hro hn l Bs n₀ b off cap qs hreach hb J Jx hY W hc' hcs h0
end Go.Proofs.Dk
