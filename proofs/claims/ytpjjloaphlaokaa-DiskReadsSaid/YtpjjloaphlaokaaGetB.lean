/- What disk.Get answers. -/
import Derived.Test.YtpjjloaphlaokaaGetA
namespace Go.Proofs.Dk
open Go Go.Proofs Go.RowKit Go.Shelf

attribute [local go_sem] Oper.semAt_some

set_option maxHeartbeats 1000000 in
theorem has_yes (F : Fence) (n : Nat) (h : F.fn 26) (hro : F.round = none) (sz : Int) (ac : Option Addr) (nc cc : Nat) (aq : Option Addr) (m c : Nat) (at_ : Int) (w : World) (h0 : 0 ≤ at_) (h1 : at_ < nc) :
    CallsIn F n Try.prog 26 #[.agg #[.int .i64 sz, .slice ac nc cc, .slice aq m c], .int .i64 at_] w fun e w' => e = .returned (.bool true) ∧ w' = w.alloc (.cells #[.int .i64 sz, .slice ac nc cc, .slice aq m c] 31) := by
  refine callsIn_of_wp Try.func26 rfl h ?_ hro
  simp only [Try.ntmps26, List.size_toArray, List.length_cons, List.length_nil, Nat.reduceAdd, Nat.reduceSub, Array.replicate_succ, Array.replicate_zero, List.push_toArray, List.append_toArray, List.nil_append, List.cons_append]
  gi_wp2
  go_ret
  exact ⟨rfl, rfl⟩
set_option maxHeartbeats 1000000 in
theorem has_no (F : Fence) (n : Nat) (h : F.fn 26) (hro : F.round = none) (sz : Int) (ac : Option Addr) (nc cc : Nat) (aq : Option Addr) (m c : Nat) (at_ : Int) (w : World) (h0 : at_ < 0 ∨ nc ≤ at_) :
    CallsIn F n Try.prog 26 #[.agg #[.int .i64 sz, .slice ac nc cc, .slice aq m c], .int .i64 at_] w fun e w' => e = .returned (.bool false) ∧ w' = w.alloc (.cells #[.int .i64 sz, .slice ac nc cc, .slice aq m c] 31) := by
  refine callsIn_of_wp Try.func26 rfl h ?_ hro
  simp only [Try.ntmps26, List.size_toArray, List.length_cons, List.length_nil, Nat.reduceAdd, Nat.reduceSub, Array.replicate_succ, Array.replicate_zero, List.push_toArray, List.append_toArray, List.nil_append, List.cons_append]
  by_cases hn : at_ < 0
  · have hn' : ¬ 0 ≤ at_ := by omega
    clear h0 hn
    gi_wp2
    go_ret
    exact ⟨rfl, rfl⟩
  · have h1 : 0 ≤ at_ := by omega
    have h2 : (nc : Int) ≤ at_ := by omega
    have h2' : ¬ at_ < nc := by omega
    clear h0 hn
    gi_wp2
    go_ret
    exact ⟨rfl, rfl⟩

/-- A write that a cell's contents come from. -/
def hit (at_ : Int) (x : Wr) : Bool := !x.f && decide (x.n = at_)
theorem Writes.mono {n₀ n₁ : Nat} {W : World} {sv : Value} {qs : List Wr} (h : n₀ ≤ n₁) : Writes n₀ W sv qs → Writes n₁ W sv qs
  | .inl e => .inl e
  | .inr ⟨b, off, cap, e, hb, hc⟩ => .inr ⟨b, off, cap, e, by omega, hc⟩
/-- What Get finds: the last write to the cell, or what the cell holds. -/
def Found (qs : List Wr) (at_ : Int) (cell res : Value) : Prop :=
  (∃ k x, k < qs.length ∧ bk qs k = x ∧ (∀ j, j < k → hit at_ (bk qs j).2 = false) ∧ hit at_ x.2 = true ∧ res = x.2.d) ∨ ((∀ j, j < qs.length → hit at_ (bk qs j).2 = false) ∧ res = cell)
def fr14 (sz : Int) (ac : Option Addr) (nc cc : Nat) (aq : Option Addr) (m c : Nat) (t : Nat) (H : Nat) (s7 s15 s16 : Value) : Array Value :=
  #[.agg #[.int .i64 sz, .slice ac nc cc, .slice aq m c], .int .i64 t, .pointer (some ⟨H, 0, none⟩), .pointer (some ⟨H + 1, 0, none⟩), .pointer (some ⟨H + 1 + 1, 0, none⟩), .pointer (some ⟨H + 1 + 1 + 1, 0, none⟩), undef, s7,
    .agg #[.int .i64 sz, .slice ac nc cc, .slice aq m c], .int .i64 t, .bool true, .bool false, .pointer (some ⟨H, 2, none⟩), .slice aq m c, .func (.func 40) #[] #[.pointer (some ⟨H + 1 + 1 + 1 + 1 + 1, 0, none⟩)],
    s15, s16, undef, undef, undef, undef, undef, undef, undef, undef, undef, undef, undef, undef, undef, undef, undef, undef]
theorem cellH {W : World} {b : Nat} {cs : Array Value} {T : TypeId} {fz : Nat × Nat} (h : W.heap[b]? = some (.cells cs T fz)) (o : Nat) : W.cell? ⟨b, o, none⟩ = cs[o]? := by
  simp [World.cell?, h]
theorem frzH {W : World} {b : Nat} {cs : Array Value} {T : TypeId} (h : W.heap[b]? = some (.cells cs T (0, 0))) (o : Nat) : W.frozen? ⟨b, o, none⟩ = false := by
  simp [World.frozen?, h]
theorem oldH {W : World} (o : Obj) {b : Nat} {x : Obj} (h : W.heap[b]? = some x) : (W.alloc o).heap[b]? = some x := by
  have hb := (Array.getElem?_eq_some_iff.1 h).1
  show (W.heap.push o)[b]? = some x
  rw [Array.getElem?_push, if_neg (by omega)]
  exact h
theorem newH (W : World) (o : Obj) {b : Nat} (hb : b = W.heap.size) : (W.alloc o).heap[b]? = some o := by
  subst hb
  show (W.heap.push o)[W.heap.size]? = some o
  simp
theorem cell_set_ne {W : World} {a b : Addr} (v : Value) (h : a.block ≠ b.block) : (W.setCell b v).cell? a = W.cell? a := by
  unfold World.cell?
  rw [Below.heap_setCell _ _ _ _ h]
set_option maxRecDepth 100000 in
set_option maxHeartbeats 8000000 in
theorem get_in (F : Fence) (n : Nat) (h14 : F.fn 14) (h26 : F.fn 26) (h31 : F.fn 31) (h40 : F.fn 40) (hro : F.round = none) (hn : 3 ≤ n) (sz : Int) (bc oc nc cc : Nat) (aq : Option Addr) (m c : Nat) (t : Nat) (w : World) (h1 : t < nc)
    (qs : List Wr) (hreach : qs.length * 40 ≤ 140737488351232) (hI : Writes w.heap.size w (.slice aq m c) qs) (hbc : bc < w.heap.size) (ra : Option Addr) (rl rc : Nat) (hcell : w.cell? ⟨bc, oc + t, none⟩ = some (.slice ra rl rc)) :
    CallsIn F n Try.prog 14 #[.agg #[.int .i64 sz, .slice (some ⟨bc, oc, none⟩) nc cc, .slice aq m c], .int .i64 (t : Int)] w fun e W' => ∃ res, e = .returned (.tuple #[res, .int .i64 0]) ∧ Below w.heap.size w W' ∧ Found qs t (.slice ra rl rc) res := by
  have hn1 : 1 ≤ n := by omega
  refine callsIn_of_wp_marks Try.func14 rfl h14 ?_ hro
  simp only [Try.ntmps14, List.size_toArray, List.length_cons, List.length_nil, Nat.reduceAdd, Nat.reduceSub, Array.replicate_succ, Array.replicate_zero, List.push_toArray, List.append_toArray, List.nil_append, List.cons_append]
  gi_wp2_with (first | (gi_at_call 26; refine (has_yes F (n - 1) h26 hro _ _ _ _ _ _ _ _ _ (by omega) (by omega)).mono ?_; rintro e w' ⟨rfl, rfl⟩) | (gi_at_call 31; refine (backward_in F (n - 1) h31 hro _ _ _ _).mono ?_; rintro e w' ⟨rfl, rfl⟩))
  obtain ⟨wS, hwS⟩ : ∃ wS, wS = ((((((w.alloc (Obj.cells #[Value.int IntKind.i64 sz, Value.slice (some ⟨bc, oc, none⟩) nc cc, Value.slice aq m c] 31)).alloc (Obj.cells #[Value.int IntKind.i64 t] 3)).alloc (Obj.cells #[Value.slice none 0 0] 24)).alloc (Obj.cells #[Value.int IntKind.i64 0] 33)).alloc (Obj.cells #[Value.int IntKind.i64 sz, Value.slice (some ⟨bc, oc, none⟩) nc cc, Value.slice aq m c] 31)).alloc (Obj.cells #[Value.slice aq m c] 29)) := ⟨_, rfl⟩
  have hsz : wS.heap.size = w.heap.size + 1 + 1 + 1 + 1 + 1 + 1 := by rw [hwS]; simp
  have b0 : wS.heap[w.heap.size]? = some (.cells #[Value.int IntKind.i64 sz, Value.slice (some ⟨bc, oc, none⟩) nc cc, Value.slice aq m c] 31 (0, 0)) := by rw [hwS]; exact oldH _ (oldH _ (oldH _ (oldH _ (oldH _ (newH w _ rfl)))))
  have b1 : wS.heap[w.heap.size + 1]? = some (.cells #[Value.int IntKind.i64 t] 3 (0, 0)) := by rw [hwS]; exact oldH _ (oldH _ (oldH _ (oldH _ (newH _ _ (by simp)))))
  have b2 : wS.heap[w.heap.size + 1 + 1]? = some (.cells #[Value.slice none 0 0] 24 (0, 0)) := by rw [hwS]; exact oldH _ (oldH _ (oldH _ (newH _ _ (by simp))))
  have b3 : wS.heap[w.heap.size + 1 + 1 + 1]? = some (.cells #[Value.int IntKind.i64 0] 33 (0, 0)) := by rw [hwS]; exact oldH _ (oldH _ (newH _ _ (by simp)))
  have b5 : wS.heap[w.heap.size + 1 + 1 + 1 + 1 + 1]? = some (.cells #[Value.slice aq m c] 29 (0, 0)) := by rw [hwS]; exact newH _ _ (by simp)
  have cd1 : wS.cell? ⟨w.heap.size, 1, none⟩ = some (.slice (some ⟨bc, oc, none⟩) nc cc) := cellH b0 1
  have ca : wS.cell? ⟨w.heap.size + 1, 0, none⟩ = some (.int .i64 t) := cellH b1 0
  have c2 : wS.cell? ⟨w.heap.size + 1 + 1, 0, none⟩ = some (.slice none 0 0) := cellH b2 0
  have f2 : wS.frozen? ⟨w.heap.size + 1 + 1, 0, none⟩ = false := frzH b2 0
  have c3 : wS.cell? ⟨w.heap.size + 1 + 1 + 1, 0, none⟩ = some (.int .i64 0) := cellH b3 0
  have f3 : wS.frozen? ⟨w.heap.size + 1 + 1 + 1, 0, none⟩ = false := frzH b3 0
  have cq : wS.cell? ⟨w.heap.size + 1 + 1 + 1 + 1 + 1, 0, none⟩ = some (.slice aq m c) := cellH b5 0
  have hB0 : Below w.heap.size w wS := by
    rw [hwS]
    exact ((((((Below.refl _ w).alloc (Nat.le_refl _) _).alloc (by simp) _).alloc (by simp; omega) _).alloc (by simp; omega) _).alloc (by simp; omega) _).alloc (by simp; omega) _
  rw [← hwS]
  clear hwS
  refine wpIn_rangeFunc_ownH hro hn1 (gf := 40) (lb := #[.pointer (some ⟨w.heap.size + 1 + 1 + 1 + 1 + 1, 0, none⟩)]) rfl h40 (enters_of Try.func40 (by kernel_rfl) rfl)
    (back_stops F (n - 1) h40 hro (by omega) (w.heap.size + 1 + 1 + 1 + 1 + 1) (w.heap.size + 1 + 1) _ qs hreach wS (by omega) (by omega) cq ((hI.below hB0).mono (by omega)))
    (fun h k => h.trans k) (fun W l o o' hl h hc hk => ⟨belowK_b (w := wS) (by omega) W l o o' hl h hc hk, World.putObj_heap_other (by omega)⟩) (Below.refl _ _) (fun _ => rfl)
    (fun pre W => ((∀ p ∈ pre, hit t p.2 = false) ∧ W.cell? ⟨w.heap.size + 1 + 1, 0, none⟩ = some (.slice none 0 0) ∧ W.frozen? ⟨w.heap.size + 1 + 1, 0, none⟩ = false ∧ W.cell? ⟨w.heap.size + 1 + 1 + 1, 0, none⟩ = some (.int .i64 0) ∧ W.frozen? ⟨w.heap.size + 1 + 1 + 1, 0, none⟩ = false) ∧ Below (w.heap.size + 1 + 1) wS W)
    (fun cd pre W => (cd = .ret ∧ ∃ ini last, pre = ini ++ [last] ∧ (∀ p ∈ ini, hit t p.2 = false) ∧ hit t last.2 = true ∧ W.cell? ⟨w.heap.size + 1 + 1, 0, none⟩ = some (.slice last.2.a last.2.l last.2.c) ∧ W.cell? ⟨w.heap.size + 1 + 1 + 1, 0, none⟩ = some (.int .i64 0)) ∧ Below (w.heap.size + 1 + 1) wS W)
    (OwnFrom.and (Own.from (fun s A B row hs hg hr => ⟨hs.1, cell_kept hs.2.1 hg hr, (frozen_kept hs.2.1 hg hr).trans hs.2.2.1, cell_kept hs.2.2.2.1 hg hr, (frozen_kept hs.2.2.2.1 hg hr).trans hs.2.2.2.2⟩) _) (ownFrom_below (by omega) (by omega)))
    (fun cd => OwnFrom.and (Own.from (fun s A B row hs hg hr => by obtain ⟨hc, ini, last, e1, e2, e3, e4, e5⟩ := hs; exact ⟨hc, ini, last, e1, e2, e3, cell_kept e4 hg hr, cell_kept e5 hg hr⟩) _) (ownFrom_below (by omega) (by omega)))
    ⟨⟨by simp, c2, f2, c3, f3⟩, Below.refl _ _⟩
    (fun x a' W => ∃ B, wS.heap.size ≤ B ∧ a' = { tmps := fr14 sz (some ⟨bc, oc, none⟩) nc cc aq m c t w.heap.size (.pointer (some ⟨B, 0, none⟩)) (.int .i64 (x.1 : Int)) x.2.val, defers := [] } ∧ W.cell? ⟨B, 0, none⟩ = some (.bool x.2.f) ∧ W.cell? ⟨B, 1, none⟩ = some (.int .i64 x.2.n) ∧ W.cell? ⟨B, 2, none⟩ = some (.slice x.2.a x.2.l x.2.c))
    (fun x a' => Own.from (fun s A B row hs hg hr => by obtain ⟨b, e0, e1, e2, e3, e4⟩ := hs; exact ⟨b, e0, e1, cell_kept e2 hg hr, cell_kept e3 hg hr, cell_kept e4 hg hr⟩) _) ?assign ?body ?done ?stop
  case assign =>
    intro l pre x W K hi hK
    obtain ⟨hi1, hB⟩ := hi
    simp only [Wr.val]
    gi_wp2
    have hs : wS.heap.size ≤ W.heap.size := hB.size
    have g := fun o : Obj => World.grownBy_alloc W o none
    exact hK _ _ ((KeepsOthers.alloc W _).from _) ⟨(Below.refl _ W).alloc (by omega) _, Below.heap_alloc _ _ _ (by omega)⟩
      ⟨⟨hi1.1, cell_kept hi1.2.1 (g _) (fun r e => by cases e), (frozen_kept hi1.2.1 (g _) (fun r e => by cases e)).trans hi1.2.2.1, cell_kept hi1.2.2.2.1 (g _) (fun r e => by cases e), (frozen_kept hi1.2.2.2.1 (g _) (fun r e => by cases e)).trans hi1.2.2.2.2⟩, hB.alloc (by omega) _⟩
      ⟨W.heap.size, hs, rfl, cellH (newH W _ rfl) 0, cellH (newH W _ rfl) 1, cellH (newH W _ rfl) 2⟩
  case body =>
    rintro l pre x a' W _ _ ⟨⟨hp, i2, j2, i3, j3⟩, hB⟩ ⟨B, hBs, rfl, e0, e1, e2⟩ _
    have ca' : W.cell? ⟨w.heap.size + 1, 0, none⟩ = some (.int .i64 t) := (hB.cell (p := ⟨w.heap.size + 1, 0, none⟩) (by show w.heap.size + 1 < _; omega)).trans ca
    simp only [fr14]
    gi_wp2
    · have hf : x.2.f = true := by assumption
      exact ⟨KeepsFrom.refl _ _, Kp.refl _ _ _, ⟨fun p hp' => (List.mem_append.1 hp').elim (hp p) (fun e => by simp at e; subst e; simp [hit, hf]), i2, j2, i3, j3⟩, hB⟩
    · have hf : ¬ x.2.f = true := by assumption
      have hx : (x.2.n == (t : Int)) = true := by assumption
      have hx' : x.2.n = t := by simpa using hx
      exact ⟨((KeepsOthers.setCell _ _ _).trans (KeepsOthers.setCell _ _ _)).from _, ⟨rfl, pre, x, rfl, hp, by simp [hit, hf, hx'], (cell_set_ne _ (by show w.heap.size + 1 + 1 ≠ w.heap.size + 1 + 1 + 1; omega)).trans (World.cell?_setCell_same' _ _ _ (by rw [i2]; rfl)),
        World.cell?_setCell_same' _ _ _ (by rw [cell_set_ne _ (by show w.heap.size + 1 + 1 + 1 ≠ w.heap.size + 1 + 1; omega), i3]; rfl)⟩, (hB.setCell (p := ⟨w.heap.size + 1 + 1, 0, none⟩) (Nat.le_refl _) _).setCell (p := ⟨w.heap.size + 1 + 1 + 1, 0, none⟩) (by show w.heap.size + 1 + 1 ≤ w.heap.size + 1 + 1 + 1; omega) _⟩
    · have hx : (x.2.n == (t : Int)) = false := by assumption
      have hx' : ¬ x.2.n = t := by simpa using hx
      exact ⟨KeepsFrom.refl _ _, Kp.refl _ _ _, ⟨fun p hp' => (List.mem_append.1 hp').elim (hp p) (fun e => by simp at e; subst e; simp [hit, hx']), i2, j2, i3, j3⟩, hB⟩
  case done =>
    rintro D ys W hD rfl ⟨⟨hp, i2, j2, i3, j3⟩, hB⟩ hK
    have cd' : W.cell? ⟨w.heap.size, 1, none⟩ = some (.slice (some ⟨bc, oc, none⟩) nc cc) := (hB.cell (p := ⟨w.heap.size, 1, none⟩) (by show w.heap.size < _; omega)).trans cd1
    have ca' : W.cell? ⟨w.heap.size + 1, 0, none⟩ = some (.int .i64 t) := (hB.cell (p := ⟨w.heap.size + 1, 0, none⟩) (by show w.heap.size + 1 < _; omega)).trans ca
    have hBw : Below w.heap.size w W := hB0.trans (hB.mono (by omega))
    have hcell' : W.cell? ⟨bc, oc + t, none⟩ = some (.slice ra rl rc) := (hBw.cell (p := ⟨bc, oc + t, none⟩) hbc).trans hcell
    gi_wp2
    have hK' : ((W.setCell ⟨w.heap.size + 1 + 1, 0, none⟩ (.slice ra rl rc)).setCell ⟨w.heap.size + 1 + 1 + 1, 0, none⟩ (.int .i64 0)).heap[D]? = some (.deferred (some [])) := ((KeepsOthers.setCell W _ _).trans (KeepsOthers.setCell _ _ _)).same D _ hK rfl
    have hq2 : ((W.setCell ⟨w.heap.size + 1 + 1, 0, none⟩ (.slice ra rl rc)).setCell ⟨w.heap.size + 1 + 1 + 1, 0, none⟩ (.int .i64 0)).cell? ⟨w.heap.size + 1 + 1, 0, none⟩ = some (.slice ra rl rc) :=
      (cell_set_ne _ (by show w.heap.size + 1 + 1 ≠ w.heap.size + 1 + 1 + 1; omega)).trans (World.cell?_setCell_same' _ _ _ (by rw [i2]; rfl))
    have hq3 : ((W.setCell ⟨w.heap.size + 1 + 1, 0, none⟩ (.slice ra rl rc)).setCell ⟨w.heap.size + 1 + 1 + 1, 0, none⟩ (.int .i64 0)).cell? ⟨w.heap.size + 1 + 1 + 1, 0, none⟩ = some (.int .i64 0) :=
      World.cell?_setCell_same' _ _ _ (by rw [cell_set_ne _ (by show w.heap.size + 1 + 1 + 1 ≠ w.heap.size + 1 + 1; omega), i3]; rfl)
    have hB2 : Below w.heap.size w ((W.setCell ⟨w.heap.size + 1 + 1, 0, none⟩ (.slice ra rl rc)).setCell ⟨w.heap.size + 1 + 1 + 1, 0, none⟩ (.int .i64 0)) :=
      (hBw.setCell (p := ⟨w.heap.size + 1 + 1, 0, none⟩) (by show w.heap.size ≤ w.heap.size + 1 + 1; omega) _).setCell (p := ⟨w.heap.size + 1 + 1 + 1, 0, none⟩) (by show w.heap.size ≤ w.heap.size + 1 + 1 + 1; omega) _
    refine ⟨by simp, .inl ⟨_, _, rfl, run_takeDeferred hK', ?_⟩⟩
    have c4 := cell_kept hq2 (grownBy_putObj' _ D (.deferred none)) (fun r e => by cases e; exact ⟨_, hK', rfl⟩)
    have c5 := cell_kept hq3 (grownBy_putObj' _ D (.deferred none)) (fun r e => by cases e; exact ⟨_, hK', rfl⟩)
    refine ⟨.tuple #[.slice ra rl rc, .int .i64 0], ?_, _, rfl, hB2.trans (belowK_b (w := w) (Nat.le_refl _) _ D _ _ (by omega) hK' rfl rfl), .inr ⟨fun j hj => hp (bk qs j) (by simp only [upto, List.mem_map, List.mem_range]; exact ⟨j, hj, rfl⟩), rfl⟩⟩
    simp [results, Try.f14, go_sem, c4, c5]
  case stop =>
    rintro D cd pre W hD ⟨k, hk, rfl⟩ ⟨⟨rfl, ini, last, e1, e2, e3, hcr, hci⟩, hB⟩ hK
    have hBw : Below w.heap.size w W := hB0.trans (hB.mono (by omega))
    gi_wp2
    refine ⟨by simp, .inl ⟨_, _, rfl, run_takeDeferred hK, ?_⟩⟩
    have c4 := cell_kept hcr (grownBy_putObj' _ D (.deferred none)) (fun r e => by cases e; exact ⟨_, hK, rfl⟩)
    have c5 := cell_kept hci (grownBy_putObj' _ D (.deferred none)) (fun r e => by cases e; exact ⟨_, hK, rfl⟩)
    obtain ⟨k', rfl⟩ : ∃ k', k = k' + 1 := by
      cases k with
      | zero => simp [upto] at e1
      | succ k' => exact ⟨k', rfl⟩
    rw [upto_succ] at e1
    obtain ⟨rfl, e5⟩ := List.append_inj' e1 rfl
    obtain rfl : bk qs k' = last := by simpa using e5
    refine ⟨.tuple #[.slice (bk qs k').2.a (bk qs k').2.l (bk qs k').2.c, .int .i64 0], ?_, _, rfl, hBw.trans (belowK_b (w := w) (Nat.le_refl _) _ D _ _ (by omega) hK rfl rfl), .inl ⟨k', bk qs k', by omega, rfl, fun j hj => e2 (bk qs j) (by simp only [upto, List.mem_map, List.mem_range]; exact ⟨j, hj, rfl⟩), e3, rfl⟩⟩
    simp [results, Try.f14, go_sem, c4, c5]
end Go.Proofs.Dk
