/- What disk.queue answers: slices.Clone of a queue. -/
import Derived.Test.YtpjjloaphlaokaaGetA
import Derived.Deep.RegionHeld3
import Derived.Deep.AppendLies
import Derived.Deep.Onto
import Derived.Deep.RegionLawGrows
import Derived.Lib.SliceRun
import Derived.Lib.Walk
import Derived.KernelRfl
set_option linter.unusedVariables false
set_option linter.unusedSimpArgs false
namespace Go.Proofs.Dk
open Go Go.Proofs Go.RowKit Go.Shelf

attribute [local go_sem] Oper.semAt_some

theorem info53 : (Try.prog.info? 53).map (fun i => (i.zero, i.size, i.bytes)) = some (some (.agg #[.bool false, .int .i64 0, .slice none 0 0]), 3, 40) := by kernel_rfl
set_option maxHeartbeats 2000000 in
set_option maxRecDepth 100000 in
theorem clone_some (ad : Addr) (n c : Nat) (cs : List Value) (w : World) (hn : cs.length = n * 3) (h1c : ∀ u ∈ cs, u.oneCell' = true) (hbig : n * 40 ≤ 140737488355328) (hc : ∀ j u, cs[j]? = some u → w.cell? (ad.add j) = some u) :
    Calls Try.prog 38 #[.slice (some ad) n c] w fun e w' => ∃ v', e = .returned v' ∧ w'.ownsRow w.heap.size 53 3 v' n cs ∧ Below w.heap.size w w' := by
  obtain ⟨i0, hi, hz0, hz1, hz2⟩ := info_parts info53
  have q29 : ∀ (w : World) (a : Option Addr) (n c n' c' : Nat), (binOp .eql 29 (.slice a n c) (.slice none n' c')).run Try.prog w = .ok (.bool a.isNone) w := fun w a n c n' c' => Lib.run_eql_slice_nil w _ _ a n c n' c' Try.underlying29
  go_enter Try.func38, Try.ntmps38
  go_wp2_with (at_builtin; refine wpList_append_own _ rfl _ _ 29 rfl w.heap.size 53 i0 _ 3 40 Try.underlying29 hi hz0 hz1 hz2 rfl (by decide) _ _ _ rfl (World.ownsRow_made w #[] 0 (Nat.le_refl _) (Nat.zero_le _) rfl) ad n c cs rfl ?qc1 ?qc2 ?qc3 ?qc4 ?qc5 ?qc6 ?_)
  case qc1 => exact hn
  case qc2 =>
    intro j u hj
    exact Lib.cell?_alloc_some _ (hc j u hj)
  case qc3 => exact h1c
  case qc4 => unfold maxLen; omega
  case qc5 => omega
  case qc6 => simp
  intro v' w1 hown hgrow hnil
  go_wp2
  go_ret
  exact ⟨v', rfl, by simpa using hown, ((Below.refl _ w).alloc (Nat.le_refl _) _).grown hgrow (by simp) (by intro k hk; simp [Value.ownBlock] at hk; omega)⟩
set_option maxHeartbeats 1000000 in
theorem clone_none (n c : Nat) (w : World) :
    Calls Try.prog 38 #[.slice none n c] w fun e w' => e = .returned (.slice none 0 0) ∧ w' = w := by
  have q29 : ∀ (w : World) (a : Option Addr) (n c n' c' : Nat), (binOp .eql 29 (.slice a n c) (.slice none n' c')).run Try.prog w = .ok (.bool a.isNone) w := fun w a n c n' c' => Lib.run_eql_slice_nil w _ _ a n c n' c' Try.underlying29
  go_enter Try.func38, Try.ntmps38
  go_wp2
  go_ret
  exact ⟨rfl, rfl⟩
theorem block_add (ad : Addr) (j : Nat) : (ad.add j).block = ad.block := by simp [Addr.add]; try (split <;> rfl)
theorem clone_any (a : Option Addr) (n c : Nat) (cs : List Value) (w : World) (hn : cs.length = n * 3) (h1c : ∀ u ∈ cs, u.oneCell' = true) (hbig : n * 40 ≤ 140737488355328) (hc : ∀ ad, a = some ad → ∀ j u, cs[j]? = some u → w.cell? (ad.add j) = some u) (h0 : a = none → n = 0) :
    Calls Try.prog 38 #[.slice a n c] w fun e w' => ∃ v', e = .returned v' ∧ w'.ownsRow w.heap.size 53 3 v' n cs ∧ Below w.heap.size w w' := by
  cases a with
  | some ad => exact clone_some ad n c cs w hn h1c hbig (hc ad rfl)
  | none =>
    refine (clone_none n c w).mono fun e w' h => ?_
    obtain ⟨rfl, rfl⟩ := h
    obtain rfl := h0 rfl
    obtain rfl : cs = [] := List.eq_nil_of_length_eq_zero (by simpa using hn)
    exact ⟨_, rfl, World.ownsRow_nil _ _ _ _, Below.refl _ _⟩

theorem own_ge {w : World} {base : Nat} {e : TypeId} {size n : Nat} {v : Value} {xs : List Value} (h : w.ownsRow base e size v n xs) : ∀ k, v.ownBlock = some k → base ≤ k := by
  intro k hk
  rcases h.2 with ⟨rfl, _⟩ | ⟨g, cap, cur, rfl, hb, _⟩
  · simp [Value.ownBlock] at hk
  · simp [Value.ownBlock] at hk; omega
theorem news_later {W : World} {o : List Value} {t : TypeId} {w' : World} {fr : Nat × Nat} {b : Nat} (hB : Below (W.drew.alloc (.cells o.toArray t fr)).heap.size (W.drew.alloc (.cells o.toArray t fr)) w') (hb : W.heap.size = b) :
    ∀ j u, o[j]? = some u → w'.cell? ((⟨b, 0, none⟩ : Addr).add j) = some u := fun j u hu => by
  subst hb
  exact (hB.cell (p := (⟨W.heap.size, 0, none⟩ : Addr).add j) (by rw [block_add]; simp)).trans (World.news_of_block (cs := o.toArray) (heap_alloc_new W.drew _) j u hu)
theorem step_call1 {P : Program} {ops : Array Oper} {o : Oper} {a : Act} {w : World} {K : Act → World → Prop} {Q : Exit → Act → World → Prop} {E : Prop} {R : Ending → World → Prop}
    (hg : o.guard = none) (f : FuncId) (x : Operand) (ts : Array TypeId) (hop : o.op = Op.call { callee := Callee.value (.func f), args := #[x], argTypes := ts }) (fn : Func) (b : Code) (hfn : P.funcs[f]? = some fn) (hbody : fn.body = some b) (hname : fn.name ≠ "runtime.NumGoroutine")
    (hc : Calls P f #[a.eval x] w R) (hK : ∀ e w', R e w' → ∃ v, e = .returned v ∧ K (a.put o.dst v) w') :
    if Region.wanted o (yielded ops a.tmps) = true then Oper.wp P o a w K Q else E := by
  have hw : Region.wanted o (yielded ops a.tmps) = true := by simp [Region.wanted, hg]
  rw [if_pos hw]
  have hrun : (execOp a.eval o).run P w = .ok (.enter f #[a.eval x]) w := by
    obtain ⟨dst, op, type, pos, after, guard⟩ := o
    simp only at hop
    subst hop
    simp [execOp, resolve, Act.eval, Deferred.ofValue, invoke, callFunc, hfn, hbody, hname]
  unfold Oper.wp
  rw [hrun, Oper.upon_enter]
  refine hc.mono fun e w' hq => ?_
  obtain ⟨v, rfl, q⟩ := hK e w' hq
  exact q
set_option maxRecDepth 100000 in
set_option maxHeartbeats 400000 in
theorem queue_calls (sz : Int) (ac : Option Addr) (nc cc : Nat) (a : Option Addr) (n c : Nat) (f : Bool) (at_ : Int) (ad_ : Option Addr) (nd cd : Nat) (cs : List Value) (w : World) (hn : cs.length = n * 3) (h1c : ∀ u ∈ cs, u.oneCell' = true) (hbig : (n + 1) * 40 ≤ 140737488355328)
    (hc : ∀ ad, a = some ad → ∀ j u, cs[j]? = some u → ad.block < w.heap.size ∧ w.cell? (ad.add j) = some u) (h0 : a = none → n = 0) :
    Calls Try.prog 27 #[.agg #[.int .i64 sz, (.slice ac nc cc), .slice a n c], .agg #[.bool f, .int .i64 at_, (.slice ad_ nd cd)]] w fun e w' => ∃ v', e = .returned (.agg #[.int .i64 sz, (.slice ac nc cc), v']) ∧ w'.ownsRow w.heap.size 53 3 v' (n + 1) (cs ++ [.bool f, .int .i64 at_, (.slice ad_ nd cd)]) ∧ Below w.heap.size w w' := by
  obtain ⟨i0, hi, hz0, hz1, hz2⟩ := info_parts info53
  go_enter Try.func27, Try.ntmps27
  go_wp2_with fail
  obtain ⟨W, hW⟩ : ∃ W, W = (((w.alloc (Obj.cells #[Value.int IntKind.i64 sz, (.slice ac nc cc), Value.slice a n c] 31)).alloc (Obj.cells #[Value.bool f, Value.int IntKind.i64 at_, (.slice ad_ nd cd)] 53)).alloc (Obj.cells #[Value.int IntKind.i64 0, Value.slice none 0 0, Value.slice none 0 0] 31)) := ⟨_, rfl⟩
  have hsz : W.heap.size = w.heap.size + 1 + 1 + 1 := by rw [hW]; simp
  have hB0 : Below w.heap.size w W := by
    rw [hW]
    exact (((Below.refl _ w).alloc (Nat.le_refl _) _).alloc (by simp) _).alloc (by simp; omega) _
  have b2 : W.heap[w.heap.size]? = some (.cells #[Value.int IntKind.i64 sz, (.slice ac nc cc), Value.slice a n c] 31 (0, 0)) := by rw [hW]; exact oldH _ (oldH _ (newH w _ rfl))
  have b3 : W.heap[w.heap.size + 1]? = some (.cells #[Value.bool f, Value.int IntKind.i64 at_, (.slice ad_ nd cd)] 53 (0, 0)) := by rw [hW]; exact oldH _ (newH _ _ (by simp))
  have b4 : W.heap[w.heap.size + 1 + 1]? = some (.cells #[Value.int IntKind.i64 0, Value.slice none 0 0, Value.slice none 0 0] 31 (0, 0)) := by rw [hW]; exact newH _ _ (by simp)
  rw [← hW]
  clear hW
  have c22 : W.cell? ⟨w.heap.size, 2, none⟩ = some (.slice a n c) := cellH b2 2
  have c30 : W.cell? ⟨w.heap.size + 1, 0, none⟩ = some (.bool f) := cellH b3 0
  have c31 : W.cell? ⟨w.heap.size + 1, 1, none⟩ = some (.int .i64 at_) := cellH b3 1
  have c32 : W.cell? ⟨w.heap.size + 1, 2, none⟩ = some (.slice ad_ nd cd) := cellH b3 2
  have h1n : ∀ u ∈ [Value.bool f, Value.int .i64 at_, (.slice ad_ nd cd)], u.oneCell' = true := by
    intro u hu
    rcases List.mem_cons.1 hu with rfl | hu
    · rfl
    rcases List.mem_cons.1 hu with rfl | hu
    · rfl
    obtain rfl := List.mem_singleton.1 hu
    rfl
  have n38 : Try.f38.name ≠ "runtime.NumGoroutine" := by decide
  have hcA : ∀ A, Below (w.heap.size + 1 + 1 + 1) W A → ∀ ad, a = some ad → ∀ j u, cs[j]? = some u → A.cell? (ad.add j) = some u := by
    intro A hA ad had j u hj
    obtain ⟨q1, q2⟩ := hc ad had j u hj
    have e : (ad.add j).block = ad.block := block_add ad j
    rw [hA.cell (p := ad.add j) (by rw [e]; omega), hB0.cell (p := ad.add j) (by rw [e]; omega)]
    exact q2
  have hf2 : W.frozen? ⟨w.heap.size, 2, none⟩ = false := frzH b2 2
  have hdB : Below (w.heap.size + 1 + 1 + 1) W W.drew := (Below.refl _ W).drew
  have hdA : ∀ o, Below (w.heap.size + 1 + 1 + 1) W (W.drew.alloc o) := fun o => hdB.alloc (by simp; omega) _
  go_region_law (first
    | (refine step_call1 rfl 38 (.tmp 6) #[29] rfl _ _ Try.func38 rfl n38 (clone_any a n c cs _ hn h1c (by omega) (hcA _ (by first | exact hdB | exact hdA _)) h0) ?_
       rintro e w' ⟨v', rfl, hown, hB⟩
       refine ⟨v', rfl, ?_⟩
       have hB' : Below (w.heap.size + 1 + 1 + 1) W w' := by
         first
           | exact hdB.trans (hB.mono (by simp; omega))
           | exact (hdA _).trans (hB.mono (by simp; omega))
       have hown3 : w'.ownsRow (w.heap.size + 1 + 1 + 1) 53 3 v' n cs := World.ownsRow.mono hown (by simp; omega)
       have d30 : w'.cell? ⟨w.heap.size + 1, 0, none⟩ = some (.bool f) := (hB'.cell (p := ⟨w.heap.size + 1, 0, none⟩) (by show w.heap.size + 1 < _; omega)).trans c30
       have d31 : w'.cell? ⟨w.heap.size + 1, 1, none⟩ = some (.int .i64 at_) := (hB'.cell (p := ⟨w.heap.size + 1, 1, none⟩) (by show w.heap.size + 1 < _; omega)).trans c31
       have d32 : w'.cell? ⟨w.heap.size + 1, 2, none⟩ = some (.slice ad_ nd cd) := (hB'.cell (p := ⟨w.heap.size + 1, 2, none⟩) (by show w.heap.size + 1 < _; omega)).trans c32
       have hsz' : w.heap.size + 1 + 1 + 1 ≤ w'.heap.size := by have := hB'.size; omega)
    | (refine step_append_lies _ rfl (.tmp 7) (.tmp 9) 29 rfl (w.heap.size + 1 + 1 + 1) 53 i0 _ 3 40 Try.underlying29 hi hz0 hz1 hz2 rfl (by omega) v' n cs rfl (by first | with_reducible exact hown3 | with_reducible exact hown3.alloc _)
         _ 1 1 [.bool f, .int .i64 at_, (.slice ad_ nd cd)] rfl rfl (by first | with_reducible exact news_later hB hsz | exact news_later hB hsz | with_reducible exact World.news_of_block (cs := #[.bool f, .int .i64 at_, (.slice ad_ nd cd)]) (heap_alloc_new w' _)) h1n (by omega) (by unfold maxLen; omega) hbig (by first | exact hsz' | (simp; omega)) _ rfl ?_
       intro g cap w1 hown1 hgrow hat hlt
       have hB1 : Below (w.heap.size + 1 + 1 + 1) W w1 := by
         first
           | with_reducible exact hB'.grown hgrow hsz' (own_ge hown3)
           | exact (hB'.alloc hsz' _).grown hgrow (by simp; omega) (own_ge hown3)
       have e22 : w1.cell? ⟨w.heap.size, 2, none⟩ = some (.slice a n c) := (hB1.cell (p := ⟨w.heap.size, 2, none⟩) (by show w.heap.size < _; omega)).trans c22
       have ef2 : w1.frozen? ⟨w.heap.size, 2, none⟩ = false := (hB1.frozen (p := ⟨w.heap.size, 2, none⟩) (by show w.heap.size < _; omega)).trans hf2))
  all_goals
    obtain ⟨w2, hw2⟩ : ∃ w2, w2 = w1.setCell ⟨w.heap.size, 2, none⟩ (.slice (some ⟨g, 0, none⟩) (n + 1) cap) := ⟨_, rfl⟩
    have k20 : w2.cell? ⟨w.heap.size, 0, none⟩ = some (.int .i64 sz) := by
      rw [hw2]
      exact (World.cell?_setCell_other w1 _ _ _ (by intro h; cases h)).trans ((hB1.cell (p := ⟨w.heap.size, 0, none⟩) (by show w.heap.size < _; omega)).trans (cellH b2 0))
    have k21 : w2.cell? ⟨w.heap.size, 1, none⟩ = some (.slice ac nc cc) := by
      rw [hw2]
      exact (World.cell?_setCell_other w1 _ _ _ (by intro h; cases h)).trans ((hB1.cell (p := ⟨w.heap.size, 1, none⟩) (by show w.heap.size < _; omega)).trans (cellH b2 1))
    have k22 : w2.cell? ⟨w.heap.size, 2, none⟩ = some (.slice (some ⟨g, 0, none⟩) (n + 1) cap) := by
      rw [hw2]
      exact World.cell?_setCell_same' _ _ _ (by rw [e22]; rfl)
    have k4 : w2.heap[w.heap.size + 1 + 1]? = some (.cells #[Value.int IntKind.i64 0, Value.slice none 0 0, Value.slice none 0 0] 31 (0, 0)) := by
      rw [hw2, Below.heap_setCell _ _ _ _ (by show w.heap.size + 1 + 1 ≠ w.heap.size; omega)]
      exact (hB1.block _ (by omega)).trans b4
    have k40 : w2.cell? ⟨w.heap.size + 1 + 1, 0, none⟩ = some (.int .i64 0) := cellH k4 0
    have k41 : w2.cell? ⟨w.heap.size + 1 + 1, 1, none⟩ = some (.slice none 0 0) := cellH k4 1
    have k42 : w2.cell? ⟨w.heap.size + 1 + 1, 2, none⟩ = some (.slice none 0 0) := cellH k4 2
    have f40 : w2.frozen? ⟨w.heap.size + 1 + 1, 0, none⟩ = false := frzH k4 0
    have f41 : w2.frozen? ⟨w.heap.size + 1 + 1, 1, none⟩ = false := frzH k4 1
    have f42 : w2.frozen? ⟨w.heap.size + 1 + 1, 2, none⟩ = false := frzH k4 2
    have ko : w2.ownsRow (w.heap.size + 1 + 1 + 1) 53 3 (.slice (some ⟨g, 0, none⟩) (n + 1) cap) (n + 1) (cs ++ [Value.bool f, Value.int .i64 at_, (.slice ad_ nd cd)]) := by
      rw [hw2]
      exact ownsRow_setCell_below hown1 (by show w.heap.size < _; omega) _
    have kB : Below w.heap.size w w2 := by
      rw [hw2]
      exact (hB0.trans (hB1.mono (by omega))).setCell (p := ⟨w.heap.size, 2, none⟩) (Nat.le_refl _) _
    rw [← hw2]
    clear hw2 hB1 e22 ef2 hown1
    go_wp2
    refine bodyPost_ret (v := .agg #[.int .i64 sz, (.slice ac nc cc), .slice (some ⟨g, 0, none⟩) (n + 1) cap]) ?_ rfl ?_
    · simp [results, Try.f27, go_sem, k40, k41, k42]
    refine ⟨_, rfl, World.ownsRow.mono (base := w.heap.size + 1 + 1 + 1) ?_ (by omega), ?_⟩
    · exact ownsRow_setCell_below (ownsRow_setCell_below (ownsRow_setCell_below ko (a := ⟨w.heap.size + 1 + 1, 0, none⟩) (by show w.heap.size + 1 + 1 < _; omega) _) (a := ⟨w.heap.size + 1 + 1, 1, none⟩) (by show w.heap.size + 1 + 1 < _; omega) _) (a := ⟨w.heap.size + 1 + 1, 2, none⟩) (by show w.heap.size + 1 + 1 < _; omega) _
    · exact ((kB.setCell (p := ⟨w.heap.size + 1 + 1, 0, none⟩) (by show w.heap.size ≤ w.heap.size + 1 + 1; omega) _).setCell (p := ⟨w.heap.size + 1 + 1, 1, none⟩) (by show w.heap.size ≤ w.heap.size + 1 + 1; omega) _).setCell (p := ⟨w.heap.size + 1 + 1, 2, none⟩) (by show w.heap.size ≤ w.heap.size + 1 + 1; omega) _
end Go.Proofs.Dk
/- disk.queue as a rule; the rules of the disk's functions. -/
namespace Go.Ev
open Go Go.Proofs Go.Proofs.Dk Go.RowKit

def queueF : List AV → Option AV
  | [.agg [.lit (.int .i64 sz), .sl i1 nc c1 cells, .sl i2 m c2 queue], .agg [.lit (.bool f), .lit (.int .i64 t), .sl i3 nd c3 data]] =>
    if queue.length = m * 3 ∧ (m + 1) * 40 ≤ 140737488355328 then
      some (.agg [.lit (.int .i64 sz), .sl i1 nc c1 cells, .sl false (m + 1) none (queue ++ [.lit (.bool f), .lit (.int .i64 t), .sl i3 nd c3 data])])
    else none
  | _ => none

theorem agg3 {w : World} {Ow : Nat → Prop} {φ : Phi} {x y z : AV} {u v t : Value} (h : VR w Ow φ x u) (k : VR w Ow φ y v) (l : VR w Ow φ z t) (h1 : u.oneCell' = true) (h2 : v.oneCell' = true) (h3 : t.oneCell' = true) : VR w Ow φ (.agg [x, y, z]) (.agg #[u, v, t]) := by
  refine .agg _ _ rfl (fun j a b e e' => ?_) fun c hc => ?_
  · match j with
    | 0 => cases e; cases e'; exact h
    | 1 => cases e; cases e'; exact k
    | 2 => cases e; cases e'; exact l
    | j + 3 => cases e
  · simp at hc
    rcases hc with rfl | rfl | rfl <;> assumption
/-- A slice that a call has made. -/
theorem owns_VR {w w' : World} {Ow : Nat → Prop} (hOw : ∀ b, Ow b → b < w.heap.size) {e : TypeId} {size n : Nat} {v : Value} {cs : List Value} {xs : List AV} (hown : w'.ownsRow w.heap.size e size v (n + 1) cs) (hlen : cs.length = xs.length)
    (hx : ∀ (j : Nat) (x : AV) (u : Value), xs[j]? = some x → cs[j]? = some u → VR w' Ow noPhi x u) (ho : ∀ u ∈ cs, u.oneCell' = true) : VR w' Ow noPhi (.sl false (n + 1) none xs) v := by
  obtain ⟨h1, h2⟩ := hown
  rcases h2 with ⟨_, h0⟩ | ⟨g, cap, cur, rfl, hg, hcur, hcap, hmax, hsz, htake⟩
  · omega
  · refine .sl false (n + 1) cap none xs _ cs rfl hcap (fun k e => by cases e) hlen hx ho fun _ => ⟨g, 0, rfl, (Array.getElem?_eq_some_iff.1 hcur).1, fun h => by have := hOw g h; omega, fun j u hj => ?_⟩
    rw [Nat.zero_add, cellH hcur, ← hj, ← htake]
    have hlt : j < (n + 1) * size := by rw [← h1]; exact (List.getElem?_eq_some_iff.1 hj).1
    rw [List.getElem?_take_of_lt hlt, Array.getElem?_toList]

def xQ : Ext := fun f => if f = 14 then some getF else if f = 27 then some queueF else none
set_option maxRecDepth 100000 in
theorem extOk_Q : ExtOk Try.prog xQ := by
  intro f e he
  by_cases hf : f = 14
  · exact extOk_D f e (by simpa [xQ, xD, hf] using he)
  by_cases hf2 : f = 27
  · subst hf2
    obtain rfl : queueF = e := by simpa [xQ] using he
    refine ⟨⟨_, _, Try.func27, rfl, by decide⟩, fun args v hv Ow w vs hOw ha => ?_⟩
    unfold queueF at hv
    split at hv
    · rename_i sz i1 nc c1 cells i2 m c2 queue f t i3 nd c3 data
      split at hv
      · rename_i hcond
        obtain ⟨hlen, hbound⟩ := hcond
        cases hv
        obtain ⟨u1, u2, rfl, a1, a2⟩ := vs2 ha
        obtain ⟨v1, v2, v3, rfl, b1, b2, b3⟩ := ag3 a1
        obtain ⟨y1, y2, y3, rfl, d1, d2, d3⟩ := ag3 a2
        cases b1
        cases d1
        cases d2
        have b2' := b2
        have d3' := d3
        cases b2 with
        | sl _ _ cc _ _ ac ccs hnil hnc hcap hl hx ho hm =>
        cases d3 with
        | sl _ _ cd _ _ ad dcs dnil dnc dcap dl dx do_ dm =>
        cases b3 with
        | sl _ _ cq _ _ aq cs qnil qnc qcap ql qx qo qm =>
        have hq : ∀ a0, aq = some a0 → cs = [] ∨ (∃ b o, a0 = ⟨b, o, none⟩ ∧ b < w.heap.size ∧ ∀ (j : Nat) (v : Value), cs[j]? = some v → w.cell? ⟨b, o + j, none⟩ = some v) := by
          intro a0 h0
          by_cases hne : queue = []
          · left; subst hne; exact List.eq_nil_of_length_eq_zero (by simpa using ql)
          · right
            obtain ⟨b, o, h3, h4, _, h5⟩ := qm hne
            rw [h0] at h3
            cases h3
            exact ⟨b, o, rfl, h4, h5⟩
        have fin : ∀ w' v', w'.ownsRow w.heap.size 53 3 v' (m + 1) (cs ++ [Value.bool f, Value.int .i64 t, Value.slice ad nd cd]) → Below w.heap.size w w' →
            VR w' Ow noPhi (.agg [.lit (.int .i64 sz), .sl i1 nc c1 cells, .sl false (m + 1) none (queue ++ [.lit (.bool f), .lit (.int .i64 t), .sl i3 nd c3 data])]) (.agg #[.int .i64 sz, .slice ac nc cc, v']) := by
          intro w' v' ho' hB
          have hv1 : v'.oneCell' = true := by rcases ho'.2 with ⟨rfl, _⟩ | ⟨g, cap, cur, rfl, _⟩ <;> rfl
          refine agg3 (.lit _) (bel_VR b2' hB) (owns_VR hOw ho' (by simp [ql]) (fun j x u e e' => ?_) fun u hu => ?_) rfl rfl hv1
          · by_cases hj : j < queue.length
            · rw [List.getElem?_append_left hj] at e
              rw [List.getElem?_append_left (by omega)] at e'
              exact bel_VR (qx j x u e e') hB
            · rw [List.getElem?_append_right (by omega)] at e
              rw [List.getElem?_append_right (by omega), ql] at e'
              generalize j - queue.length = k at e e'
              match k with
              | 0 => cases e; cases e'; exact .lit _
              | 1 => cases e; cases e'; exact .lit _
              | 2 => cases e; cases e'; exact bel_VR d3' hB
              | k + 3 => cases e
          · rcases List.mem_append.1 hu with h | h
            · exact qo u h
            · simp at h
              rcases h with rfl | rfl | rfl <;> rfl
        refine (queue_calls sz ac nc cc aq m cq f t ad nd cd cs w (by rw [ql, hlen]) qo hbound (fun a0 h0 => ?_) (fun h0 => ?_)).mono fun e w' hp => ?_
        · intro j u hj
          rcases hq a0 h0 with h | ⟨b, o, rfl, h3, h4⟩
          · rw [h] at hj; cases hj
          · exact ⟨h3, by rw [Addr.add_lit]; exact h4 j u hj⟩
        · subst h0
          have : queue = [] := by
            apply Classical.byContradiction
            intro hne
            obtain ⟨b, o, h3, _⟩ := qm hne
            cases h3
          rw [this] at hlen
          simp at hlen
          omega
        · obtain ⟨v', rfl, h1, h2⟩ := hp
          exact ⟨_, rfl, h2, fin w' v' h1 h2⟩
      · cases hv
    · cases hv
  · simp [xQ, hf, hf2] at he
end Go.Ev
