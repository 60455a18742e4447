/- disk.queue as a rule; the rules of the disk's functions. -/
import Derived.Test.YtpjjloaphlaokaaGetX
import Derived.Test.YtpjjloaphlaokaaQueA
set_option linter.unusedVariables false
set_option linter.unusedSimpArgs false
namespace Go.Ev
open Go Go.Proofs Go.Proofs.Dk Go.RowKit

def queueF : List AV → Option AV
  | [.agg [.lit (.int .i64 sz), .sl i1 nc c1 cells, .sl i2 m c2 queue], .agg [.lit (.bool f), .lit (.int .i64 t), .sl i3 nd c3 data]] =>
    if queue.length = m * 3 ∧ (m + 1) * 40 ≤ 140737488355328 then
      some (.agg [.lit (.int .i64 sz), .sl i1 nc c1 cells, .sl false (m + 1) none (queue ++ [.lit (.bool f), .lit (.int .i64 t), .sl i3 nd c3 data])])
    else none
  | _ => none

theorem agg3 {w : World} {Ow : Nat → Prop} {φ : Phi} {x y z : AV} {u v t : Value} (h : VR w Ow φ x u) (k : VR w Ow φ y v) (l : VR w Ow φ z t) (h1 : u.oneCell' = true) (h2 : v.oneCell' = true) (h3 : t.oneCell' = true) : VR w Ow φ (.agg [x, y, z]) (.agg #[u, v, t]) := by
  refine .agg _ _ rfl (fun j a b e e' => ?_) fun c hc => ?_
  · match j with
    | 0 => cases e; cases e'; exact h
    | 1 => cases e; cases e'; exact k
    | 2 => cases e; cases e'; exact l
    | j + 3 => cases e
  · simp at hc
    rcases hc with rfl | rfl | rfl <;> assumption
/-- A slice that a call has made. -/
theorem owns_VR {w w' : World} {Ow : Nat → Prop} (hOw : ∀ b, Ow b → b < w.heap.size) {e : TypeId} {size n : Nat} {v : Value} {cs : List Value} {xs : List AV} (hown : w'.ownsRow w.heap.size e size v (n + 1) cs) (hlen : cs.length = xs.length)
    (hx : ∀ (j : Nat) (x : AV) (u : Value), xs[j]? = some x → cs[j]? = some u → VR w' Ow noPhi x u) (ho : ∀ u ∈ cs, u.oneCell' = true) : VR w' Ow noPhi (.sl false (n + 1) none xs) v := by
  obtain ⟨h1, h2⟩ := hown
  rcases h2 with ⟨_, h0⟩ | ⟨g, cap, cur, rfl, hg, hcur, hcap, hmax, hsz, htake⟩
  · omega
  · refine .sl false (n + 1) cap none xs _ cs rfl hcap (fun k e => by cases e) hlen hx ho fun _ => ⟨g, 0, rfl, (Array.getElem?_eq_some_iff.1 hcur).1, fun h => by have := hOw g h; omega, fun j u hj => ?_⟩
    rw [Nat.zero_add, cellH hcur, ← hj, ← htake]
    have hlt : j < (n + 1) * size := by rw [← h1]; exact (List.getElem?_eq_some_iff.1 hj).1
    rw [List.getElem?_take_of_lt hlt, Array.getElem?_toList]

def xQ : Ext := fun f => if f = 14 then some getF else if f = 27 then some queueF else none
set_option maxRecDepth 100000 in
theorem extOk_Q : ExtOk Try.prog xQ := by
  intro f e he
  by_cases hf : f = 14
  · exact extOk_D f e (by simpa [xQ, xD, hf] using he)
  by_cases hf2 : f = 27
  · subst hf2
    obtain rfl : queueF = e := by simpa [xQ] using he
    refine ⟨⟨_, _, Try.func27, rfl, by decide⟩, fun args v hv Ow w vs hOw ha => ?_⟩
    unfold queueF at hv
    split at hv
    · rename_i sz i1 nc c1 cells i2 m c2 queue f t i3 nd c3 data
      split at hv
      · rename_i hcond
        obtain ⟨hlen, hbound⟩ := hcond
        cases hv
        obtain ⟨u1, u2, rfl, a1, a2⟩ := vs2 ha
        obtain ⟨v1, v2, v3, rfl, b1, b2, b3⟩ := ag3 a1
        obtain ⟨y1, y2, y3, rfl, d1, d2, d3⟩ := ag3 a2
        cases b1
        cases d1
        cases d2
        have b2' := b2
        have d3' := d3
        cases b2 with
        | sl _ _ cc _ _ ac ccs hnil hnc hcap hl hx ho hm =>
        cases d3 with
        | sl _ _ cd _ _ ad dcs dnil dnc dcap dl dx do_ dm =>
        cases b3 with
        | sl _ _ cq _ _ aq cs qnil qnc qcap ql qx qo qm =>
        have hq : ∀ a0, aq = some a0 → cs = [] ∨ (∃ b o, a0 = ⟨b, o, none⟩ ∧ b < w.heap.size ∧ ∀ (j : Nat) (v : Value), cs[j]? = some v → w.cell? ⟨b, o + j, none⟩ = some v) := by
          intro a0 h0
          by_cases hne : queue = []
          · left; subst hne; exact List.eq_nil_of_length_eq_zero (by simpa using ql)
          · right
            obtain ⟨b, o, h3, h4, _, h5⟩ := qm hne
            rw [h0] at h3
            cases h3
            exact ⟨b, o, rfl, h4, h5⟩
        have fin : ∀ w' v', w'.ownsRow w.heap.size 53 3 v' (m + 1) (cs ++ [Value.bool f, Value.int .i64 t, Value.slice ad nd cd]) → Below w.heap.size w w' →
            VR w' Ow noPhi (.agg [.lit (.int .i64 sz), .sl i1 nc c1 cells, .sl false (m + 1) none (queue ++ [.lit (.bool f), .lit (.int .i64 t), .sl i3 nd c3 data])]) (.agg #[.int .i64 sz, .slice ac nc cc, v']) := by
          intro w' v' ho' hB
          have hv1 : v'.oneCell' = true := by rcases ho'.2 with ⟨rfl, _⟩ | ⟨g, cap, cur, rfl, _⟩ <;> rfl
          refine agg3 (.lit _) (bel_VR b2' hB) (owns_VR hOw ho' (by simp [ql]) (fun j x u e e' => ?_) fun u hu => ?_) rfl rfl hv1
          · by_cases hj : j < queue.length
            · rw [List.getElem?_append_left hj] at e
              rw [List.getElem?_append_left (by omega)] at e'
              exact bel_VR (qx j x u e e') hB
            · rw [List.getElem?_append_right (by omega)] at e
              rw [List.getElem?_append_right (by omega), ql] at e'
              generalize j - queue.length = k at e e'
              match k with
              | 0 => cases e; cases e'; exact .lit _
              | 1 => cases e; cases e'; exact .lit _
              | 2 => cases e; cases e'; exact bel_VR d3' hB
              | k + 3 => cases e
          · rcases List.mem_append.1 hu with h | h
            · exact qo u h
            · simp at h
              rcases h with rfl | rfl | rfl <;> rfl
        refine (queue_calls sz ac nc cc aq m cq f t ad nd cd cs w (by rw [ql, hlen]) qo hbound (fun a0 h0 => ?_) (fun h0 => ?_)).mono fun e w' hp => ?_
        · intro j u hj
          rcases hq a0 h0 with h | ⟨b, o, rfl, h3, h4⟩
          · rw [h] at hj; cases hj
          · exact ⟨h3, by rw [Addr.add_lit]; exact h4 j u hj⟩
        · subst h0
          have : queue = [] := by
            apply Classical.byContradiction
            intro hne
            obtain ⟨b, o, h3, _⟩ := qm hne
            cases h3
          rw [this] at hlen
          simp at hlen
          omega
        · obtain ⟨v', rfl, h1, h2⟩ := hp
          exact ⟨_, rfl, h2, fin w' v' h1 h2⟩
      · cases hv
    · cases hv
  · simp [xQ, hf, hf2] at he
end Go.Ev
