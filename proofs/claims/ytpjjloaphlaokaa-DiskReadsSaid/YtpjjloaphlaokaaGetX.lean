/- disk.Get as a rule. -/
import Derived.Test.YtpjjloaphlaokaaEwB
import Derived.Test.YtpjjloaphlaokaaGetC
set_option linter.unusedVariables false
set_option linter.unusedSimpArgs false
namespace Go.Ev
open Go Go.Proofs Go.Proofs.Dk Go.RowKit

abbrev T3 := Bool × Int × AV
def trip : List AV → Option (List T3)
  | [] => some []
  | .lit (.bool f) :: .lit (.int .i64 n) :: .sl i k c x :: r => (trip r).map ((f, n, AV.sl i k c x) :: ·)
  | _ => none
def lastHit (t : Int) : List T3 → Option AV
  | [] => none
  | x :: r => match lastHit t r with
    | some d => some d
    | none => if !x.1 && decide (x.2.1 = t) then some x.2.2 else none
def isSl : AV → Bool
  | .sl _ _ _ _ => true
  | _ => false
def getR (t : Int) (cells : List AV) (ts : List T3) : AV := match lastHit t ts with
  | some d => d
  | none => cells.getD t.toNat .und
def getF : List AV → Option AV
  | [.agg [.lit (.int .i64 _), .sl _ n _ cells, .sl _ m _ queue], .lit (.int .i64 t)] =>
    match trip queue with
    | some ts => if n = cells.length ∧ ts.length = m ∧ m * 40 ≤ 140737488351232 then
        if 0 ≤ t ∧ t < n then
          if isSl (cells.getD t.toNat .und) then some (.tup [getR t cells ts, .lit (.int .i64 0)]) else none
        else some (.tup [.sl true 0 (some 0) [], .lit (.int .i64 230)])
      else none
    | none => none
  | _ => none

def dT : T3 := (false, 0, .und)
def hitT (t : Int) (x : T3) : Bool := !x.1 && decide (x.2.1 = t)
theorem trip_spec : ∀ (xs : List AV) (ts : List T3), trip xs = some ts → xs.length = ts.length * 3 ∧ ∀ j, j < ts.length →
    xs[j * 3]? = some (.lit (.bool (ts.getD j dT).1)) ∧ xs[j * 3 + 1]? = some (.lit (.int .i64 (ts.getD j dT).2.1)) ∧ xs[j * 3 + 2]? = some (ts.getD j dT).2.2 ∧ isSl (ts.getD j dT).2.2 = true := by
  intro xs
  fun_induction trip xs with
  | case1 => intro ts e; cases e; exact ⟨rfl, fun j h => absurd h (by simp)⟩
  | case2 f n i k c x r ih =>
    intro ts e
    obtain ⟨ts', e1, rfl⟩ := Option.map_eq_some_iff.1 e
    obtain ⟨h1, h2⟩ := ih ts' e1
    refine ⟨by simp [h1]; omega, fun j hj => ?_⟩
    cases j with
    | zero => simp [isSl]
    | succ j =>
      have := h2 j (by simpa using hj)
      have e3 : (j + 1) * 3 = j * 3 + 1 + 1 + 1 := by omega
      simp only [e3, List.getElem?_cons_succ, List.getD_cons_succ]
      exact this
  | case3 => intro ts e; cases e
theorem last_some {t : Int} : ∀ {ts : List T3} {d : AV}, lastHit t ts = some d → ∃ i, i < ts.length ∧ hitT t (ts.getD i dT) = true ∧ d = (ts.getD i dT).2.2 ∧ ∀ j, i < j → j < ts.length → hitT t (ts.getD j dT) = false
  | [], d, e => by cases e
  | x :: r, d, e => by
    simp only [lastHit] at e
    cases h : lastHit t r with
    | some d' =>
      rw [h] at e
      cases e
      obtain ⟨i, h1, h2, h3, h4⟩ := last_some h
      refine ⟨i + 1, by simpa using h1, by simpa using h2, by simpa using h3, fun j hj hl => ?_⟩
      cases j with
      | zero => omega
      | succ j => simpa using h4 j (by omega) (by simpa using hl)
    | none =>
      rw [h] at e
      have hn := last_none h
      by_cases hh : (!x.1 && decide (x.2.1 = t)) = true
      · dsimp only at e
        rw [if_pos hh] at e
        cases e
        refine ⟨0, by simp, by simpa [hitT] using hh, by simp, fun j hj hl => ?_⟩
        cases j with
        | zero => omega
        | succ j => simpa using hn j (by simpa using hl)
      · dsimp only at e
        rw [if_neg hh] at e
        cases e
where last_none {t : Int} : ∀ {ts : List T3}, lastHit t ts = none → ∀ j, j < ts.length → hitT t (ts.getD j dT) = false
  | [], _, j, h => absurd h (by simp)
  | x :: r, e, j, hj => by
    simp only [lastHit] at e
    cases h : lastHit t r with
    | some d' => rw [h] at e; cases e
    | none =>
      rw [h] at e
      cases j with
      | zero =>
        by_cases hh : (!x.1 && decide (x.2.1 = t)) = true
        · dsimp only at e
          rw [if_pos hh] at e
          cases e
        · simpa [hitT] using hh
      | succ j => simpa using last_none h j (by simpa using hj)

/-- A queue's writes, as the model holds them. -/
theorem writes_of {w : World} {Ow : Nat → Prop} {φ : Phi} (hOw : ∀ b, Ow b → b < w.heap.size) {i : Bool} {m : Nat} {cap : Option Nat} {xs : List AV} {u : Value} (h : VR w Ow φ (.sl i m cap xs) u) {ts : List T3} (ht : trip xs = some ts) (hm : ts.length = m) :
    ∃ (a : Option Addr) (c : Nat) (qs : List Wr), u = .slice a m c ∧ qs.length = m ∧ Writes w.heap.size w (.slice a m c) qs ∧
      ∀ j, j < m → (qs.getD j default).f = (ts.getD j dT).1 ∧ (qs.getD j default).n = (ts.getD j dT).2.1 ∧ VR w Ow noPhi (ts.getD j dT).2.2 (qs.getD j default).d := by
  cases h with
  | sl _ n c _ _ a cs hnil hn hcap hlen hx ho hmm =>
  obtain ⟨hl, hs⟩ := trip_spec xs ts ht
  have each : ∀ j, j < m → ∃ q : Wr, cs[j * 3]? = some (.bool q.f) ∧ cs[j * 3 + 1]? = some (.int .i64 q.n) ∧ cs[j * 3 + 2]? = some q.d ∧ q.f = (ts.getD j dT).1 ∧ q.n = (ts.getD j dT).2.1 ∧ VR w Ow noPhi (ts.getD j dT).2.2 q.d := by
    intro j hj
    obtain ⟨e1, e2, e3, e4⟩ := hs j (by omega)
    have g1 : cs[j * 3]? = some (cs[j * 3]'(by omega)) := List.getElem?_eq_getElem _
    have g2 : cs[j * 3 + 1]? = some (cs[j * 3 + 1]'(by omega)) := List.getElem?_eq_getElem _
    have g3 : cs[j * 3 + 2]? = some (cs[j * 3 + 2]'(by omega)) := List.getElem?_eq_getElem _
    have v1 := hx _ _ _ e1 g1
    have v2 := hx _ _ _ e2 g2
    have v3 := hx _ _ _ e3 g3
    generalize cs[j * 3]'(by omega) = y1 at *
    generalize cs[j * 3 + 1]'(by omega) = y2 at *
    generalize cs[j * 3 + 2]'(by omega) = y3 at *
    cases v1
    cases v2
    generalize (ts.getD j dT).2.2 = z at *
    cases z <;> first | cases e4 | skip
    cases v3 with
    | sl _ _ c3 _ _ a3 cs3 h1 h2 h3 h4 h5 h6 h7 => exact ⟨⟨_, _, a3, _, c3⟩, g1, g2, g3, rfl, rfl, .sl _ _ c3 _ _ a3 cs3 h1 h2 h3 h4 h5 h6 h7⟩
  let q : Nat → Wr := fun j => if hj : j < m then Classical.choose (each j hj) else default
  have hq : ∀ j, j < m → ((List.range m).map q).getD j default = q j := by
    intro j hj
    simp [List.getD_eq_getElem?_getD, hj]
  have hqs : ∀ j (hj : j < m), q j = Classical.choose (each j hj) := fun j hj => by simp [q, hj]
  refine ⟨a, c, (List.range m).map q, rfl, by simp, ?_, fun j hj => ?_⟩
  · by_cases h0 : m = 0
    · subst h0
      exact .inl ⟨by simp, a, c, rfl⟩
    · have hne : xs ≠ [] := by
        intro e
        rw [e] at hl
        simp at hl
        omega
      obtain ⟨b, o, rfl, hb, hnb, hc⟩ := hmm hne
      refine .inr ⟨b, o, c, by simp, hb, fun j hj => ?_⟩
      have hj' : j < m := by simpa using hj
      rw [hq j hj', hqs j hj']
      obtain ⟨p1, p2, p3, _⟩ := Classical.choose_spec (each j hj')
      exact ⟨hc _ _ p1, by rw [Nat.add_assoc]; exact hc _ _ p2, by rw [Nat.add_assoc]; exact hc _ _ p3⟩
  · rw [hq j hj, hqs j hj]
    exact (Classical.choose_spec (each j hj)).2.2.2

theorem vs2 {w : World} {Ow : Nat → Prop} {φ : Phi} {x y : AV} {vs : Array Value} (h : ArgsR w Ow φ [x, y] vs) : ∃ u v, vs = #[u, v] ∧ VR w Ow φ x u ∧ VR w Ow φ y v := by
  obtain ⟨h1, h2⟩ := h
  obtain ⟨l⟩ := vs
  match l, h1 with
  | [u, v], _ => exact ⟨u, v, rfl, h2 0 x u rfl rfl, h2 1 y v rfl rfl⟩
theorem ag3 {w : World} {Ow : Nat → Prop} {φ : Phi} {x y z : AV} {c : Value} (h : VR w Ow φ (.agg [x, y, z]) c) : ∃ u v t, c = .agg #[u, v, t] ∧ VR w Ow φ x u ∧ VR w Ow φ y v ∧ VR w Ow φ z t := by
  cases h with
  | agg _ cs hlen hx ho =>
  obtain ⟨l⟩ := cs
  match l, hlen with
  | [u, v, t], _ => exact ⟨u, v, t, rfl, hx 0 x u rfl rfl, hx 1 y v rfl rfl, hx 2 z t rfl rfl⟩
theorem tup2 {w : World} {Ow : Nat → Prop} {φ : Phi} {x y : AV} {u v : Value} (h : VR w Ow φ x u) (k : VR w Ow φ y v) : VR w Ow φ (.tup [x, y]) (.tuple #[u, v]) := by
  refine .tup _ _ rfl fun j a b e e' => ?_
  match j with
  | 0 => cases e; cases e'; exact h
  | 1 => cases e; cases e'; exact k
  | j + 2 => cases e
theorem bel_VR {w w' : World} {Ow : Nat → Prop} {x : AV} {v : Value} (h : VR w Ow noPhi x v) (hb : Below w.heap.size w w') : VR w' Ow noPhi x v :=
  h.step (fun _ _ e => e) hb.size (fun b h1 _ => hb.block b h1) (fun _ _ e => e) (Below.shapes hb)
theorem vr_none {w : World} {Ow : Nat → Prop} : VR w Ow noPhi (.sl true 0 (some 0) []) (.slice none 0 0) :=
  .sl _ _ _ _ _ none [] rfl (Nat.le_refl _) (fun k e => by cases e; rfl) rfl (fun j x v e => by cases e) (fun v e => by cases e) (fun e => absurd rfl e)

def xD : Ext := fun f => if f = 14 then some getF else none
set_option maxRecDepth 100000 in
theorem extOk_D : ExtOk Try.prog xD := by
  intro f e he
  by_cases hf : f = 14
  · subst hf
    obtain rfl : getF = e := by simpa [xD] using he
    refine ⟨⟨_, _, Try.func14, rfl, by decide⟩, fun args v hv Ow w vs hOw ha => ?_⟩
    unfold getF at hv
    split at hv
    · rename_i sz i1 n c1 cells i2 m c2 queue t
      split at hv
      · rename_i ts hts
        split at hv
        · rename_i hcond
          obtain ⟨hn, hm, hbound⟩ := hcond
          obtain ⟨u1, u2, rfl, a1, a2⟩ := vs2 ha
          obtain ⟨v1, v2, v3, rfl, b1, b2, b3⟩ := ag3 a1
          cases a2
          cases b1
          obtain ⟨aq, cq, qs, rfl, hq1, hq2, hq3⟩ := writes_of hOw b3 hts hm
          split at hv
          · rename_i hin
            obtain ⟨hin0, hin1⟩ := hin
            obtain ⟨k, rfl⟩ : ∃ k : Nat, t = k := ⟨t.toNat, by omega⟩
            have hk : k < n := by omega
            split at hv
            · rename_i hsl
              cases hv
              cases b2 with
              | sl _ _ cc _ _ ac cs hnil hnc hcap hlen hx ho hmm =>
              obtain ⟨bc, oc, rfl, hbc, hnb, hcs⟩ := hmm (by intro e; subst e; simp at hn; omega)
              have g0 : cells[k]? = some (cells[k]'(by omega)) := List.getElem?_eq_getElem _
              have g1 : cs[k]? = some (cs[k]'(by omega)) := List.getElem?_eq_getElem _
              have g2 := hx _ _ _ g0 g1
              have g3 : cells.getD k .und = cells[k]'(by omega) := by simp [List.getD_eq_getElem?_getD, g0]
              have hcell := hcs _ _ g1
              simp only [Int.toNat_natCast] at hsl
              rw [g3] at hsl
              have hy : ∃ ra rl rc, cs[k]'(by omega) = .slice ra rl rc := by
                generalize cells[k]'(by omega) = z at *
                cases z <;> first | cases hsl | skip
                generalize cs[k]'(by omega) = y at *
                cases g2
                exact ⟨_, _, _, rfl⟩
              obtain ⟨ra, rl, rc, hy⟩ := hy
              rw [hy] at hcell g2
              refine (callsIn_wide.1 (get_in Fence.wide 3 trivial trivial trivial trivial rfl (Nat.le_refl _) sz bc oc n cc aq m cq k w hk qs (by omega) hq2 hbc ra rl rc hcell)).mono fun e w' hp => ?_
              obtain ⟨res, rfl, hb, hf⟩ := hp
              refine ⟨_, rfl, hb, tup2 ?_ (.lit _)⟩
              refine bel_VR ?_ hb
              have hh : ∀ j, j < m → hit (k : Int) (qs.getD j default) = hitT (k : Int) (ts.getD j dT) := fun j hj => by
                simp only [hit, hitT, (hq3 j hj).1, (hq3 j hj).2.1]
              unfold getR
              cases hl : lastHit (k : Int) ts with
              | some d =>
                obtain ⟨i, q1, q2, rfl, q4⟩ := last_some hl
                rcases hf with ⟨j, x, p1, rfl, p3, p4, rfl⟩ | ⟨p1, _⟩
                · simp only [bk] at p3 p4 ⊢
                  rw [hq1] at p1 p3 p4 ⊢
                  have : m - 1 - j = i := by
                    rcases Nat.lt_trichotomy (m - 1 - j) i with h | h | h
                    · have := p3 (m - 1 - i) (by omega)
                      rw [show m - 1 - (m - 1 - i) = i by omega, hh i (by omega), q2] at this
                      cases this
                    · exact h
                    · have := q4 (m - 1 - j) h (by omega)
                      rw [← hh _ (by omega), p4] at this
                      cases this
                  rw [this]
                  exact (hq3 i (by omega)).2.2
                · have := p1 (m - 1 - i) (by omega)
                  simp only [bk] at this
                  rw [hq1, show m - 1 - (m - 1 - i) = i by omega, hh i (by omega), q2] at this
                  cases this
              | none =>
                have hno := last_some.last_none hl
                rcases hf with ⟨j, x, p1, rfl, p3, p4, rfl⟩ | ⟨_, rfl⟩
                · simp only [bk] at p4
                  rw [hq1] at p1 p4
                  rw [hh _ (by omega), hno _ (by omega)] at p4
                  cases p4
                · simp only [Int.toNat_natCast]
                  rw [g3]
                  exact g2
            · cases hv
          · rename_i hout
            cases hv
            cases b2 with
            | sl _ _ cc _ _ ac cs hnil hnc hcap hlen hx ho hmm =>
            refine (callsIn_wide.1 (get_no_in Fence.wide 3 trivial trivial rfl (Nat.le_refl _) sz ac n cc aq m cq t w (by omega))).mono fun e w' hp => ?_
            obtain ⟨rfl, hb⟩ := hp
            exact ⟨_, rfl, hb, tup2 vr_none (.lit _)⟩
        · cases hv
      · cases hv
    · cases hv
  · simp [xD, hf] at he
end Go.Ev
