/- Freezing; one call. -/
import Derived.Test.YtpjjloaphlaokaaEvO
set_option linter.unusedVariables false
set_option linter.unusedSimpArgs false
set_option linter.unnecessarySimpa false
namespace Go.Ev
open Go
section
variable {P : Program}

theorem mapM_mem {α β : Type} {f : α → Option β} {l : List α} {r : List β} (h : l.mapM f = some r) (j : Nat) (y : β) (hy : r[j]? = some y) : ∃ x, l[j]? = some x ∧ f x = some y := by
  obtain ⟨h1, h2⟩ := mapM_some h
  have hj : j < l.length := by rw [← h1]; exact (List.getElem?_eq_some_iff.1 hy).1
  exact ⟨l[j], List.getElem?_eq_getElem hj, h2 j _ y (List.getElem?_eq_getElem hj) hy⟩

theorem fz_VR {B B' : Nat → Prop} {h : Heap} {φ : Phi} {w : World} {g : Look} (hr : HR B h φ w) (hg : ∀ o cs, g o = some cs → look h o = some cs) (hB : ∀ b, B' b → Own B h φ b) :
    ∀ (n : Nat) (x y : AV) (v : Value), ((∃ m, x.noRef m = true) ∨ ∀ b, Live h φ b → ¬ B' b) → VR w (Own B h φ) φ x v → fz g n x = some y → VR w B' noPhi y v
  | 0, x, y, v, _, _, e => by simp [fz] at e
  | n + 1, x, y, v, hL, hv, e => by
    have sub : ∀ (xs : List AV), ((∃ m, (xs.all (AV.noRef m)) = true) ∨ ∀ b, Live h φ b → ¬ B' b) → ∀ (ys : List AV), xs.mapM (fz g n) = some ys → ∀ (cs : List Value), (∀ (j : Nat) (x : AV) (v : Value), xs[j]? = some x → cs[j]? = some v → VR w (Own B h φ) φ x v) →
        ys.length = xs.length ∧ ∀ (j : Nat) (y : AV) (v : Value), ys[j]? = some y → cs[j]? = some v → VR w B' noPhi y v := by
      intro xs hxs ys hys cs hc
      refine ⟨(mapM_some hys).1, fun j y v e1 e2 => ?_⟩
      obtain ⟨x, h1, h2⟩ := mapM_mem hys j y e1
      refine fz_VR hr hg hB n x y v ?_ (hc j x v h1 e2) h2
      rcases hxs with ⟨m, hm⟩ | hxs
      · exact .inl ⟨m, List.all_eq_true.1 hm x (List.mem_of_getElem? h1)⟩
      · exact .inr hxs
    have one : ∀ {c : AV → AV} {xs : List AV}, ((∃ m, x.noRef m = true) → ∃ m, xs.all (AV.noRef m) = true) → ((∃ m, (xs.all (AV.noRef m)) = true) ∨ ∀ b, Live h φ b → ¬ B' b) := by
      intro c xs hm
      exact hL.imp hm id
    cases hv with
    | und v => simp only [fz, Option.some.injEq] at e; subst e; exact .und v
    | lit v => simp only [fz, Option.some.injEq] at e; subst e; exact .lit v
    | sl isNil m c cap xs a cs hnil hn hcap hlen hx ho hm =>
      simp only [fz, Option.some.injEq] at e
      subst e
      exact (VR.sl (φ := noPhi) isNil m c cap xs a cs hnil hn hcap hlen hx ho hm).own hB
    | fptr xs cs b o hlen hx ho hm =>
      simp only [fz, Option.some.injEq] at e
      subst e
      exact (VR.fptr (φ := noPhi) xs cs b o hlen hx ho hm).own hB
    | ptr o off b base hφ => simp [fz] at e
    | ref o off m sz c b base cap a hφ ha hn hcap hrr =>
      have hL' : ∀ b, Live h φ b → ¬ B' b := hL.resolve_left (by rintro ⟨m, hm⟩; cases m <;> simp [AV.noRef] at hm)
      simp only [fz] at e
      split at e
      · rename_i ys hys
        simp only [Option.map_eq_some_iff] at e
        obtain ⟨zs, hzs, rfl⟩ := e
        obtain ⟨b', o', he', hl, cs, hc, hmem⟩ := rdM_VR hr hg (.ptr o off b base hφ) hys
        simp only [Value.pointer.injEq, Option.some.injEq, Addr.mk.injEq, and_true] at he'
        obtain ⟨rfl, rfl⟩ := he'
        obtain ⟨h1, h2⟩ := sub ys (.inr hL') zs hzs cs hc.2.1
        refine .sl false m c cap zs (some a) cs rfl hn hcap (by rw [h1]; exact hc.1) h2 hc.2.2 fun hne => ?_
        have hpos : 0 < m * sz := by
          rw [← hl, ← h1]
          exact List.length_pos_iff.2 hne
        have hc0 : c ≠ 0 := by
          intro h0
          have : m = 0 := by omega
          rw [this] at hpos
          simp at hpos
        have hlook : ∃ cs', look h o = some cs' := by
          simp only [rdM] at hys
          split at hys
          · rename_i cs' hcs'
            exact ⟨cs', hg o cs' hcs'⟩
          · cases hys
        obtain ⟨cs', hcs'⟩ := hlook
        obtain ⟨b1, base1, arr, T, fz1, e1, e2, e3, _⟩ := hr.live o cs' hcs'
        rw [hφ] at e1
        cases e1
        exact ⟨b, base + off, by rw [ha hc0], (Array.getElem?_eq_some_iff.1 e2).1, hL' b ⟨o, cs', base, hcs', hφ⟩, hmem⟩
      · cases e
    | fn f xs cs hlen hx =>
      simp only [fz, Option.map_eq_some_iff] at e
      obtain ⟨ys, hys, rfl⟩ := e
      obtain ⟨h1, h2⟩ := sub xs (hL.imp (by rintro ⟨m, hm⟩; cases m with | zero => simp [AV.noRef] at hm | succ m => exact ⟨m, by simpa [AV.noRef] using hm⟩) id) ys hys cs.toList (fun j x v e1 e2 => hx j x v e1 (by simpa using e2))
      exact .fn f ys cs (by rw [h1]; exact hlen) fun j y v e1 e2 => h2 j y v e1 (by simpa using e2)
    | iface t x v hx =>
      simp only [fz, Option.map_eq_some_iff] at e
      obtain ⟨y', hy', rfl⟩ := e
      exact .iface t y' v (fz_VR hr hg hB n x y' v (hL.imp (by rintro ⟨m, hm⟩; cases m with | zero => simp [AV.noRef] at hm | succ m => exact ⟨m, by simpa [AV.noRef] using hm⟩) id) hx hy')
    | agg xs cs hlen hx ho =>
      simp only [fz, Option.map_eq_some_iff] at e
      obtain ⟨ys, hys, rfl⟩ := e
      obtain ⟨h1, h2⟩ := sub xs (hL.imp (by rintro ⟨m, hm⟩; cases m with | zero => simp [AV.noRef] at hm | succ m => exact ⟨m, by simpa [AV.noRef] using hm⟩) id) ys hys cs.toList (fun j x v e1 e2 => hx j x v e1 (by simpa using e2))
      exact .agg ys cs (by rw [h1]; exact hlen) (fun j y v e1 e2 => h2 j y v e1 (by simpa using e2)) ho
    | tup xs cs hlen hx =>
      simp only [fz, Option.map_eq_some_iff] at e
      obtain ⟨ys, hys, rfl⟩ := e
      obtain ⟨h1, h2⟩ := sub xs (hL.imp (by rintro ⟨m, hm⟩; cases m with | zero => simp [AV.noRef] at hm | succ m => exact ⟨m, by simpa [AV.noRef] using hm⟩) id) ys hys cs.toList (fun j x v e1 e2 => hx j x v e1 (by simpa using e2))
      exact .tup ys cs (by rw [h1]; exact hlen) fun j y v e1 e2 => h2 j y v e1 (by simpa using e2)

theorem noMem_VR {w : World} {Ow Ow' : Nat → Prop} {φ φ' : Phi} : ∀ (n : Nat) (x : AV) (v : Value), x.noMem n = true → VR w Ow φ x v → VR w Ow' φ' x v
  | 0, x, v, e, _ => by simp [AV.noMem] at e
  | n + 1, x, v, e, hv => by
    cases hv with
    | und v => exact .und v
    | lit v => exact .lit v
    | sl => simp [AV.noMem] at e
    | fptr => simp [AV.noMem] at e
    | ptr => simp [AV.noMem] at e
    | ref => simp [AV.noMem] at e
    | fn f xs cs hlen hx =>
      simp only [AV.noMem] at e
      exact .fn f xs cs hlen fun j x v e1 e2 => noMem_VR n x v (List.all_eq_true.1 e x (List.mem_of_getElem? e1)) (hx j x v e1 e2)
    | iface t x v hx =>
      simp only [AV.noMem] at e
      exact .iface t x v (noMem_VR n x v e hx)
    | agg xs cs hlen hx ho =>
      simp only [AV.noMem] at e
      exact .agg xs cs hlen (fun j x v e1 e2 => noMem_VR n x v (List.all_eq_true.1 e x (List.mem_of_getElem? e1)) (hx j x v e1 e2)) ho
    | tup xs cs hlen hx =>
      simp only [AV.noMem] at e
      exact .tup xs cs hlen fun j x v e1 e2 => noMem_VR n x v (List.all_eq_true.1 e x (List.mem_of_getElem? e1)) (hx j x v e1 e2)

/-- A result, read. -/
def rvS (tmps : Array Value) : ResultVar → Sem Value
  | .tmp t => pure (tmps.getD t undef)
  | .cell a t => do loadVar t (← asAddr (tmps.getD a undef))
/-- Results. -/
theorem evRes_run {B : Nat → Prop} {h : Heap} {φ : Phi} {w : World} {g : Look} {fr : List AV} {tmps : Array Value} (hr : HR B h φ w) (hg : ∀ o cs, g o = some cs → look h o = some cs) (hf : FR w (Own B h φ) φ fr tmps) :
    ∀ (rs : List ResultVar) (l : List (Nat × Option (Bool × Nat))) (vs : List AV), rs.mapM (trR P) = some l → evRes g fr l = some vs →
      ∃ us : List Value, (rs.mapM (rvS tmps)).run P w = .ok us w ∧ us.length = vs.length ∧
        ∀ (j : Nat) (x : AV) (u : Value), vs[j]? = some x → us[j]? = some u → VR w (Own B h φ) φ x u
  | [], l, vs, hl, he => by
    simp at hl
    subst hl
    simp only [evRes, Option.some.injEq] at he
    subst he
    exact ⟨[], rfl, rfl, by simp⟩
  | r :: rs, l, vs, hl, he => by
    simp only [List.mapM_cons, Option.bind_eq_bind, Option.bind_eq_some_iff, Option.pure_def, Option.some.injEq] at hl
    obtain ⟨p, hp, l', hl', rfl⟩ := hl
    obtain ⟨t, k⟩ := p
    have cons : ∀ {x : AV} {u : Value} {vs' : List AV}, (rvS tmps r).run P w = .ok u w → VR w (Own B h φ) φ x u → evRes g fr l' = some vs' → vs = x :: vs' →
        ∃ us : List Value, ((r :: rs).mapM (rvS tmps)).run P w = .ok us w ∧ us.length = vs.length ∧
        ∀ (j : Nat) (x : AV) (u : Value), vs[j]? = some x → us[j]? = some u → VR w (Own B h φ) φ x u := by
      intro x u vs' h1 h2 h3 h4
      subst h4
      obtain ⟨us, q1, q2, q3⟩ := evRes_run hr hg hf rs l' vs' hl' h3
      refine ⟨u :: us, ?_, by simp [q2], fun j y v e1 e2 => ?_⟩
      · simp only [List.mapM_cons, Sem.run_bind, h1, Result.andThen_ok, q1, Sem.run_pure]
      · cases j with
        | zero => simp at e1 e2; subst e1; subst e2; exact h2
        | succ j => simp at e1 e2; exact q3 j y v e1 e2
    have got : ∀ (i : Nat) (x : AV), fr[i]? = some x → VR w (Own B h φ) φ x (tmps.getD i undef) := by
      intro i x e
      have := hf.get i
      simpa [List.getD, e] using this
    simp only [evRes] at he
    cases r with
    | tmp t' =>
      simp only [trR, Option.some.injEq, Prod.mk.injEq] at hp
      obtain ⟨rfl, rfl⟩ := hp
      split at he
      · cases he
      · rename_i vs' hvs' 
        split at he
        · rename_i v hv
          simp only [Option.some.injEq] at he
          exact cons rfl (got _ v hv) (by assumption) he.symm
        · cases he
      · rename_i heq _; simp at heq
    | cell a t' =>
      simp only [trR, Option.map_eq_some_iff, Prod.mk.injEq] at hp
      obtain ⟨⟨ag, kk⟩, hk, rfl, rfl⟩ := hp
      split at he
      · cases he
      · rename_i heq _; simp at heq
      · rename_i ag' kk' vs' heq hvs'
        simp only [Option.some.injEq, Prod.mk.injEq] at heq
        obtain ⟨rfl, rfl⟩ := heq
        split at he
        · rename_i p hp
          split at he
          · rename_i v hv
            simp only [Option.some.injEq] at he
            obtain ⟨u, q1, q2⟩ := load_VR (P := P) (t := t') hr hg (got _ p hp) hk hv
            refine cons (x := v) (u := u) ?_ q2 hvs' he.symm
            simp only [Instr.loadAt, Sem.run_bind] at q1
            simp only [rvS, Sem.run_bind]
            generalize tmps.getD a undef = pv at q1 ⊢
            cases pv with
            | pointer ad =>
              cases ad with
              | some ad => simpa [Instr.sureAddr, asAddr] using q1
              | none => simp [Instr.sureAddr] at q1
            | _ => simp [Instr.sureAddr] at q1
          · cases he
        · cases he
theorem results_run {B : Nat → Prop} {h : Heap} {φ : Phi} {w : World} {g : Look} {fr : List AV} {tmps : Array Value} (hr : HR B h φ w) (hg : ∀ o cs, g o = some cs → look h o = some cs) (hf : FR w (Own B h φ) φ fr tmps)
    {fn : Func} {l : List (Nat × Option (Bool × Nat))} {vs : List AV} (hl : fn.results.toList.mapM (trR P) = some l) (he : evRes g fr l = some vs) :
    ∃ u, (results fn tmps).run P w = .ok u w ∧ VR w (Own B h φ) φ (oneOf vs) u := by
  obtain ⟨us, q1, q2, q3⟩ := evRes_run (P := P) hr hg hf _ l vs hl he
  have hm : (fn.results.mapM (rvS tmps)).run P w = .ok us.toArray w := by
    rw [← Array.toArray_toList (xs := fn.results)]
    simp only [List.mapM_toArray, Sem.run_map, q1, Result.andThen_ok]
  refine ⟨if h : us.toArray.size = 1 then us.toArray[0] else .tuple us.toArray, ?_, ?_⟩
  · have hres : results fn tmps = (do let vs ← fn.results.mapM (rvS tmps); pure (if h : vs.size = 1 then vs[0] else .tuple vs)) := rfl
    rw [hres]
    simp only [Sem.run_bind, hm, Result.andThen_ok, Sem.run_pure]
  · match vs, us, q2 with
    | [], [], _ => exact .tup [] #[] rfl (by simp)
    | [x], [u], _ => simpa [oneOf] using q3 0 x u rfl rfl
    | x :: y :: r, u :: z :: s, q2 =>
      have : ¬ ((u :: z :: s).toArray.size = 1) := by simp
      rw [dif_neg this]
      exact .tup _ _ (by simpa using q2) fun j x v e1 e2 => q3 j x v e1 (by simpa using e2)
end
end Go.Ev
