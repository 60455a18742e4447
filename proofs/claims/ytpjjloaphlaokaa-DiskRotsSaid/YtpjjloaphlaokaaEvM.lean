import Derived.Test.YtpjjloaphlaokaaEvL
set_option linter.unusedVariables false
set_option linter.unusedSimpArgs false
set_option linter.unnecessarySimpa false
namespace Go.Ev
open Go
section
variable {P : Program} {B : Nat → Prop} {h : Heap} {φ : Phi} {w : World}

theorem append_W {t u e : TypeId} {ty : TypeId} {sz by_ : Nat} {zero : List AV} {s y x : AV} {vs vy : Value} {h' : Heap} (hr : HR B h φ w) (hu : P.underlying t = some (.slice e)) (hu2 : (∃ e', P.underlying u = some (.slice e')) ∨ P.underlying u = some .string)
    (hs : szOf P e = some sz) (hb : byOf P e = some by_) (hz : zeroOf P e = some zero) (hzl : zero.length = sz) (hsv : VR w (Own B h φ) φ s vs) (hyv : VR w (Own B h φ) φ y vy)
    (he : evW h (.append sz by_) [s, y] = some (x, h')) : Wrote P B h φ w (do pure (Next.value (← Builtin.append_ #[t, u] ty #[vs, vy]))) x h' := by
  simp only [evW] at he
  split at he
  case h_2 => cases he
  rename_i n xs k ys hsc hyc
  obtain ⟨hxl, hxlen, xvs, hxc, hxf⟩ := slC_VR (P := P) hr (fun _ _ e => e) hsv hsc
  obtain ⟨hyl, hylen, yvs, hyc', hyf⟩ := slC_VR (P := P) hr (fun _ _ e => e) hyv hyc
  have hyfull : ∀ w2 : World, w2.heap = w.heap → (Builtin.firstCells sz k vy).run P w2 = .ok yvs.toArray w2 := by
    intro w2 hw2
    have := hyf k (Nat.le_refl _) w2 hw2
    rwa [List.take_of_length_le (by rw [hyc'.1, hyl]; exact Nat.le_refl _)] at this
  have hxfull : ∀ w2 : World, w2.heap = w.heap → (Builtin.firstCells sz n vs).run P w2 = .ok xvs.toArray w2 := by
    intro w2 hw2
    have := hxf n (Nat.le_refl _) w2 hw2
    rwa [List.take_of_length_le (by rw [hxc.1, hxl]; exact Nat.le_refl _)] at this
  have hzero : k = 0 → (Builtin.firstCells sz 0 vy).run P w = .ok #[] w := by
    intro _
    have := hyf 0 (Nat.zero_le _) w rfl
    simpa using this
  have hzlen : k = 0 → (Builtin.lenOf vy).run P w = .ok 0 w := by intro e; rw [hylen, e]
  cases hsv with
  | sl isNil m c cap zs a cs hnil hn hcap hlen hx ho hm =>
    simp only [] at he
    have hnm : n = m := by
      simp only [Builtin.lenOf, Sem.run_pure, Result.ok.injEq, and_true] at hxlen
      exact hxlen.symm
    subst hnm
    split at he
    · rename_i hk
      simp only [Option.some.injEq, Prod.mk.injEq] at he
      obtain ⟨rfl, rfl⟩ := he
      exact ⟨_, _, w, φ, by simp [append_zero hu hu2 hs (hzlen hk) (hzero hk) hn ty], .inl rfl, hr, Stp.refl _ _ _, .sl isNil n c cap zs a cs hnil hn hcap hlen hx ho hm, Nat.le_refl _, fun _ _ => rfl⟩
    · split at he
      · rename_i hbig
        split at he
        · rename_i c0
          split at he
          · rename_i hc
            simp only [Option.some.injEq, Prod.mk.injEq] at he
            obtain ⟨rfl, rfl⟩ := he
            have := hcap c0 rfl
            subst this
            exact grow_W hr hu hu2 hs hb hz hzl hxc hxl hxfull hyc' hyl hylen hyfull hbig hc rfl (fun _ _ e => e)
          · cases he
        · cases he
      · cases he
  | ref o off m sz' c b base cap a hφ ha hn hcap hrr =>
    simp only [] at he
    have hnm : n = m := by
      simp only [Builtin.lenOf, Sem.run_pure, Result.ok.injEq, and_true] at hxlen
      exact hxlen.symm
    subst hnm
    have hsz : sz' = sz := by
      simp only [slC] at hsc
      split at hsc
      · assumption
      · cases hsc
    subst hsz
    split at he
    · rename_i hk
      simp only [Option.some.injEq, Prod.mk.injEq] at he
      obtain ⟨rfl, rfl⟩ := he
      exact ⟨_, _, w, φ, by simp [append_zero hu hu2 hs (hzlen hk) (hzero hk) hn ty], .inl rfl, hr, Stp.refl _ _ _, .ref o off n sz' c b base cap a hφ ha hn hcap hrr, Nat.le_refl _, fun _ _ => rfl⟩
    · rename_i hk
      split at he
      · rename_i hbig
        simp only [Option.some.injEq, Prod.mk.injEq] at he
        obtain ⟨rfl, rfl⟩ := he
        have hsub : ∀ o' cs', look (h.set o none) o' = some cs' → look h o' = some cs' ∧ o' ≠ o := by
          intro o' cs' e
          rw [look_set] at e
          by_cases hoo : o = o'
          · subst hoo
            by_cases hl : o < h.length
            · simp [hl] at e
            · simp [hl] at e
              exact absurd (look_lt e) hl
          · rw [if_neg (fun e => hoo e.1)] at e
            exact ⟨e, fun e' => hoo e'.symm⟩
        by_cases hfit : n + k ≤ c
        · -- in place
          have hc0 : c ≠ 0 := by omega
          have ha' := ha hc0
          subst ha'
          obtain ⟨cs, hcs, hoff⟩ : ∃ cs, look h o = some cs ∧ off + n * sz' ≤ cs.length := by
            simp only [slC, if_true, rdM, Option.map_eq_some_iff] at hsc
            obtain ⟨zs, hzs, _⟩ := hsc
            split at hzs
            · rename_i cs hcs
              split at hzs
              · exact ⟨cs, hcs, by assumption⟩
              · cases hzs
            · cases hzs
          obtain ⟨b1, base1, arr, T, fz, e1, e2, e3, e4, e5, e6⟩ := hr.live o cs hcs
          rw [hφ] at e1
          cases e1
          obtain ⟨arr2, T2, fz2, e7, e8⟩ := hrr
          rw [e2] at e7
          cases e7
          have hkc : (n + k) * sz' ≤ c * sz' := Nat.mul_le_mul_right _ hfit
          rw [Nat.add_mul] at hkc
          have hyvl : yvs.length = k * sz' := by rw [hyc'.1, hyl]
          have hst := run_storeCells_cells (P := P) b (base + off + n * sz') yvs 0 w (fun j hj => by
            rw [cell_of_block e2, Nat.add_zero]
            have : base + off + n * sz' + j < arr.size := by omega
            simp [this]) (fun j hj => by rw [Nat.add_zero]; exact e5 _ (by omega)) hyc'.2.2
          rw [Nat.add_zero] at hst
          obtain ⟨arr', f1, f2, f3⟩ := setCells_heap b yvs (base + off + n * sz') w arr T fz e2
          obtain ⟨r1, r2, r3, r4⟩ := setCells_rest b yvs (base + off + n * sz') w
          have hrun := append_fit (P := P) (w := w) (t := t) (u := u) (e := e) (sz := sz') (k := k) (b := b) (o := base + off) (m := n) (c := c) (v := vy) hu hu2 hs hylen (hyfull w rfl) hfit ty hst
          obtain ⟨h4, h5⟩ := hr.lay (h1 := h.set o none ++ [none]) (s := h.length) (w' := w.setCells b (base + off + n * sz') yvs) (b := b) (base := base + off) (c := arr') (T := T) (fz := fz) (xs := xs ++ ys) (by simp) (fun o' cs' e => by
              rw [look_app] at e
              split at e
              · cases e
              · exact (hsub o' cs' e).1) (by simp) (by rw [look_app]; simp) (dom_none hr) (by omega) (fun b' _ hne => setCells_other b yvs _ w b' hne) (shapes_setCells b yvs _ w) r2 r3 r4 f1 e3
            (fun o' cs' base' e e' => by
              rw [look_app] at e
              split at e
              · cases e
              · obtain ⟨g1, g2⟩ := hsub o' cs' e
                exact g2 (hr.inj o' o cs' cs b base' base g1 hcs e' hφ)) (.inr ⟨o, cs, base, hcs, hφ⟩)
            (by rw [f3, List.length_append, hxl, hyl]; omega) (fun j hj => by rw [World.frozen?_setCells]; exact e5 j (by omega))
            (fun j x e => by
              by_cases hj : j < xs.length
              · rw [List.getElem?_append_left hj] at e
                have hjx : j < xvs.length := by rw [hxc.1]; exact hj
                refine ⟨xvs[j], ?_, hxc.2.2 _ (List.getElem_mem hjx), hxc.2.1 j x _ e (List.getElem?_eq_getElem hjx)⟩
                have g1 : arr'[base + off + j]? = arr'.toList[base + off + j]? := by simp
                rw [g1, f2, splV_out yvs _ _ _ (by omega)]
                -- the old cells
                have g2 := hxfull w rfl
                have g3 := run_loadCells_at (P := P) (w := w) b (base + off) (n * sz') ((arr.toList.drop (base + off)).take (n * sz')) (by simp; omega) (fun i v ev => by
                  have hi : i < n * sz' := by
                    have := (List.getElem?_eq_some_iff.1 ev).1
                    simp at this
                    omega
                  simp [List.getElem?_take, hi] at ev
                  rw [cell_of_block e2]
                  exact ev)
                have g4 : (Builtin.firstCells sz' n (.slice (some ⟨b, base + off, none⟩) n c)).run P w = (loadCells ⟨b, base + off, none⟩ (n * sz')).run P w := rfl
                rw [g4, g3] at g2
                simp only [Result.ok.injEq, and_true] at g2
                have g5 : (arr.toList.drop (base + off)).take (n * sz') = xvs := by simpa using congrArg Array.toList g2
                have g6 : xvs[j]? = some xvs[j] := List.getElem?_eq_getElem hjx
                rw [← g6, ← g5]
                rw [List.getElem?_take, if_pos (by omega), List.getElem?_drop]
              · rw [List.getElem?_append_right (by omega)] at e
                have hjy : j - xs.length < yvs.length := by rw [hyc'.1]; exact (List.getElem?_eq_some_iff.1 e).1
                refine ⟨yvs[j - xs.length], ?_, hyc'.2.2 _ (List.getElem_mem hjy), hyc'.2.1 _ x _ e (List.getElem?_eq_getElem hjy)⟩
                have g1 : arr'[base + off + j]? = arr'.toList[base + off + j]? := by simp
                rw [g1, f2, show base + off + j = base + off + n * sz' + (j - xs.length) by omega, splV_in yvs _ _ _ hjy (by simp; omega)]
                exact List.getElem?_eq_getElem hjy)
          have hll : (h.set o none).length = h.length := by simp
          rw [← hll, set_last, hll] at h4 h5
          refine ⟨_, _, _, _, by simp [hrun], .inl rfl, h4, h5, .ref h.length 0 (n + k) sz' c b (base + off) _ _ (by simp [upd]) (fun _ => rfl) hfit (fun q hq => ?_) ⟨arr', T, fz, f1, by omega⟩, by simp, fun o' ho => ?_⟩
          · cases cap with
            | none => simp [capFit] at hq
            | some c0 =>
              have := hcap c0 rfl
              subst this
              simp [capFit, hfit] at hq
              exact hq
          · unfold upd
            rw [if_neg (by omega)]
        · have hcap' : capFit (n + k) cap = none := by
            cases cap with
            | none => rfl
            | some c0 =>
              have := hcap c0 rfl
              subst this
              simp [capFit, hfit]
          rw [hcap']
          exact grow_W hr hu hu2 hs hb hz hzl hxc hxl hxfull hyc' hyl hylen hyfull hbig (by omega) (by simp) (fun o' cs' e => (hsub o' cs' e).1)
      · cases he
  | _ => simp at he

/-- An append whose new row lies at a place that was laid ahead. -/
theorem append_WS {l : List Nat} {s0 : Nat} {t u e : TypeId} {ty : TypeId} {sz by_ : Nat} {zero : List AV} {s y x : AV} {vs vy : Value} {h' : Heap} (hr : HR B h φ w) (hu : P.underlying t = some (.slice e)) (hu2 : (∃ e', P.underlying u = some (.slice e')) ∨ P.underlying u = some .string)
    (hs : szOf P e = some sz) (hb : byOf P e = some by_) (hz : zeroOf P e = some zero) (hzl : zero.length = sz) (hsv : VR w (Own B h φ) φ s vs) (hyv : VR w (Own B h φ) φ y vy)
    (hs1 : s0 < h.length) (hs2 : look h s0 = none) (hs3 : φ s0 = none)
    (he : evWS l h s0 sz by_ [s, y] = some (x, h')) : WroteS P B h φ w s0 (do pure (Next.value (← Builtin.append_ #[t, u] ty #[vs, vy]))) x h' := by
  simp only [evWS] at he
  split at he
  case h_2 => cases he
  rename_i n xs k ys hsc hyc
  obtain ⟨hxl, hxlen, xvs, hxc, hxf⟩ := slC_VR (P := P) hr (fun _ _ e => e) hsv hsc
  obtain ⟨hyl, hylen, yvs, hyc', hyf⟩ := slC_VR (P := P) hr (fun _ _ (e : none = some _) => nomatch e) hyv hyc
  have hyfull : ∀ w2 : World, w2.heap = w.heap → (Builtin.firstCells sz k vy).run P w2 = .ok yvs.toArray w2 := by
    intro w2 hw2
    have := hyf k (Nat.le_refl _) w2 hw2
    rwa [List.take_of_length_le (by rw [hyc'.1, hyl]; exact Nat.le_refl _)] at this
  have hxfull : ∀ w2 : World, w2.heap = w.heap → (Builtin.firstCells sz n vs).run P w2 = .ok xvs.toArray w2 := by
    intro w2 hw2
    have := hxf n (Nat.le_refl _) w2 hw2
    rwa [List.take_of_length_le (by rw [hxc.1, hxl]; exact Nat.le_refl _)] at this
  have hzero : k = 0 → (Builtin.firstCells sz 0 vy).run P w = .ok #[] w := by
    intro _
    have := hyf 0 (Nat.zero_le _) w rfl
    simpa using this
  have hzlen : k = 0 → (Builtin.lenOf vy).run P w = .ok 0 w := by intro e; rw [hylen, e]
  cases hsv with
  | sl isNil m c cap zs a cs hnil hn hcap hlen hx ho hm =>
    simp only [] at he
    have hnm : n = m := by
      simp only [Builtin.lenOf, Sem.run_pure, Result.ok.injEq, and_true] at hxlen
      exact hxlen.symm
    subst hnm
    split at he
    case isFalse => cases he
    split at he
    · rename_i hk
      simp only [Option.some.injEq, Prod.mk.injEq] at he
      obtain ⟨rfl, rfl⟩ := he
      exact ⟨_, _, w, φ, by simp [append_zero hu hu2 hs (hzlen hk) (hzero hk) hn ty], .inl rfl, hr, Stp.refl _ _ _, .sl isNil n c cap zs a cs hnil hn hcap hlen hx ho hm, Nat.le_refl _, fun _ _ _ => rfl⟩
    · split at he
      · rename_i hbig
        split at he
        · rename_i c0
          split at he
          · rename_i hc
            simp only [Option.some.injEq, Prod.mk.injEq] at he
            obtain ⟨rfl, rfl⟩ := he
            have := hcap c0 rfl
            subst this
            exact grow_WS hr hu hu2 hs hb hz hzl hxc hxl hxfull hyc' hyl hylen hyfull hbig hc (Nat.le_refl _) (fun _ _ e => e) hs1 hs2 hs3
          · cases he
        · cases he
      · cases he
  | ref o off m sz' c b base cap a hφ ha hn hcap hrr =>
    simp only [] at he
    have hnm : n = m := by
      simp only [Builtin.lenOf, Sem.run_pure, Result.ok.injEq, and_true] at hxlen
      exact hxlen.symm
    subst hnm
    have hsz : sz' = sz := by
      simp only [slC] at hsc
      split at hsc
      · assumption
      · cases hsc
    subst hsz
    split at he
    case isFalse => cases he
    split at he
    · rename_i hk
      simp only [Option.some.injEq, Prod.mk.injEq] at he
      obtain ⟨rfl, rfl⟩ := he
      exact ⟨_, _, w, φ, by simp [append_zero hu hu2 hs (hzlen hk) (hzero hk) hn ty], .inl rfl, hr, Stp.refl _ _ _, .ref o off n sz' c b base cap a hφ ha hn hcap hrr, Nat.le_refl _, fun _ _ _ => rfl⟩
    · rename_i hk
      split at he
      · rename_i hbig
        simp only [Option.some.injEq, Prod.mk.injEq] at he
        obtain ⟨rfl, rfl⟩ := he
        have hsub : ∀ o' cs', look (h.set o none) o' = some cs' → look h o' = some cs' ∧ o' ≠ o := by
          intro o' cs' e
          rw [look_set] at e
          by_cases hoo : o = o'
          · subst hoo
            by_cases hl : o < h.length
            · simp [hl] at e
            · simp [hl] at e
              exact absurd (look_lt e) hl
          · rw [if_neg (fun e => hoo e.1)] at e
            exact ⟨e, fun e' => hoo e'.symm⟩
        by_cases hfit : n + k ≤ c
        · -- in place
          have hc0 : c ≠ 0 := by omega
          have ha' := ha hc0
          subst ha'
          obtain ⟨cs, hcs, hoff⟩ : ∃ cs, look h o = some cs ∧ off + n * sz' ≤ cs.length := by
            simp only [slC, if_true, rdM, Option.map_eq_some_iff] at hsc
            obtain ⟨zs, hzs, _⟩ := hsc
            split at hzs
            · rename_i cs hcs
              split at hzs
              · exact ⟨cs, hcs, by assumption⟩
              · cases hzs
            · cases hzs
          obtain ⟨b1, base1, arr, T, fz, e1, e2, e3, e4, e5, e6⟩ := hr.live o cs hcs
          rw [hφ] at e1
          cases e1
          obtain ⟨arr2, T2, fz2, e7, e8⟩ := hrr
          rw [e2] at e7
          cases e7
          have hkc : (n + k) * sz' ≤ c * sz' := Nat.mul_le_mul_right _ hfit
          rw [Nat.add_mul] at hkc
          have hyvl : yvs.length = k * sz' := by rw [hyc'.1, hyl]
          have hst := run_storeCells_cells (P := P) b (base + off + n * sz') yvs 0 w (fun j hj => by
            rw [cell_of_block e2, Nat.add_zero]
            have : base + off + n * sz' + j < arr.size := by omega
            simp [this]) (fun j hj => by rw [Nat.add_zero]; exact e5 _ (by omega)) hyc'.2.2
          rw [Nat.add_zero] at hst
          obtain ⟨arr', f1, f2, f3⟩ := setCells_heap b yvs (base + off + n * sz') w arr T fz e2
          obtain ⟨r1, r2, r3, r4⟩ := setCells_rest b yvs (base + off + n * sz') w
          have hrun := append_fit (P := P) (w := w) (t := t) (u := u) (e := e) (sz := sz') (k := k) (b := b) (o := base + off) (m := n) (c := c) (v := vy) hu hu2 hs hylen (hyfull w rfl) hfit ty hst
          have hset0 : look (h.set o none) s0 = none := by
            rw [look_set]
            split
            · rfl
            · exact hs2
          obtain ⟨h4, h5⟩ := hr.lay (h1 := h.set o none) (s := s0) (w' := w.setCells b (base + off + n * sz') yvs) (b := b) (base := base + off) (c := arr') (T := T) (fz := fz) (xs := xs ++ ys) (by simp) (fun o' cs' e => (hsub o' cs' e).1) (by simpa using hs1) hset0 hs3 (by omega) (fun b' _ hne => setCells_other b yvs _ w b' hne) (shapes_setCells b yvs _ w) r2 r3 r4 f1 e3
            (fun o' cs' base' e e' => by
              obtain ⟨g1, g2⟩ := hsub o' cs' e
              exact g2 (hr.inj o' o cs' cs b base' base g1 hcs e' hφ)) (.inr ⟨o, cs, base, hcs, hφ⟩)
            (by rw [f3, List.length_append, hxl, hyl]; omega) (fun j hj => by rw [World.frozen?_setCells]; exact e5 j (by omega))
            (fun j x e => by
              by_cases hj : j < xs.length
              · rw [List.getElem?_append_left hj] at e
                have hjx : j < xvs.length := by rw [hxc.1]; exact hj
                refine ⟨xvs[j], ?_, hxc.2.2 _ (List.getElem_mem hjx), hxc.2.1 j x _ e (List.getElem?_eq_getElem hjx)⟩
                have g1 : arr'[base + off + j]? = arr'.toList[base + off + j]? := by simp
                rw [g1, f2, splV_out yvs _ _ _ (by omega)]
                -- the old cells
                have g2 := hxfull w rfl
                have g3 := run_loadCells_at (P := P) (w := w) b (base + off) (n * sz') ((arr.toList.drop (base + off)).take (n * sz')) (by simp; omega) (fun i v ev => by
                  have hi : i < n * sz' := by
                    have := (List.getElem?_eq_some_iff.1 ev).1
                    simp at this
                    omega
                  simp [List.getElem?_take, hi] at ev
                  rw [cell_of_block e2]
                  exact ev)
                have g4 : (Builtin.firstCells sz' n (.slice (some ⟨b, base + off, none⟩) n c)).run P w = (loadCells ⟨b, base + off, none⟩ (n * sz')).run P w := rfl
                rw [g4, g3] at g2
                simp only [Result.ok.injEq, and_true] at g2
                have g5 : (arr.toList.drop (base + off)).take (n * sz') = xvs := by simpa using congrArg Array.toList g2
                have g6 : xvs[j]? = some xvs[j] := List.getElem?_eq_getElem hjx
                rw [← g6, ← g5]
                rw [List.getElem?_take, if_pos (by omega), List.getElem?_drop]
              · rw [List.getElem?_append_right (by omega)] at e
                have hjy : j - xs.length < yvs.length := by rw [hyc'.1]; exact (List.getElem?_eq_some_iff.1 e).1
                refine ⟨yvs[j - xs.length], ?_, hyc'.2.2 _ (List.getElem_mem hjy), hyc'.2.1 _ x _ e (List.getElem?_eq_getElem hjy)⟩
                have g1 : arr'[base + off + j]? = arr'.toList[base + off + j]? := by simp
                rw [g1, f2, show base + off + j = base + off + n * sz' + (j - xs.length) by omega, splV_in yvs _ _ _ hjy (by simp; omega)]
                exact List.getElem?_eq_getElem hjy)
          refine ⟨_, _, _, _, by simp [hrun], .inl rfl, h4, h5, .ref s0 0 (n + k) sz' c b (base + off) _ _ (by simp [upd]) (fun _ => rfl) hfit (fun q hq => ?_) ⟨arr', T, fz, f1, by omega⟩, by simp, fun o' ho hos => ?_⟩
          · cases cap with
            | none => simp [capFit] at hq
            | some c0 =>
              have := hcap c0 rfl
              subst this
              simp [capFit, hfit] at hq
              exact hq
          · unfold upd
            rw [if_neg hos]
        · have hcap' : capFit (n + k) cap = none := by
            cases cap with
            | none => rfl
            | some c0 =>
              have := hcap c0 rfl
              subst this
              simp [capFit, hfit]
          rw [hcap']
          exact grow_WS hr hu hu2 hs hb hz hzl hxc hxl hxfull hyc' hyl hylen hyfull hbig (by omega) (by simp) (fun o' cs' e => (hsub o' cs' e).1) (by simpa using hs1) (by
            rw [look_set]
            split
            · rfl
            · exact hs2) hs3
      · cases he
  | _ => simp at he

theorem copy_run {t e : TypeId} {ty : TypeId} {sz k n c : Nat} {a : Addr} {vy : Value} {tys : Array TypeId} {cs : List Value} {w' : World} (ht : tys[0]? = some t) (hu : P.underlying t = some (.slice e)) (hs : szOf P e = some sz)
    (hylen : (Builtin.lenOf vy).run P w = .ok k w) (hf : (Builtin.firstCells sz (Nat.min k n) vy).run P w = .ok cs.toArray w) (hst : (storeCells a cs).run P w = .ok () w') :
    (Builtin.copy_ tys ty #[.slice (some a) n c, vy]).run P w = .ok (goInt (Nat.min k n : Nat)) w' := by
  have h0 : (#[Value.slice (some a) n c, vy] : Array Value)[0]? = some (.slice (some a) n c) := rfl
  have h1 : (#[Value.slice (some a) n c, vy] : Array Value)[1]? = some vy := rfl
  unfold Builtin.copy_
  rw [ht, h0, h1]
  simp only [Sem.run_bind, run_underlying' hu, Result.andThen_ok, hylen, run_sizeOf' hs, hf, hst, Sem.run_pure]
theorem copy_W {t e : TypeId} {ty : TypeId} {sz : Nat} {s y x : AV} {vs vy : Value} {h' : Heap} {tys : Array TypeId} (hr : HR B h φ w) (ht : tys[0]? = some t) (hu : P.underlying t = some (.slice e))
    (hs : szOf P e = some sz) (hsv : VR w (Own B h φ) φ s vs) (hyv : VR w (Own B h φ) φ y vy)
    (he : evW h (.copy sz) [s, y] = some (x, h')) : Wrote P B h φ w (do pure (Next.value (← Builtin.copy_ tys ty #[vs, vy]))) x h' := by
  simp only [evW] at he
  split at he
  case h_2 => cases he
  rename_i o off n sz' cap y' heq
  simp only [List.cons.injEq, and_true] at heq
  obtain ⟨rfl, rfl⟩ := heq
  split at he
  case h_2 => cases he
  rename_i p k ys hsc hyc
  split at he
  case h_2 => cases he
  rename_i cs hcs
  simp only [Option.some.injEq, Prod.mk.injEq] at he
  obtain ⟨rfl, rfl⟩ := he
  obtain ⟨hyl, hylen, yvs, hyc', hyf⟩ := slC_VR (P := P) hr (fun _ _ e => e) hyv hyc
  cases hsv with
  | ref _ _ _ _ c b base _ a hφ ha hn hcap hrr =>
    simp only [slC] at hsc
    split at hsc
    case isFalse => cases hsc
    rename_i hsz
    subst hsz
    simp only [rdM, hcs, Option.map_eq_some_iff] at hsc
    obtain ⟨zs, hzs, _⟩ := hsc
    split at hzs
    case isFalse => cases hzs
    rename_i hoff
    have hmk : Nat.min k n ≤ k := Nat.min_le_left _ _
    have hmn : Nat.min k n ≤ n := Nat.min_le_right _ _
    have hle : off + (ys.take (Nat.min k n * sz')).length ≤ cs.length := by
      have h1 : Nat.min k n * sz' ≤ n * sz' := Nat.mul_le_mul_right _ hmn
      rw [List.length_take]
      omega
    have hcl := hyc'.take (Nat.min k n * sz')
    obtain ⟨h1, h2, h3⟩ := hr.store (P := P) hcs hφ hle hcl
    have hf := hyf (Nat.min k n) hmk w rfl
    by_cases hc0 : c = 0
    · have hn0 : n = 0 := by omega
      subst hn0
      have hm0 : Nat.min k 0 = 0 := Nat.min_zero k
      rw [hm0] at h1 h2 h3 hf ⊢
      simp only [Nat.zero_mul, List.take_zero, spl] at h1 h2 h3 hf ⊢
      have hw : w.setCells b (base + off) [] = w := rfl
      rw [hw] at h2 h3
      refine ⟨.value (goInt 0), goInt 0, w, φ, ?_, .inl rfl, h2, h3, .lit _, by simp, fun _ _ => rfl⟩
      have := copy_run (P := P) (w := w) (a := a) (c := c) (n := 0) (ty := ty) ht hu hs hylen (cs := []) (w' := w) (by rw [hm0]; exact hf) rfl
      rw [hm0] at this
      simp [this]
    · have ha' := ha hc0
      subst ha'
      refine ⟨.value (goInt (Nat.min k n : Nat)), goInt (Nat.min k n : Nat), _, φ, ?_, .inl rfl, h2, h3, .lit _, by simp, fun _ _ => rfl⟩
      have := copy_run (P := P) (w := w) (c := c) (ty := ty) ht hu hs hylen hf h1
      simp [this]
  | _ => simp at *
end
end Go.Ev
