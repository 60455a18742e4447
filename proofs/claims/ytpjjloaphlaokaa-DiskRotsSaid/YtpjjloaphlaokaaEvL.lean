/- Operations that change objects: the theorem. -/
import Derived.Test.YtpjjloaphlaokaaEvK
set_option linter.unusedVariables false
set_option linter.unusedSimpArgs false
set_option linter.unnecessarySimpa false
namespace Go.Ev
open Go

section
variable {P : Program} {B : Nat → Prop} {h : Heap} {φ : Phi} {w : World}

theorem own_drew (hr : HR B h φ w) (d : Nat) {x : AV} {v : Value} (hv : VR w (Own B h φ) φ x v) : VR { w with drawn := d } (Own B h φ) φ x v := hv.stp (Stp.drew φ _ w d)

theorem store_W {t : TypeId} {p y x : AV} {vp vy : Value} {k : Nat} {h' : Heap} (hr : HR B h φ w) (hs : szOf P t = some k) (hp : VR w (Own B h φ) φ p vp) (hy : VR w (Own B h φ) φ y vy)
    (he : evW h (.store k) [p, y] = some (x, h')) : Wrote P B h φ w (do (Instr.storeAt t vp vy); pure .skip) x h' := by
  simp only [evW] at he
  split at he
  · rename_i o off v heq
    simp only [List.cons.injEq, and_true] at heq
    obtain ⟨rfl, rfl⟩ := heq
    split at he
    · rename_i cs ys hl hc
      split at he
      · rename_i hcond
        obtain ⟨rfl, hle⟩ := hcond
        simp only [Option.some.injEq, Prod.mk.injEq] at he
        obtain ⟨rfl, rfl⟩ := he
        cases hp with
        | ptr _ _ b base hφ =>
          have hcl := cells?_VR hy hc
          obtain ⟨h1, h2, h3⟩ := hr.store (P := P) hl hφ hle hcl
          refine ⟨.skip, undef, _, φ, ?_, .inr ⟨rfl, rfl⟩, h2, h3, .lit _, by simp, fun _ _ => rfl⟩
          have hsz : vy.cells.size = ys.length := by have := hcl.1; simp at this; omega
          simp only [Instr.storeAt, Instr.sureAddr, Sem.run_bind, Sem.run_pure, Result.andThen_ok, storeVar, run_sizeOf' hs]
          rw [if_neg (by simp [hsz])]
          simp only [Sem.run_bind, Sem.run_pure, Result.andThen_ok, h1]
      · cases he
    · cases he
  · cases he

theorem set_last (h : Heap) (x y : Option (List AV)) : (h ++ [x]).set h.length y = h ++ [y] := by simp
theorem dom_none (hr : HR B h φ w) : φ h.length = none := by
  cases e : φ h.length with
  | none => rfl
  | some p => exact absurd (hr.dom _ p e) (Nat.lt_irrefl _)

/-- An append that makes a new row. -/
theorem grow_WS {t u e : TypeId} {ty : TypeId} {sz by_ n k c : Nat} {a : Option Addr} {zero xs ys : List AV} {vy : Value} {xvs yvs : List Value} {h1 : Heap} {s : Nat} (hr : HR B h φ w) (hu : P.underlying t = some (.slice e)) (hu2 : (∃ e', P.underlying u = some (.slice e')) ∨ P.underlying u = some .string)
    (hs : szOf P e = some sz) (hb : byOf P e = some by_) (hz : zeroOf P e = some zero) (hzl : zero.length = sz)
    (hxc : Cells w (Own B h φ) φ xs xvs) (hxl : xs.length = n * sz) (hxf : ∀ w2 : World, w2.heap = w.heap → (Builtin.firstCells sz n (.slice a n c)).run P w2 = .ok xvs.toArray w2)
    (hyc : Cells w (Own B h φ) φ ys yvs) (hyl : ys.length = k * sz) (hylen : (Builtin.lenOf vy).run P w = .ok k w) (hyf : ∀ w2 : World, w2.heap = w.heap → (Builtin.firstCells sz k vy).run P w2 = .ok yvs.toArray w2)
    (hbig : (2 * (n + k) + 192) * by_ ≤ 2 ^ 48 ∧ n + k ≤ 2 ^ 60) (hc : c < n + k) (hlen : h.length ≤ h1.length) (hsub : ∀ o cs, look h1 o = some cs → look h o = some cs) (hs1 : s < h1.length) (hs2 : look h1 s = none) (hs3 : φ s = none) :
    WroteS P B h φ w s (do pure (Next.value (← Builtin.append_ #[t, u] ty #[.slice a n c, vy]))) (.ref s 0 (n + k) sz none) (h1.set s (some (xs ++ ys))) := by
  obtain ⟨nc, rest, k1, k2, k3⟩ := append_grow (P := P) (w := w) (a := a) (vs := yvs) (os := xvs) hu hu2 hs hb hz hylen (fun d => hyf _ rfl) (fun d => hxf _ rfl) hc hbig.1 hbig.2 ty
  have hrest := k2 hzl
  have hcl := hxc.append hyc
  have hw : ({ w with heap := w.heap.push (Obj.cells (xvs.toArray ++ (yvs.toArray ++ rest)) e), drawn := w.drawn + 1 } : World).heap = w.heap.push (Obj.cells (xvs.toArray ++ (yvs.toArray ++ rest)) e (0, 0)) := rfl
  have hsize : (xvs.toArray ++ (yvs.toArray ++ rest)).size = nc * sz := by
    simp only [Array.size_append, List.size_toArray, hrest, hxc.1, hyc.1, hxl, hyl]
    rw [← Nat.add_assoc, ← Nat.add_mul, ← Nat.add_mul]
    congr 1
    omega
  obtain ⟨h4, h5⟩ := hr.new (h1 := h1) (s := s) (xs := xs ++ ys) (vs := xvs ++ yvs) hlen hsub hs1 hs2 hs3 hw rfl rfl rfl
      (by rw [hsize, List.length_append, hxl, hyl, ← Nat.add_mul]; exact Nat.mul_le_mul_right _ k1) (by simp) hcl (fun j v e => by
        have hj : j < (xvs ++ yvs).length := (List.getElem?_eq_some_iff.1 e).1
        have : (xvs.toArray ++ (yvs.toArray ++ rest)) = (xvs ++ yvs).toArray ++ rest := by apply Array.ext'; simp
        rw [this, Array.getElem?_append_left (by simpa using hj)]
        simpa using e)
  refine ⟨_, _, _, _, by simp [k3], .inl rfl, h4, h5, .ref s 0 (n + k) sz nc w.heap.size 0 none _ (by simp [upd]) (fun _ => rfl) k1 (by simp) ⟨xvs.toArray ++ (yvs.toArray ++ rest), e, (0, 0), by simp, by rw [hsize]; omega⟩, by simpa using hlen, fun o ho hos => ?_⟩
  unfold upd
  rw [if_neg hos]

/-- An append that makes a new row. -/
theorem grow_W {t u e : TypeId} {ty : TypeId} {sz by_ n k c : Nat} {a : Option Addr} {zero xs ys : List AV} {vy : Value} {xvs yvs : List Value} {h0 : Heap} (hr : HR B h φ w) (hu : P.underlying t = some (.slice e)) (hu2 : (∃ e', P.underlying u = some (.slice e')) ∨ P.underlying u = some .string)
    (hs : szOf P e = some sz) (hb : byOf P e = some by_) (hz : zeroOf P e = some zero) (hzl : zero.length = sz)
    (hxc : Cells w (Own B h φ) φ xs xvs) (hxl : xs.length = n * sz) (hxf : ∀ w2 : World, w2.heap = w.heap → (Builtin.firstCells sz n (.slice a n c)).run P w2 = .ok xvs.toArray w2)
    (hyc : Cells w (Own B h φ) φ ys yvs) (hyl : ys.length = k * sz) (hylen : (Builtin.lenOf vy).run P w = .ok k w) (hyf : ∀ w2 : World, w2.heap = w.heap → (Builtin.firstCells sz k vy).run P w2 = .ok yvs.toArray w2)
    (hbig : (2 * (n + k) + 192) * by_ ≤ 2 ^ 48 ∧ n + k ≤ 2 ^ 60) (hc : c < n + k) (hlen : h0.length = h.length) (hsub : ∀ o cs, look h0 o = some cs → look h o = some cs) :
    Wrote P B h φ w (do pure (Next.value (← Builtin.append_ #[t, u] ty #[.slice a n c, vy]))) (.ref h.length 0 (n + k) sz none) (h0 ++ [some (xs ++ ys)]) := by
  have := grow_WS (h1 := h0 ++ [none]) (s := h.length) hr hu hu2 hs hb hz hzl hxc hxl hxf hyc hyl hylen hyf hbig hc (ty := ty) (by simp; omega) (fun o cs e => by
      rw [look_app] at e
      split at e
      · cases e
      · exact hsub o cs e) (by simp; omega) (by rw [look_app]; simp [hlen]) (dom_none hr)
  rw [← hlen, set_last, hlen] at this
  exact this.wrote (Nat.le_refl _)

end
end Go.Ev
