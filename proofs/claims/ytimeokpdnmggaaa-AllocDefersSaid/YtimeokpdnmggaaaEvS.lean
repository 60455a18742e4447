/- A region whose order is open: the end. -/
import Derived.Test.YtimeokpdnmggaaaEvR
set_option linter.unusedVariables false
set_option linter.unusedSimpArgs false
set_option linter.unnecessarySimpa false
namespace Go.Ev
open Go
section
variable {P : Program} {B : Nat → Prop} {ops : Array Oper} {cf : List Nat → CallF} {base : Nat} {L : List DOp}

theorem hide_sub (h : Heap) (fb : List Nat) : ∀ o cs, hide h fb o = some cs → look h o = some cs := by
  intro o cs e
  unfold hide at e
  split at e
  · cases e
  · exact e

/-- Where a step of such a region leaves the slots. -/
theorem kind_dead {fb : List Nat} {s : Nat} {wr : Option (List Nat)} {o : AOp} {fr : List AV} {h h' : Heap} {v : AV} (k : Kind cf fb s wr o fr h v h') (j : Nat) (hj : j < h.length) (hn : look h j = none) (hs : j ≠ s) : look h' j = none := by
  cases k with
  | quiet _ => exact hn
  | make cs _ _ => rw [look_set, if_neg]; exact hn; rintro ⟨e, _⟩; exact hs e.symm
  | change _ _ hd _ _ => exact hd j hj hn

theorem any_sound {Q : Exit → Act → World → Prop} {fr1 : List AV} {h1 : Heap} (hp : PureC cf) (hcf : ∀ fb f args h v h', CallOk P B (cf fb) f args h v h')
    (hL : ∀ (i : Nat) (d : DOp), L[i]? = some d → ∃ o, ops[i]? = some o ∧ trO P ops o = some d.op) :
    ∀ (fuel : Nat) (listed : Array Bool) (fr : List AV) (h : Heap) (φ : Phi) (w : World) (a : Act), anyA ops cf base L (fr1, h1) fuel listed (fr, h) →
      HR B h φ w → FR w (Own B h φ) φ fr a.tmps → a.defers = [] → base ≤ h.length →
      (∀ k d, listed.getD k true = false → L[k]? = some d → d.op.ins.cls = 2 → base + k < h.length ∧ look h (base + k) = none ∧ φ (base + k) = none) →
      (∀ φ' w' a', HR B h1 φ' w' → Stp φ (Live h φ) w φ' (Live h1 φ') w' → FR w' (Own B h1 φ') φ' fr1 a'.tmps → a'.defers = [] → h.length ≤ h1.length → (∀ o, o < base → φ' o = φ o) → Q .normal a' w') →
      wpAny P .any ops Q fuel listed a w
  | 0, listed, fr, h, φ, w, a, hA, hr, hf, hd, hb, hs, hQ => by
    obtain ⟨h2, h3⟩ := hA
    cases h3
    exact ⟨h2, hQ φ w a hr (Stp.refl _ _ _) hf hd (Nat.le_refl _) fun _ _ => rfl⟩
  | fuel + 1, listed, fr, h, φ, w, a, hA, hr, hf, hd, hb, hs, hQ => by
    obtain ⟨h2, h3⟩ := hA
    refine ⟨fun hn => ?_, fun i hi => ?_⟩
    · have := h2 hn
      cases this
      exact hQ φ w a hr (Stp.refl _ _ _) hf hd (Nat.le_refl _) fun _ _ => rfl
    · obtain ⟨⟨fr', h'⟩, e1, e2⟩ := h3 i hi
      have hli := (mem_ready.1 hi).1
      simp only [stepAt] at e1
      split at e1
      · rename_i d hd1
        obtain ⟨o, ho, hto⟩ := hL i d hd1
        simp only [stepD] at e1
        have hk : ∃ v, evCore (cf (d.forb.map (base + ·))) (hide h (d.forb.map (base + ·))) (base + i) (d.wr.map fun l => l.map (base + ·)) d.op fr h = some (v, h') := by
          simp only [evOp, Option.map_eq_some_iff, Prod.mk.injEq] at e1
          obtain ⟨⟨v, h4⟩, q, _, rfl⟩ := e1
          exact ⟨v, q⟩
        obtain ⟨v, hk⟩ := hk
        have kk := core_kind hp hk
        have := evOp_sound (K := wpAny P .any ops Q fuel (listed.setIfInBounds i true)) (Q := Q) hto e1 (hide_sub h _) (fun f args v => hcf _ f args h v h') hr hf hd
          (fun hc => hs i d hli hd1 hc) (fun φ' w' a' haft hf' hd' => by
          refine any_sound hp hcf hL fuel _ fr' h' φ' w' a' e2 haft.hr hf' hd' (Nat.le_trans hb haft.len) (fun k d' hlk hdk hc => ?_) fun φ'' w'' a'' q1 q2 q3 q4 q5 q6 => hQ φ'' w'' a'' q1 (haft.stp.trans q2) q3 q4 (Nat.le_trans haft.len q5) fun o ho => ?_
          · have hik : i ≠ k := by
              rintro rfl
              by_cases hsz : i < listed.size
              · rw [getD_set _ _ _ _ hsz] at hlk; simp at hlk
              · rw [Array.setIfInBounds_eq_of_size_le (by omega)] at hlk
                simp [Array.getD, hsz] at hlk
            have hlk' : listed.getD k true = false := by
              by_cases hsz : i < listed.size
              · rw [getD_set _ _ _ _ hsz, if_neg hik] at hlk; exact hlk
              · rw [Array.setIfInBounds_eq_of_size_le (by omega)] at hlk; exact hlk
            obtain ⟨s1, s2, s3⟩ := hs k d' hlk' hdk hc
            exact ⟨Nat.lt_of_lt_of_le s1 haft.len, kind_dead kk _ s1 s2 (by omega), by rw [haft.slot _ s1 (by omega)]; exact s3⟩
          · rw [q6 o ho]
            exact haft.slot o (by omega) (by omega))
        unfold wpOp
        rw [ho]
        simp only
        split
        · rename_i hw; rw [if_pos hw] at this; exact .inl this
        · rename_i hw; rw [if_neg hw] at this; exact this
      · cases e1

theorem withForb_get (ps ms us : List Nat) : ∀ (l : List AOp) (j i : Nat) (d : DOp), (withForb ps ms us j l)[i]? = some d → l[i]? = some d.op
  | [], j, i, d, h => by simp [withForb] at h
  | o :: l, j, 0, d, h => by simp [withForb] at h; subst h; rfl
  | o :: l, j, i + 1, d, h => by simpa using withForb_get ps ms us l (j + 1) i d (by simpa [withForb] using h)
theorem withForb_length (ps ms us : List Nat) : ∀ (l : List AOp) (j : Nat), (withForb ps ms us j l).length = l.length
  | [], j => rfl
  | o :: l, j => by simp [withForb, withForb_length ps ms us l (j + 1)]

theorem dreg_sound {Q : Exit → Act → World → Prop} {id : Nat} {l : List AOp} {ps : List Nat} {fr fr1 : List AV} {h h1 : Heap} {φ : Phi} {w : World} {a : Act} (hm : P.follows .mixedOrders = true) (hp : PureC cf) (hcf : ∀ fb f args h v h', CallOk P B (cf fb) f args h v h')
    (hl : ops.toList.mapM (trO P ops) = some l) (hLL : ∀ (i : Nat) (d : DOp), L[i]? = some d → l[i]? = some d.op) (hLn : L.length = l.length) (hps : predsOk ps 0 ops.toList = true) (hdr : drawOk ps 0 L = true)
    (he : evDops cf h.length 0 L fr (h ++ List.replicate L.length none) = some (fr1, h1)) (hr : HR B h φ w) (hf : FR w (Own B h φ) φ fr a.tmps) (hd : a.defers = [])
    (hQ : ∀ φ' w' a', HR B h1 φ' w' → Stp φ (Live h φ) w φ' (Live h1 φ') w' → FR w' (Own B h1 φ') φ' fr1 a'.tmps → a'.defers = [] → h.length ≤ h1.length → (∀ o, o < h.length → φ' o = φ o) → Q .normal a' w') :
    (Code.region id ops true).wp P Q a w := by
  obtain ⟨n1, n2⟩ := mapM_some hl
  have hn : L.length = ops.size := by rw [hLn, n1]; simp
  refine wp_region_any hm ?_
  rw [evDops_runR (L := L) L 0 _ _ (fun j => by simp)] at he
  have hrem : rem ops.size (Array.replicate ops.size false) = List.range' 0 L.length := by
    rw [hn, ← List.range_eq_range']
    unfold rem
    apply List.filter_eq_self.2
    intro i hi
    simp at hi
    simp [Array.getD, hi]
  have hA := any_main (ops := ops) (cf := cf) (base := h.length) (L := L) (fin := (fr1, h1)) hps hdr hn hp ops.size (Array.replicate ops.size false) (fr, h ++ List.replicate L.length none) (by simp)
    (fun k hk hlk => by simp [Array.getD, hk] at hlk) (by rw [hrem]; simp [hn]) (by rw [hrem]; exact he)
  refine any_sound hp hcf (fun i d hd => ?_) _ _ fr _ φ _ a hA ((hr.pad _).drew _) ?_ hd (by simp) (fun k d _ hdk _ => ⟨?_, ?_, ?_⟩) fun φ' w' a' q1 q2 q3 q4 q5 q6 => hQ φ' w' a' q1 ?_ q3 q4 (by simp at q5; omega) q6
  · have hi := hLL i d hd
    have hlt : i < ops.toList.length := by rw [← n1]; exact (List.getElem?_eq_some_iff.1 hi).1
    exact ⟨ops.toList[i], by rw [← Array.getElem?_toList]; exact List.getElem?_eq_getElem hlt, n2 i _ _ (List.getElem?_eq_getElem hlt) hi⟩
  · rw [own_pad]
    exact hf.stp (Stp.drew φ _ w _)
  · have := (List.getElem?_eq_some_iff.1 hdk).1
    simp; omega
  · rw [look_pad]
    cases hx : look h (h.length + k) with
    | none => rfl
    | some cs => have := look_lt hx; omega
  · cases hx : φ (h.length + k) with
    | none => rfl
    | some p => have := hr.dom _ _ hx; omega
  · rw [live_pad] at q2
    exact (Stp.drew φ _ w _).trans q2
end
end Go.Ev
