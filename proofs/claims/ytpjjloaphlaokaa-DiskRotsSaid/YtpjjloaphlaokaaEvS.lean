/- A region whose order is open: the end. -/
import Derived.Test.YtpjjloaphlaokaaEvR
set_option linter.unusedVariables false
set_option linter.unusedSimpArgs false
set_option linter.unnecessarySimpa false
namespace Go.Ev
open Go
section
variable {P : Program} {B : Nat → Prop} {ops : Array Oper} {cf : List Nat → CallF} {base : Nat} {L : List DOp}

theorem hide_sub (h : Heap) (fb : List Nat) : ∀ o cs, hide h fb o = some cs → look h o = some cs := by
  intro o cs e
  unfold hide at e
  split at e
  · cases e
  · exact e

/-- Where a step of such a region leaves the slots. -/
theorem kind_dead {fb : List Nat} {s : Nat} {wr : Option (List Nat)} {o : AOp} {fr : List AV} {h h' : Heap} {v : AV} (k : Kind cf fb s wr o fr h v h') (j : Nat) (hj : j < h.length) (hn : look h j = none) (hs : j ≠ s) : look h' j = none := by
  cases k with
  | quiet _ => exact hn
  | make cs _ _ => rw [look_set, if_neg]; exact hn; rintro ⟨e, _⟩; exact hs e.symm
  | change _ _ hd _ _ => exact hd j hj hs hn

theorem any_sound {Q : Exit → Act → World → Prop} {fr1 : List AV} {h1 : Heap} (hp : PureC cf) (hcf : ∀ fb f args h v h', CallOk P B (cf fb) f args h v h') (hmk : ∀ fb, MkOk P (cf fb))
    (hL : ∀ (i : Nat) (d : DOp), L[i]? = some d → ∃ o, ops[i]? = some o ∧ TrR P ops o d.op) :
    ∀ (fuel : Nat) (listed : Array Bool) (fr : List AV) (h : Heap) (φ : Phi) (w : World) (a : Act), anyA ops cf base L (fr1, h1) fuel listed (fr, h) →
      HR B h φ w → FR w (Own B h φ) φ fr a.tmps → a.defers = [] → base ≤ h.length →
      (∀ k d, listed.getD k true = false → L[k]? = some d → base + k < h.length ∧ look h (base + k) = none ∧ φ (base + k) = none) →
      (∀ φ' w' a', HR B h1 φ' w' → Stp φ (Live h φ) w φ' (Live h1 φ') w' → FR w' (Own B h1 φ') φ' fr1 a'.tmps → a'.defers = [] → h.length ≤ h1.length → (∀ o, o < base → φ' o = φ o) → Q .normal a' w') →
      wpAny P .any ops Q fuel listed a w
  | 0, listed, fr, h, φ, w, a, hA, hr, hf, hd, hb, hs, hQ => by
    obtain ⟨h2, h3⟩ := hA
    cases h3
    exact ⟨h2, hQ φ w a hr (Stp.refl _ _ _) hf hd (Nat.le_refl _) fun _ _ => rfl⟩
  | fuel + 1, listed, fr, h, φ, w, a, hA, hr, hf, hd, hb, hs, hQ => by
    obtain ⟨h2, h3⟩ := hA
    refine ⟨fun hn => ?_, fun i hi => ?_⟩
    · have := h2 hn
      cases this
      exact hQ φ w a hr (Stp.refl _ _ _) hf hd (Nat.le_refl _) fun _ _ => rfl
    · obtain ⟨⟨fr', h'⟩, e1, e2⟩ := h3 i hi
      have hli := (mem_ready.1 hi).1
      simp only [stepAt] at e1
      split at e1
      · rename_i d hd1
        obtain ⟨o, ho, hto⟩ := hL i d hd1
        simp only [stepD] at e1
        have hk : ∃ v, evCore (cf (d.forb.map (base + ·))) (hide h (d.forb.map (base + ·))) (base + i) (d.wr.map fun l => l.map (base + ·)) d.op fr h = some (v, h') := by
          simp only [evOp, Option.map_eq_some_iff, Prod.mk.injEq] at e1
          obtain ⟨⟨v, h4⟩, q, _, rfl⟩ := e1
          exact ⟨v, q⟩
        obtain ⟨v, hk⟩ := hk
        have kk := core_kind hp hk
        have := evOp_sound (K := wpAny P .any ops Q fuel (listed.setIfInBounds i true)) (Q := Q) hto e1 (hide_sub h _) (fun f args v => hcf _ f args h v h') (hmk _) hr hf hd
          (fun _ => hs i d hli hd1) (fun φ' w' a' haft hf' hd' => by
          refine any_sound hp hcf hmk hL fuel _ fr' h' φ' w' a' e2 haft.hr hf' hd' (Nat.le_trans hb haft.len) (fun k d' hlk hdk => ?_) fun φ'' w'' a'' q1 q2 q3 q4 q5 q6 => hQ φ'' w'' a'' q1 (haft.stp.trans q2) q3 q4 (Nat.le_trans haft.len q5) fun o ho => ?_
          · have hik : i ≠ k := by
              rintro rfl
              by_cases hsz : i < listed.size
              · rw [getD_set _ _ _ _ hsz] at hlk; simp at hlk
              · rw [Array.setIfInBounds_eq_of_size_le (by omega)] at hlk
                simp [Array.getD, hsz] at hlk
            have hlk' : listed.getD k true = false := by
              by_cases hsz : i < listed.size
              · rw [getD_set _ _ _ _ hsz, if_neg hik] at hlk; exact hlk
              · rw [Array.setIfInBounds_eq_of_size_le (by omega)] at hlk; exact hlk
            obtain ⟨s1, s2, s3⟩ := hs k d' hlk' hdk
            exact ⟨Nat.lt_of_lt_of_le s1 haft.len, kind_dead kk _ s1 s2 (by omega), by rw [haft.slot _ s1 (by omega)]; exact s3⟩
          · rw [q6 o ho]
            exact haft.slot o (by omega) (by omega))
        unfold wpOp
        rw [ho]
        simp only
        split
        · rename_i hw; rw [if_pos hw] at this; exact .inl this
        · rename_i hw; rw [if_neg hw] at this; exact this
      · cases e1

theorem withForb_get (ps ms us : List Nat) : ∀ (l : List AOp) (j i : Nat) (d : DOp), (withForb ps ms us j l)[i]? = some d → l[i]? = some d.op
  | [], j, i, d, h => by simp [withForb] at h
  | o :: l, j, 0, d, h => by simp [withForb] at h; subst h; rfl
  | o :: l, j, i + 1, d, h => by simpa using withForb_get ps ms us l (j + 1) i d (by simpa [withForb] using h)
theorem withForb_length (ps ms us : List Nat) : ∀ (l : List AOp) (j : Nat), (withForb ps ms us j l).length = l.length
  | [], j => rfl
  | o :: l, j => by simp [withForb, withForb_length ps ms us l (j + 1)]

theorem dopsOf_len (ps : List Nat) (bl mk : List Nat) (l : List AOp) : (dopsOf ps (l.map (AOp.flag bl mk))).length = l.length := by
  unfold dopsOf
  rw [withForb_length, List.length_map]
theorem dopsOf_get {ps bl mk : List Nat} {l : List AOp} {i : Nat} {d : DOp} (h : (dopsOf ps (l.map (AOp.flag bl mk)))[i]? = some d) : ∃ o, l[i]? = some o ∧ d.op = o.flag bl mk := by
  have := withForb_get _ _ _ _ _ _ _ h
  rw [List.getElem?_map, Option.map_eq_some_iff] at this
  obtain ⟨o, h1, h2⟩ := this
  exact ⟨o, h1, h2.symm⟩
theorem dreg_sound {Q : Exit → Act → World → Prop} {id : Nat} {l : List AOp} {ps : List Nat} {fr fr1 : List AV} {h h1 : Heap} {φ : Phi} {w : World} {a : Act} (hm : P.follows .mixedOrders = true) (hp : PureC cf) (hcf : ∀ fb f args h v h', CallOk P B (cf fb) f args h v h') (hmk : ∀ fb, MkOk P (cf fb)) {bl mk : List Nat}
    (hl : ops.toList.mapM (trO P ops) = some l) (hLL : ∀ (i : Nat) (d : DOp), L[i]? = some d → ∃ o, l[i]? = some o ∧ d.op = o.flag bl mk) (hLn : L.length = l.length) (hps : predsOk ps 0 ops.toList = true) (hdr : drawOk ps 0 L = true)
    (he : evDops cf h.length 0 L fr (h ++ List.replicate L.length none) = some (fr1, h1)) (hr : HR B h φ w) (hf : FR w (Own B h φ) φ fr a.tmps) (hd : a.defers = [])
    (hQ : ∀ φ' w' a', HR B h1 φ' w' → Stp φ (Live h φ) w φ' (Live h1 φ') w' → FR w' (Own B h1 φ') φ' fr1 a'.tmps → a'.defers = [] → h.length ≤ h1.length → (∀ o, o < h.length → φ' o = φ o) → Q .normal a' w') :
    (Code.region id ops true).wp P Q a w := by
  obtain ⟨n1, n2⟩ := mapM_some hl
  have hn : L.length = ops.size := by rw [hLn, n1]; simp
  refine wp_region_any hm ?_
  rw [evDops_runR (L := L) L 0 _ _ (fun j => by simp)] at he
  have hrem : rem ops.size (Array.replicate ops.size false) = List.range' 0 L.length := by
    rw [hn, ← List.range_eq_range']
    unfold rem
    apply List.filter_eq_self.2
    intro i hi
    simp at hi
    simp [Array.getD, hi]
  have hA := any_main (ops := ops) (cf := cf) (base := h.length) (L := L) (fin := (fr1, h1)) hps hdr hn hp ops.size (Array.replicate ops.size false) (fr, h ++ List.replicate L.length none) (by simp)
    (fun k hk hlk => by simp [Array.getD, hk] at hlk) (by rw [hrem]; simp [hn]) (by rw [hrem]; exact he)
  refine any_sound hp hcf hmk (fun i d hd => ?_) _ _ fr _ φ _ a hA ((hr.pad _).drew _) ?_ hd (by simp) (fun k d _ hdk => ⟨?_, ?_, ?_⟩) fun φ' w' a' q1 q2 q3 q4 q5 q6 => hQ φ' w' a' q1 ?_ q3 q4 (by simp at q5; omega) q6
  · obtain ⟨o', hi, ho'⟩ := hLL i d hd
    have hlt : i < ops.toList.length := by rw [← n1]; exact (List.getElem?_eq_some_iff.1 hi).1
    exact ⟨ops.toList[i], by rw [← Array.getElem?_toList]; exact List.getElem?_eq_getElem hlt, o', bl, mk, n2 i _ _ (List.getElem?_eq_getElem hlt) hi, ho'⟩
  · rw [own_pad]
    exact hf.stp (Stp.drew φ _ w _)
  · have := (List.getElem?_eq_some_iff.1 hdk).1
    simp; omega
  · rw [look_pad]
    cases hx : look h (h.length + k) with
    | none => rfl
    | some cs => have := look_lt hx; omega
  · cases hx : φ (h.length + k) with
    | none => rfl
    | some p => have := hr.dom _ _ hx; omega
  · rw [live_pad] at q2
    exact (Stp.drew φ _ w _).trans q2

/-! ### A region whose last operation waits for all others -/
theorem predsOk_pre {ps : List Nat} {o : Oper} : ∀ (l : List Oper) (i : Nat), predsOk ps i (l ++ [o]) = true → predsOk ps i l = true
  | [], i, _ => rfl
  | x :: l, i, h => by
    simp only [List.cons_append, predsOk, Bool.and_eq_true] at h ⊢
    exact ⟨h.1, predsOk_pre l (i + 1) h.2⟩
theorem ready_nil {ps : List Nat} (hps : predsOk ps 0 ops.toList = true) (listed : Array Bool) (hsz : listed.size = ops.size) (hn : Region.ready .any ops listed = []) : rem ops.size listed = [] := by
  have gd : ∀ (k : Nat), k < ops.size → listed.getD k true = listed.getD k false := by
    intro k h2
    simp [Array.getD, hsz, h2]
  cases hR : rem ops.size listed with
  | nil => rfl
  | cons r R =>
    exfalso
    have hr : r ∈ rem ops.size listed := by rw [hR]; exact List.mem_cons_self
    obtain ⟨h1, h2⟩ := rem_mem.1 hr
    have hmem : r ∈ Region.ready .any ops listed := by
      refine mem_ready.2 ⟨h2, ops[r], Array.getElem?_eq_getElem h1, fun e he hb => ?_⟩
      have hlt := (predsOk_spec _ _ hps r ops[r] (by simp [h1])).1 _ (mem_binds he hb)
      have hlt' : e.on < r := by omega
      rcases hx : listed.getD e.on false with _ | _
      · exfalso
        have : e.on ∈ rem ops.size listed := rem_mem.2 ⟨by omega, by rw [gd _ (by omega)]; exact hx⟩
        have hs := rem_sorted ops.size listed
        rw [hR] at this hs
        rcases List.mem_cons.1 this with q | q
        · omega
        · have := (List.pairwise_cons.1 hs).1 _ q
          omega
      · rfl
    rw [hn] at hmem
    cases hmem
theorem getD_push_lt {listed : Array Bool} {i k : Nat} (d : Bool) (hk : listed.size = k) (hi : i < k) : (listed.push false).getD i d = listed.getD i d := by
  have h1 : i < listed.size := by omega
  have h2 : i < listed.size + 1 := by omega
  simp [Array.getD, Array.getElem_push, h1, h2]
theorem getD_push_ge {listed : Array Bool} {i k : Nat} (hk : listed.size = k) (hi : k ≤ i) : (listed.push false).getD i false = false := by
  have h1 : ¬ i < listed.size := by omega
  by_cases h2 : i < listed.size + 1 <;> simp [Array.getD, Array.getElem_push, h1, h2]
theorem set_push {listed : Array Bool} {i k : Nat} (hk : listed.size = k) (hi : i < k) : (listed.push false).setIfInBounds i true = (listed.setIfInBounds i true).push false := by
  obtain ⟨l⟩ := listed
  have h1 : i < l.length := by simp at hk; omega
  simp [List.set_append_left _ _ h1]

theorem any_last {Q : Exit → Act → World → Prop} {fr1 : List AV} {h1 : Heap} {ps : List Nat} {k : Nat} (hp : PureC cf) (hcf : ∀ fb f args h v h', CallOk P B (cf fb) f args h v h') (hmk : ∀ fb, MkOk P (cf fb))
    (hps : predsOk ps 0 ops.toList = true) (hk : ops.size = k + 1) (hfull : ∀ j, j < k → (ps.getD k 0).testBit j = true)
    (hL : ∀ (i : Nat) (d : DOp), L[i]? = some d → ∃ o, ops[i]? = some o ∧ TrR P ops o d.op) (hLn : L.length = k) :
    ∀ (fuel : Nat) (listed : Array Bool) (fr : List AV) (h : Heap) (φ : Phi) (w : World) (a : Act), anyA ops.pop cf base L (fr1, h1) fuel listed (fr, h) → listed.size = k →
      (∀ i, i < k → listed.getD i false = true → ∀ j, (ps.getD i 0).testBit j = true → listed.getD j false = true) →
      HR B h φ w → FR w (Own B h φ) φ fr a.tmps → a.defers = [] → base ≤ h.length →
      (∀ i d, listed.getD i true = false → L[i]? = some d → base + i < h.length ∧ look h (base + i) = none ∧ φ (base + i) = none) →
      (∀ φ' w' a', HR B h1 φ' w' → Stp φ (Live h φ) w φ' (Live h1 φ') w' → FR w' (Own B h1 φ') φ' fr1 a'.tmps → a'.defers = [] → h.length ≤ h1.length → (∀ o, o < base → φ' o = φ o) → wpOp P ops Q k (fun a w => Q .normal a w) a' w') →
      wpAny P .any ops Q (fuel + 1) (listed.push false) a w := by
  have hpop : ∀ i, i < k → ops.pop[i]? = ops[i]? := fun i hi => by simp [Array.getElem?_pop, hk]; omega
  have hpps : predsOk ps 0 ops.pop.toList = true := by
    have : ops.toList = ops.pop.toList ++ [ops[k]] := by
      rw [Array.toList_pop]
      have h0 : ops.toList ≠ [] := by intro e; have := congrArg List.length e; simp [hk] at this
      have h1 := List.dropLast_concat_getLast h0
      rw [← h1]
      simp [List.getLast_eq_getElem, hk]
    rw [this] at hps
    exact predsOk_pre _ _ hps
  -- what all that is listed says
  have allL : ∀ (listed : Array Bool), listed.size = k → (∀ j, j < k → listed.getD j false = true) → Region.ready .any ops ((listed.push false).setIfInBounds k true) = [] := by
    intro listed hsz hall
    refine List.eq_nil_iff_forall_not_mem.2 fun i hi => ?_
    have h0 := (mem_ready.1 hi).1
    rw [getD_set _ _ _ _ (by simp [hsz])] at h0
    by_cases hik : k = i
    · simp [hik] at h0
    · rw [if_neg hik] at h0
      by_cases hlt : i < k
      · rw [getD_push_lt _ hsz hlt] at h0
        have := hall i hlt
        simp [Array.getD, hsz, hlt] at this h0
        rw [this] at h0
        cases h0
      · have h3 : ¬ i < listed.size + 1 := by omega
        simp [Array.getD, h3] at h0
  have allP : ∀ (listed : Array Bool), listed.size = k → (∀ j, j < k → listed.getD j false = true) → Region.ready .any ops.pop listed = [] := by
    intro listed hsz hall
    refine List.eq_nil_iff_forall_not_mem.2 fun i hi => ?_
    have h0 := (mem_ready.1 hi).1
    by_cases hlt : i < k
    · have := hall i hlt
      simp [Array.getD, hsz, hlt] at this h0
      rw [this] at h0
      cases h0
    · have h3 : ¬ i < listed.size := by omega
      simp [Array.getD, h3] at h0
  have nilAll : ∀ (listed : Array Bool), listed.size = k → Region.ready .any ops.pop listed = [] → ∀ j, j < k → listed.getD j false = true := by
    intro listed hsz hn j hj
    have h0 := ready_nil (ops := ops.pop) hpps listed (by simp [hk, hsz]) hn
    rcases hx : listed.getD j false with _ | _
    · exfalso
      have : j ∈ rem ops.pop.size listed := rem_mem.2 ⟨by simp [hk, hj], by simpa [Array.getD, hsz, hj] using hx⟩
      rw [h0] at this
      cases this
    · rfl
  have inPop : ∀ (listed : Array Bool), listed.size = k → ∀ i, i ∈ Region.ready .any ops (listed.push false) → i < k → i ∈ Region.ready .any ops.pop listed := by
    intro listed hsz i hi hlt
    obtain ⟨h2, o, h3, h4⟩ := mem_ready.1 hi
    refine mem_ready.2 ⟨by rw [getD_push_lt _ hsz hlt] at h2; exact h2, o, by rw [hpop i hlt]; exact h3, fun e he hb => ?_⟩
    have := h4 e he hb
    by_cases hel : e.on < k
    · rw [getD_push_lt _ hsz hel] at this; exact this
    · rw [getD_push_ge hsz (by omega)] at this; cases this
  have ofPop : ∀ (listed : Array Bool), listed.size = k → ∀ i, i ∈ Region.ready .any ops.pop listed → i ∈ Region.ready .any ops (listed.push false) := by
    intro listed hsz i hi
    obtain ⟨h2, o, h3, h4⟩ := mem_ready.1 hi
    have hlt : i < k := by
      have := (Array.getElem?_eq_some_iff.1 h3).1
      simp [hk] at this
      exact this
    refine mem_ready.2 ⟨by rw [getD_push_lt _ hsz hlt]; exact h2, o, by rw [← hpop i hlt]; exact h3, fun e he hb => ?_⟩
    have := h4 e he hb
    by_cases hel : e.on < k
    · rw [getD_push_lt _ hsz hel]; exact this
    · have h5 : ¬ e.on < listed.size := by omega
      simp [Array.getD, h5] at this
  have lastIn : ∀ (listed : Array Bool), listed.size = k → (∀ j, j < k → listed.getD j false = true) → k ∈ Region.ready .any ops (listed.push false) := by
    intro listed hsz hall
    refine mem_ready.2 ⟨by subst hsz; simp [Array.getD], ops[k], Array.getElem?_eq_getElem (by omega), fun e he hb => ?_⟩
    have := (predsOk_spec _ _ hps k ops[k] (by simp [hk])).1 _ (mem_binds he hb)
    rw [getD_push_lt _ hsz (by omega)]
    exact hall _ (by omega)
  have noNil : ∀ (listed : Array Bool), listed.size = k → Region.ready .any ops (listed.push false) = [] → False := by
    intro listed hsz hn
    cases hr : Region.ready .any ops.pop listed with
    | nil =>
      have := lastIn listed hsz (nilAll listed hsz hr)
      rw [hn] at this
      cases this
    | cons i R =>
      have := ofPop listed hsz i (by rw [hr]; exact List.mem_cons_self)
      rw [hn] at this
      cases this
  have lastAll : ∀ (listed : Array Bool), listed.size = k → (∀ i, i < k → listed.getD i false = true → ∀ j, (ps.getD i 0).testBit j = true → listed.getD j false = true) → k ∈ Region.ready .any ops (listed.push false) →
      ∀ j, j < k → listed.getD j false = true := by
    intro listed hsz hcl hi j hj
    obtain ⟨h2, o, h3, h4⟩ := mem_ready.1 hi
    obtain ⟨e, he, hej⟩ := (predsOk_spec _ _ hps k o (by simpa using h3)).2 j (by rw [Nat.zero_add]; exact hfull j hj)
    obtain ⟨ed, q4, q5, q6⟩ := binds_mem he
    have hl := h4 ed q4 q5
    rw [q6] at hl
    have hek : e < k := by
      have := (predsOk_spec _ _ hps k o (by simpa using h3)).1 e he
      omega
    rw [getD_push_lt _ hsz hek] at hl
    rcases hej with rfl | hej
    · exact hl
    · exact hcl e hek hl j hej
  have fin : ∀ (fuel : Nat) (listed : Array Bool) (a : Act) (w : World), listed.size = k → (∀ j, j < k → listed.getD j false = true) → wpOp P ops Q k (fun a w => Q .normal a w) a w →
      wpOp P ops Q k (wpAny P .any ops Q fuel ((listed.push false).setIfInBounds k true)) a w := by
    intro fuel listed a w hsz hall hq
    refine wpOp_mono (fun a w q => ?_) hq
    have h0 := allL listed hsz hall
    cases fuel with
    | zero => exact ⟨h0, q⟩
    | succ n => exact ⟨fun _ => q, fun i hi => by rw [h0] at hi; cases hi⟩
  intro fuel
  induction fuel with
  | zero =>
    intro listed fr h φ w a hA hsz hcl hr hf hd hb hs hQ
    obtain ⟨h2, h3⟩ := hA
    cases h3
    refine ⟨fun hn => (noNil listed hsz hn).elim, fun i hi => ?_⟩
    by_cases hlt : i < k
    · have := inPop listed hsz i hi hlt
      rw [h2] at this
      cases this
    · obtain ⟨_, o, h5, _⟩ := mem_ready.1 hi
      have := (Array.getElem?_eq_some_iff.1 h5).1
      obtain rfl : i = k := by omega
      exact fin 0 listed a w hsz (nilAll listed hsz h2) (hQ φ w a hr (Stp.refl _ _ _) hf hd (Nat.le_refl _) fun _ _ => rfl)
  | succ fuel ih =>
    intro listed fr h φ w a hA hsz hcl hr hf hd hb hs hQ
    obtain ⟨h2, h3⟩ := hA
    refine ⟨fun hn => (noNil listed hsz hn).elim, fun i hi => ?_⟩
    by_cases hlt : i < k
    · have hip := inPop listed hsz i hi hlt
      obtain ⟨⟨fr', h'⟩, e1, e2⟩ := h3 i hip
      have hli := (mem_ready.1 hip).1
      simp only [stepAt] at e1
      split at e1
      · rename_i d hd1
        obtain ⟨o, ho, hto⟩ := hL i d hd1
        simp only [stepD] at e1
        have hk' : ∃ v, evCore (cf (d.forb.map (base + ·))) (hide h (d.forb.map (base + ·))) (base + i) (d.wr.map fun l => l.map (base + ·)) d.op fr h = some (v, h') := by
          simp only [evOp, Option.map_eq_some_iff, Prod.mk.injEq] at e1
          obtain ⟨⟨v, h4⟩, q, _, rfl⟩ := e1
          exact ⟨v, q⟩
        obtain ⟨v, hk'⟩ := hk'
        have kk := core_kind hp hk'
        have hpre : ∀ j, (ps.getD i 0).testBit j = true → listed.getD j false = true := by
          intro j hj
          obtain ⟨_, o', h5, h6⟩ := mem_ready.1 hip
          rw [hpop i hlt] at h5
          obtain ⟨e, he, hej⟩ := (predsOk_spec _ _ hps i o' (by simpa using h5)).2 j (by rw [Nat.zero_add]; exact hj)
          obtain ⟨ed, q4, q5, q6⟩ := binds_mem he
          have hl := h6 ed q4 q5
          rw [q6] at hl
          rcases hej with rfl | hej
          · exact hl
          · have := (predsOk_spec _ _ hps i o' (by simpa using h5)).1 e he
            exact hcl e (by omega) hl j hej
        rw [set_push hsz hlt]
        have := evOp_sound (K := wpAny P .any ops Q (fuel + 1) ((listed.setIfInBounds i true).push false)) (Q := Q) hto e1 (hide_sub h _) (fun f args v => hcf _ f args h v h') (hmk _) hr hf hd
          (fun _ => hs i d hli hd1) (fun φ' w' a' haft hf' hd' => by
          refine ih (listed.setIfInBounds i true) fr' h' φ' w' a' e2 (by simpa using hsz) (fun m hm hlm j hj => ?_) haft.hr hf' hd' (Nat.le_trans hb haft.len) (fun m d' hlk hdk => ?_) fun φ'' w'' a'' q1 q2 q3 q4 q5 q6 => hQ φ'' w'' a'' q1 (haft.stp.trans q2) q3 q4 (Nat.le_trans haft.len q5) fun o ho => ?_
          · rw [getD_set _ _ _ _ (by omega)] at hlm ⊢
            by_cases hij : i = j
            · simp [hij]
            · rw [if_neg hij]
              by_cases him : i = m
              · subst him; exact hpre j hj
              · rw [if_neg him] at hlm
                exact hcl m hm hlm j hj
          · have hik : i ≠ m := by
              rintro rfl
              rw [getD_set _ _ _ _ (by omega)] at hlk; simp at hlk
            have hlk' : listed.getD m true = false := by
              rw [getD_set _ _ _ _ (by omega), if_neg hik] at hlk; exact hlk
            obtain ⟨s1, s2, s3⟩ := hs m d' hlk' hdk
            exact ⟨Nat.lt_of_lt_of_le s1 haft.len, kind_dead kk _ s1 s2 (by omega), by rw [haft.slot _ s1 (by omega)]; exact s3⟩
          · rw [q6 o ho]
            exact haft.slot o (by omega) (by omega))
        unfold wpOp
        rw [ho]
        simp only
        split
        · rename_i hw; rw [if_pos hw] at this; exact .inl this
        · rename_i hw; rw [if_neg hw] at this; exact this
      · cases e1
    · obtain ⟨_, o, h5, _⟩ := mem_ready.1 hi
      have := (Array.getElem?_eq_some_iff.1 h5).1
      obtain rfl : i = k := by omega
      have hall := lastAll listed hsz hcl hi
      have := h2 (allP listed hsz hall)
      cases this
      exact fin _ listed a w hsz hall (hQ φ w a hr (Stp.refl _ _ _) hf hd (Nat.le_refl _) fun _ _ => rfl)
theorem lastOf_spec {ps : List Nat} {l lp : List AOp} {x : AOp} (h : lastOf ps l = some (lp, x)) : l = lp ++ [x] ∧ ∀ j, j < lp.length → (ps.getD lp.length 0).testBit j = true := by
  unfold lastOf at h
  split at h
  · cases h
  · rename_i y r hr
    split at h
    · rename_i hc
      cases h
      rw [Bool.and_eq_true] at hc
      have h2 := Nat.eq_of_beq_eq_true hc.2
      have h3 := congrArg List.reverse hr
      simp only [List.reverse_reverse, List.reverse_cons] at h3
      refine ⟨h3, fun j hj => ?_⟩
      rw [List.length_reverse] at hj ⊢
      rw [h2, Nat.testBit_two_pow_sub_one]
      simpa using hj
    · cases h
theorem mapM_snoc {α β : Type} {f : α → Option β} : ∀ {l : List α} {r : List β} {y : β}, l.mapM f = some (r ++ [y]) → ∃ l0 x, l = l0 ++ [x] ∧ f x = some y ∧ l0.length = r.length := by
  intro l r y h
  obtain ⟨n1, n2⟩ := mapM_some h
  have h0 : l ≠ [] := by intro e; subst e; simp at n1
  refine ⟨l.dropLast, l.getLast h0, (List.dropLast_concat_getLast h0).symm, ?_, by simp at n1 ⊢; omega⟩
  have hlen : l.length = r.length + 1 := by simp at n1; omega
  refine n2 r.length _ _ ?_ (by simp)
  rw [List.getLast_eq_getElem, List.getElem?_eq_getElem (by omega)]
  simp [hlen]
theorem dlast_sound {Q : Exit → Act → World → Prop} {id : Nat} {lp : List AOp} {x : AOp} {ps : List Nat} {cg : CallF} {fr fr1 fr2 : List AV} {h h1 h2 : Heap} {φ : Phi} {w : World} {a : Act} (hm : P.follows .mixedOrders = true) (hp : PureC cf) (hcf : ∀ fb f args h v h', CallOk P B (cf fb) f args h v h')
    (hmk : ∀ fb, MkOk P (cf fb)) (hcg : ∀ f args h v h', CallOk P B cg f args h v h') (hmg : MkOk P cg) {bl mk : List Nat}
    (hl : ops.toList.mapM (trO P ops) = some (lp ++ [x])) (hfull : ∀ j, j < lp.length → (ps.getD lp.length 0).testBit j = true) (hLL : ∀ (i : Nat) (d : DOp), L[i]? = some d → ∃ o, lp[i]? = some o ∧ d.op = o.flag bl mk) (hLn : L.length = lp.length) (hps : predsOk ps 0 ops.toList = true) (hdr : drawOk ps 0 L = true)
    (he : evDops cf h.length 0 L fr (h ++ List.replicate L.length none) = some (fr1, h1)) (he2 : evOps cg [x] fr1 h1 = some (fr2, h2)) (hr : HR B h φ w) (hf : FR w (Own B h φ) φ fr a.tmps) (hd : a.defers = [])
    (hQ : ∀ φ' w' a', HR B h2 φ' w' → Stp φ (Live h φ) w φ' (Live h2 φ') w' → FR w' (Own B h2 φ') φ' fr2 a'.tmps → a'.defers = [] → h.length ≤ h2.length → (∀ o, o < h.length → φ' o = φ o) → Q .normal a' w') :
    (Code.region id ops true).wp P Q a w := by
  obtain ⟨l0, o, hlo, hxo, hl0⟩ := mapM_snoc hl
  obtain ⟨n1, n2⟩ := mapM_some hl
  have hk : ops.size = lp.length + 1 := by simp at n1; omega
  have hok : ops[lp.length]? = some o := by
    rw [← Array.getElem?_toList, hlo, List.getElem?_append_right (by omega)]
    simp [hl0]
  refine wp_region_any hm ?_
  rw [evDops_runR (L := L) L 0 _ _ (fun j => by simp)] at he
  have hn : L.length = ops.pop.size := by rw [hLn, Array.size_pop]; omega
  have hrem : rem ops.pop.size (Array.replicate lp.length false) = List.range' 0 L.length := by
    rw [hn, ← List.range_eq_range']
    unfold rem
    apply List.filter_eq_self.2
    intro i hi
    simp [hk] at hi
    simp [Array.getD, hi]
  have hpps : predsOk ps 0 ops.pop.toList = true := by
    rw [Array.toList_pop, hlo]
    rw [hlo] at hps
    simpa using predsOk_pre _ _ hps
  have hA := any_main (ops := ops.pop) (cf := cf) (base := h.length) (L := L) (fin := (fr1, h1)) hpps hdr hn hp lp.length (Array.replicate lp.length false) (fr, h ++ List.replicate L.length none) (by simp [hk])
    (fun k hk' hlk => by simp [hk] at hk'; simp [Array.getD, hk'] at hlk) (by rw [hrem]; simp [hLn]) (by rw [hrem]; exact he)
  rw [hk, show Array.replicate (lp.length + 1) false = (Array.replicate lp.length false).push false by apply Array.toList_inj.1; simp [List.replicate_succ']]
  refine any_last hp hcf hmk hps hk hfull (fun i d hd => ?_) hLn _ _ fr _ φ _ a hA (by simp) (fun i hi hlk => by simp [Array.getD, hi] at hlk) ((hr.pad _).drew _) ?_ hd (by simp) (fun k d _ hdk => ⟨?_, ?_, ?_⟩) fun φ' w' a' q1 q2 q3 q4 q5 q6 => ?_
  · obtain ⟨o', hi, ho'⟩ := hLL i d hd
    have hlt : i < lp.length := (List.getElem?_eq_some_iff.1 hi).1
    have hlt' : i < ops.toList.length := by simp; omega
    exact ⟨ops.toList[i], by rw [← Array.getElem?_toList]; exact List.getElem?_eq_getElem hlt', o', bl, mk, n2 i _ _ (List.getElem?_eq_getElem hlt') (by rw [List.getElem?_append_left hlt]; exact hi), ho'⟩
  · rw [own_pad]
    exact hf.stp (Stp.drew φ _ w _)
  · have := (List.getElem?_eq_some_iff.1 hdk).1
    simp; omega
  · rw [look_pad]
    cases hx : look h (h.length + k) with
    | none => rfl
    | some cs => have := look_lt hx; omega
  · cases hx : φ (h.length + k) with
    | none => rfl
    | some p => have := hr.dom _ _ hx; omega
  · rw [live_pad] at q2
    have hl2 : h.length ≤ h1.length := by simp at q5; omega
    have := evOps_sound (Q := Q) (ops := ops) hcg hmg [o] [x] (by simp [hxo]) fr1 fr2 h1 h2 φ' w' a' he2 q1 q3 q4 fun φ'' w'' a'' p1 p2 p3 p4 p5 p6 =>
      hQ φ'' w'' a'' p1 (((Stp.drew φ _ w _).trans q2).trans p2) p3 p4 (Nat.le_trans hl2 p5) fun o ho => by rw [p6 o (by omega), q6 o ho]
    unfold wpOp
    rw [hok]
    exact this
end
end Go.Ev
