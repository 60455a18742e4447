/- A region whose order is open, continued. -/
import Derived.Test.YtpjjloaphlaokaaEvQ
set_option linter.unusedVariables false
set_option linter.unusedSimpArgs false
set_option linter.unnecessarySimpa false
namespace Go.Ev
open Go

abbrev St := List AV × Heap
section
variable {P : Program} {B : Nat → Prop} {ops : Array Oper} {cf : List Nat → CallF} {base : Nat} {L : List DOp}

def stepAt (cf : List Nat → CallF) (base : Nat) (L : List DOp) (k : Nat) (st : St) : Option St := match L[k]? with
  | some o => stepD cf base k o st
  | none => none
def runR (cf : List Nat → CallF) (base : Nat) (L : List DOp) : List Nat → St → Option St
  | [], st => some st
  | k :: R, st => (stepAt cf base L k st).bind (runR cf base L R)
def anyA (ops : Array Oper) (cf : List Nat → CallF) (base : Nat) (L : List DOp) (fin : St) : Nat → Array Bool → St → Prop
  | 0, listed, st => Region.ready .any ops listed = [] ∧ st = fin
  | n + 1, listed, st => (Region.ready .any ops listed = [] → st = fin) ∧ ∀ i ∈ Region.ready .any ops listed, ∃ st', stepAt cf base L i st = some st' ∧ anyA ops cf base L fin n (listed.setIfInBounds i true) st'

theorem bubble (hp : PureC cf) {i : Nat} {fin : St} : ∀ (R : List Nat) (st : St), (∀ r ∈ R, r < i → ∃ x y, L[r]? = some x ∧ L[i]? = some y ∧ pairOk x r y i = true) → R.Pairwise (· < ·) → i ∈ R → runR cf base L R st = some fin →
    runR cf base L (i :: R.erase i) st = some fin
  | [], _, _, _, hi, _ => by cases hi
  | r :: R, st, hc, hs, hi, hr => by
    by_cases hri : r = i
    · subst hri
      rw [List.erase_cons_head]
      exact hr
    · have hi' : i ∈ R := (List.mem_cons.1 hi).resolve_left fun e => hri e.symm
      obtain ⟨h1, h2⟩ := List.pairwise_cons.1 hs
      rw [List.erase_cons_tail (by simpa using hri)]
      simp only [runR, Option.bind_eq_some_iff] at hr
      obtain ⟨st1, e1, e2⟩ := hr
      have ih := bubble hp R st1 (fun r' hr' => hc r' (List.mem_cons_of_mem _ hr')) h2 hi' e2
      simp only [runR, Option.bind_eq_some_iff] at ih
      obtain ⟨st2, e3, e4⟩ := ih
      obtain ⟨x, y, hx, hy, hxy⟩ := hc r List.mem_cons_self (h1 i hi')
      simp only [stepAt, hx] at e1
      simp only [stepAt, hy] at e3
      obtain ⟨fr, h⟩ := st
      obtain ⟨fr1, h1'⟩ := st1
      obtain ⟨fr2, h2'⟩ := st2
      obtain ⟨st', q1, q2⟩ := commute hp hri hxy e1 e3
      simp only [runR, Option.bind_eq_some_iff]
      exact ⟨st', by simp only [stepAt, hy]; exact q1, (fr2, h2'), by simp only [stepAt, hx]; exact q2, e4⟩

theorem mask_bit (ps : List Nat) (j : Nat) : ∀ (l : List Nat) (m : Nat), (maskOf ps l m).testBit j = true → m.testBit j = true ∨ ∃ e ∈ l, e = j ∨ (ps.getD e 0).testBit j = true
  | [], m, h => .inl h
  | e :: l, m, h => by
    rcases mask_bit ps j l _ h with h1 | ⟨e', h1, h2⟩
    · simp only [Nat.testBit_or, Bool.or_eq_true, Nat.testBit_two_pow, decide_eq_true_eq] at h1
      rcases h1 with (h1 | h1) | h1
      · exact .inl h1
      · exact .inr ⟨e, List.mem_cons_self, .inl h1⟩
      · exact .inr ⟨e, List.mem_cons_self, .inr h1⟩
    · exact .inr ⟨e', List.mem_cons_of_mem _ h1, h2⟩
theorem predsOk_spec {ps : List Nat} : ∀ (l : List Oper) (i : Nat), predsOk ps i l = true → ∀ k o, l[k]? = some o → (∀ e ∈ bindsOf o, e < i + k) ∧ ∀ j, (ps.getD (i + k) 0).testBit j = true → ∃ e ∈ bindsOf o, e = j ∨ (ps.getD e 0).testBit j = true
  | [], _, _, k, o, h => by simp at h
  | o' :: l, i, h, k, o, hk => by
    simp only [predsOk, Bool.and_eq_true, List.all_eq_true] at h
    obtain ⟨⟨h1, h2⟩, h3⟩ := h
    cases k with
    | zero =>
      simp at hk
      subst hk
      refine ⟨fun e he => by have := h1 e he; simpa [Nat.blt_eq] using this, fun j hj => ?_⟩
      rw [Nat.add_zero, Nat.eq_of_beq_eq_true h2] at hj
      rcases mask_bit ps j _ _ hj with q | q
      · simp at q
      · exact q
    | succ k =>
      have := predsOk_spec l (i + 1) h3 k o (by simpa using hk)
      rw [show i + (k + 1) = i + 1 + k by omega]
      exact this
theorem mem_binds {o : Oper} {e : Edge} (he : e ∈ o.after) (hb : Region.binds .any e = true) : e.on ∈ bindsOf o := by
  simp only [bindsOf, List.mem_map, List.mem_filter]
  exact ⟨e, ⟨by simpa using he, hb⟩, rfl⟩
theorem binds_mem {o : Oper} {k : Nat} (hk : k ∈ bindsOf o) : ∃ e ∈ o.after, Region.binds .any e = true ∧ e.on = k := by
  simp only [bindsOf, List.mem_map, List.mem_filter] at hk
  obtain ⟨e, ⟨h1, h2⟩, h3⟩ := hk
  exact ⟨e, by simpa using h1, h2, h3⟩
theorem rowOk_spec {ps : List Nat} {x : DOp} {i : Nat} : ∀ (l : List DOp) (j : Nat), rowOk ps x i j l = true → ∀ k y, l[k]? = some y → (ps.getD (j + k) 0).testBit i = true ∨ pairOk x i y (j + k) = true
  | [], _, _, k, y, h => by simp at h
  | y' :: l, j, h, k, y, hk => by
    simp only [rowOk, Bool.and_eq_true, Bool.or_eq_true] at h
    cases k with
    | zero => simp at hk; subst hk; exact h.1
    | succ k =>
      have := rowOk_spec l (j + 1) h.2 k y (by simpa using hk)
      rw [show j + (k + 1) = j + 1 + k by omega]
      exact this
theorem drawOk_spec {ps : List Nat} : ∀ (l : List DOp) (i : Nat), drawOk ps i l = true → ∀ a b x y, a < b → l[a]? = some x → l[b]? = some y → (ps.getD (i + b) 0).testBit (i + a) = true ∨ pairOk x (i + a) y (i + b) = true
  | [], _, _, a, b, x, y, _, h, _ => by simp at h
  | x' :: l, i, h, a, b, x, y, hab, ha, hb => by
    simp only [drawOk, Bool.and_eq_true] at h
    cases b with
    | zero => omega
    | succ b =>
      cases a with
      | zero =>
        simp at ha
        subst ha
        have := rowOk_spec l (i + 1) h.1 b y (by simpa using hb)
        rw [show i + (b + 1) = i + 1 + b by omega]
        exact this
      | succ a =>
        have := drawOk_spec l (i + 1) h.2 a b x y (by omega) (by simpa using ha) (by simpa using hb)
        rw [show i + (b + 1) = i + 1 + b by omega, show i + (a + 1) = i + 1 + a by omega]
        exact this

/-- What is not listed yet. -/
def rem (n : Nat) (listed : Array Bool) : List Nat := (List.range n).filter fun i => !listed.getD i true
theorem rem_mem {n i : Nat} {listed : Array Bool} : i ∈ rem n listed ↔ i < n ∧ listed.getD i true = false := by simp [rem]
theorem rem_sorted (n : Nat) (listed : Array Bool) : (rem n listed).Pairwise (· < ·) := List.Pairwise.filter _ List.pairwise_lt_range
theorem getD_set (listed : Array Bool) (i j : Nat) (d : Bool) (hi : i < listed.size) : (listed.setIfInBounds i true).getD j d = if i = j then true else listed.getD j d := by
  by_cases hij : i = j
  · subst hij
    simp [Array.getD, hi]
  · simp only [Array.getD_eq_getD_getElem?, Array.getElem?_setIfInBounds, hij, if_false]
theorem rem_set {n i : Nat} {listed : Array Bool} (hi : i < listed.size) : rem n (listed.setIfInBounds i true) = (rem n listed).erase i := by
  have hnd : (rem n listed).Nodup := (rem_sorted n listed).imp fun h => Nat.ne_of_lt h
  rw [hnd.erase_eq_filter]
  unfold rem
  rw [List.filter_filter]
  apply List.filter_congr
  intro j _
  rw [getD_set _ _ _ _ hi]
  by_cases hij : i = j
  · subst hij; simp
  · have : (j != i) = true := by simpa using fun e => hij e.symm
    simp [hij, this]

theorem any_main {ps : List Nat} {fin : St} (hps : predsOk ps 0 ops.toList = true) (hd : drawOk ps 0 L = true) (hL : L.length = ops.size) (hp : PureC cf) : ∀ (fuel : Nat) (listed : Array Bool) (st : St), listed.size = ops.size →
    (∀ k, k < ops.size → listed.getD k false = true → ∀ j, (ps.getD k 0).testBit j = true → listed.getD j false = true) → (rem ops.size listed).length = fuel → runR cf base L (rem ops.size listed) st = some fin → anyA ops cf base L fin fuel listed st := by
  have gd : ∀ (listed : Array Bool) (k : Nat), listed.size = ops.size → k < ops.size → listed.getD k true = listed.getD k false := by
    intro listed k h1 h2
    simp [Array.getD, h1, h2]
  -- an index that is ready is to be done, and the first that is to be done is ready
  have first : ∀ (listed : Array Bool), listed.size = ops.size → Region.ready .any ops listed = [] → rem ops.size listed = [] := by
    intro listed hsz hn
    cases hR : rem ops.size listed with
    | nil => rfl
    | cons r R =>
      exfalso
      have hr : r ∈ rem ops.size listed := by rw [hR]; exact List.mem_cons_self
      obtain ⟨h1, h2⟩ := rem_mem.1 hr
      have hmem : r ∈ Region.ready .any ops listed := by
        refine mem_ready.2 ⟨h2, ops[r], Array.getElem?_eq_getElem h1, fun e he hb => ?_⟩
        have hlt := (predsOk_spec _ _ hps r ops[r] (by simp [h1])).1 _ (mem_binds he hb)
        have hlt' : e.on < r := by omega
        rcases hx : listed.getD e.on false with _ | _
        · exfalso
          have : e.on ∈ rem ops.size listed := rem_mem.2 ⟨by omega, by rw [gd listed _ hsz (by omega)]; exact hx⟩
          have hs := rem_sorted ops.size listed
          rw [hR] at this hs
          rcases List.mem_cons.1 this with q | q
          · omega
          · have := (List.pairwise_cons.1 hs).1 _ q
            omega
        · rfl
      rw [hn] at hmem
      cases hmem
  intro fuel
  induction fuel with
  | zero =>
    intro listed st hsz _ hlen hrun
    have h0 : rem ops.size listed = [] := List.length_eq_zero_iff.1 hlen
    rw [h0] at hrun
    simp only [runR, Option.some.injEq] at hrun
    refine ⟨?_, hrun⟩
    cases hR : Region.ready .any ops listed with
    | nil => rfl
    | cons r R =>
      exfalso
      have : r ∈ Region.ready .any ops listed := by rw [hR]; exact List.mem_cons_self
      obtain ⟨h1, o, h2, _⟩ := mem_ready.1 this
      have : r ∈ rem ops.size listed := rem_mem.2 ⟨(Array.getElem?_eq_some_iff.1 h2).1, h1⟩
      rw [h0] at this
      cases this
  | succ fuel ih =>
    intro listed st hsz hcl hlen hrun
    refine ⟨fun hn => ?_, fun i hi => ?_⟩
    · have := first listed hsz hn
      rw [this] at hlen
      simp at hlen
    · obtain ⟨h1, o, h2, h3⟩ := mem_ready.1 hi
      have hin : i < ops.size := (Array.getElem?_eq_some_iff.1 h2).1
      have hir : i ∈ rem ops.size listed := rem_mem.2 ⟨hin, h1⟩
      -- what must come before is listed
      have hpre : ∀ j, (ps.getD i 0).testBit j = true → listed.getD j false = true := by
        intro j hj
        obtain ⟨e, he, hej⟩ := (predsOk_spec _ _ hps i o (by simpa using h2)).2 j (by rw [Nat.zero_add]; exact hj)
        obtain ⟨ed, h4, h5, h6⟩ := binds_mem he
        have hl := h3 ed h4 h5
        rw [h6] at hl
        rcases hej with rfl | hej
        · exact hl
        · have hlt : e < ops.size := by
            have := (predsOk_spec _ _ hps i o (by simpa using h2)).1 e he
            omega
          exact hcl e hlt hl j hej
      have hb := bubble (L := L) (base := base) (cf := cf) hp (i := i) (rem ops.size listed) st (fun r hr hri => by
        obtain ⟨h4, h5⟩ := rem_mem.1 hr
        have hrL : r < L.length := by omega
        have hiL : i < L.length := by omega
        refine ⟨L[r], L[i], List.getElem?_eq_getElem hrL, List.getElem?_eq_getElem hiL, ?_⟩
        have := drawOk_spec L 0 hd r i L[r] L[i] hri (List.getElem?_eq_getElem hrL) (List.getElem?_eq_getElem hiL)
        simp only [Nat.zero_add] at this
        refine this.resolve_left fun q => ?_
        have := hpre r q
        rw [gd listed r hsz h4] at h5
        rw [h5] at this
        cases this) (rem_sorted _ _) hir hrun
      simp only [runR, Option.bind_eq_some_iff] at hb
      obtain ⟨st', e1, e2⟩ := hb
      refine ⟨st', e1, ih _ st' (by simpa using hsz) (fun k hk hlk j hj => ?_) ?_ ?_⟩
      · rw [getD_set _ _ _ _ (by omega)] at hlk ⊢
        by_cases hij : i = j
        · simp [hij]
        · rw [if_neg hij]
          by_cases hik : i = k
          · subst hik; exact hpre j hj
          · rw [if_neg hik] at hlk
            exact hcl k hk hlk j hj
      · rw [rem_set (by omega), List.length_erase_of_mem hir, hlen]
        rfl
      · rw [rem_set (by omega)]
        exact e2

theorem evDops_runR : ∀ (l : List DOp) (k : Nat) (fr : List AV) (h : Heap), (∀ j, l[j]? = L[k + j]?) → evDops cf base k l fr h = runR cf base L (List.range' k l.length) (fr, h)
  | [], k, fr, h, _ => rfl
  | o :: l, k, fr, h, hl => by
    have h0 : L[k]? = some o := by simpa using (hl 0).symm
    simp only [List.length_cons, List.range'_succ, runR, stepAt, h0, evDops, stepD]
    cases he : evOp (cf (o.forb.map (base + ·))) (hide h (o.forb.map (base + ·))) (base + k) (o.wr.map fun l => l.map (base + ·)) o.op fr h with
    | none => rfl
    | some st =>
      obtain ⟨fr', h'⟩ := st
      simp only [Option.bind_some]
      exact evDops_runR l (k + 1) fr' h' fun j => by
        have := hl (j + 1)
        simpa [Nat.add_assoc, Nat.add_comm 1 j] using this
end
end Go.Ev
