/- The preconditions suffice. -/
import Derived.Test.YtpjjloaphlaokaaEvW
set_option linter.unusedVariables false
set_option linter.unusedSimpArgs false
set_option linter.unnecessarySimpa false
namespace Go.Ev
open Go
section
variable {tab : FuncId → Option AFn}

def mkM (tab : FuncId → Option AFn) (n : Nat) : FuncId → List AV → Option (Nat × Nat × Option Nat × List AV) := fun f args => match tab f with | some af => mkRun (evC tab n) af args | none => none
def cfN (tab : FuncId → Option AFn) (n : Nat) : CallF := ⟨fun f args h => match tab f with | some af => runFn (evC tab n) af (look h) args h | none => none, mkM tab n⟩
def cfD (tab : FuncId → Option AFn) (n : Nat) (fb : List Nat) : CallF := ⟨fun f args h => match tab f with | some af => if af.isPure then runFn (evC tab n) af (hide h fb) args h else none | none => none, mkM tab n⟩
theorem mkM_mono {n m : Nat} (hnm : n ≤ m) (f : FuncId) (args : List AV) (r : Nat × Nat × Option Nat × List AV) (e : mkM tab n f args = some r) : mkM tab m f args = some r := by
  unfold mkM at e ⊢
  split at e
  · exact mkRun_mono (fun _ _ _ _ e => evC_mono hnm e) e
  · cases e
theorem cfN_mono {n m : Nat} (hnm : n ≤ m) : LeF (cfN tab n) (cfN tab m) := by
  refine ⟨fun f args h r e => ?_, fun f args r e => mkM_mono hnm f args r e⟩
  simp only [cfN] at e ⊢
  split at e
  · exact runFn_mono (fun _ _ _ _ e => evC_mono hnm e) e
  · cases e
theorem cfD_mono {n m : Nat} (hnm : n ≤ m) (fb : List Nat) : LeF (cfD tab n fb) (cfD tab m fb) := by
  refine ⟨fun f args h r e => ?_, fun f args r e => mkM_mono hnm f args r e⟩
  simp only [cfD] at e ⊢
  split at e
  · split at e
    · rename_i hp
      rw [if_pos hp]
      exact runFn_mono (fun _ _ _ _ e => evC_mono hnm e) e
    · cases e
  · cases e

theorem wo_sound {K : List AV → Heap → Prop} : ∀ (l : List AOp) (fr : List AV) (h : Heap), wo tab K l fr h → ∃ n fr' h', evOps (cfN tab n) l fr h = some (fr', h') ∧ K fr' h'
  | [], fr, h, w => ⟨0, fr, h, rfl, w⟩
  | o :: l, fr, h, w => by
    -- one step, then the others
    have step : ∀ (n0 : Nat) (fr1 : List AV) (h1 : Heap), (∀ n, n0 ≤ n → (if o.ins.cls = 2 then evOp (cfN tab n) (look h) h.length none o fr (h ++ [none]) else evOp (cfN tab n) (look h) 0 none o fr h) = some (fr1, h1)) → wo tab K l fr1 h1 →
        ∃ n fr' h', evOps (cfN tab n) (o :: l) fr h = some (fr', h') ∧ K fr' h' := by
      intro n0 fr1 h1 e w1
      obtain ⟨n1, fr', h', e1, hk⟩ := wo_sound l fr1 h1 w1
      refine ⟨max n0 n1, fr', h', ?_, hk⟩
      have e1' := evOps_mono (cfN_mono (Nat.le_max_right n0 n1)) l _ _ _ e1
      have e0 := e (max n0 n1) (Nat.le_max_left _ _)
      simp only [evOps]
      split
      · rename_i hc
        rw [if_pos hc] at e0
        rw [e0]
        exact e1'
      · rename_i hc
        rw [if_neg hc] at e0
        rw [e0]
        exact e1'
    simp only [wo] at w
    split at w
    · cases w
    · rename_i hw
      refine step 0 _ _ (fun n _ => ?_) w
      by_cases h2 : o.ins.cls = 2
      · rw [if_pos h2, if_pos h2]
        simp only [evOp, evCore, hw]
        rfl
      · rw [if_neg h2, if_neg h2]
        simp only [evOp, evCore, hw]
        rfl
    · rename_i hw
      split at w
      · rename_i hc
        split at w
        · rename_i cs mk hv
          refine step 0 _ _ (fun n _ => ?_) w
          rw [if_pos hc]
          simp only [evOp, evCore, hw, hc, hv]
          simp
        · cases w
      · rename_i hc
        split at w
        · rename_i v h' hv
          refine step 0 _ _ (fun n _ => ?_) w
          rw [if_neg (by omega)]
          simp only [evOp, evCore, hw, hc, hv, evW3]
          rfl
        · cases w
      · rename_i hc
        split at w
        · rename_i hins
          split at w
          · rename_i f cs xs ha
            obtain ⟨v, h', ⟨n0, he⟩, w⟩ := w
            refine step n0 _ _ (fun n hn => ?_) w
            have he' : cfN tab n f (xs ++ cs) h = some (v, h') := evCall_mono hn he
            rw [if_neg (by omega)]
            simp only [evOp, evCore, hw, hc, ha, hins, he']
            rfl
          · cases w
        · cases w
      · rename_i h2 h3 h4
        split at w
        · rename_i v hv
          refine step 0 _ _ (fun n _ => ?_) w
          rw [if_neg h2]
          simp only [evOp, evCore, hw, hv]
          rfl
        · cases w

theorem wd_sound {K : List AV → Heap → Prop} {base : Nat} : ∀ (l : List DOp) (k : Nat) (fr : List AV) (h : Heap), wd tab K base k l fr h →
    ∃ n fr' h', evDops (cfD tab n) base k l fr h = some (fr', h') ∧ K fr' h'
  | [], k, fr, h, w => ⟨0, fr, h, rfl, w⟩
  | o :: l, k, fr, h, w => by
    have step : ∀ (n0 : Nat) (fr1 : List AV) (h1 : Heap), (∀ n, n0 ≤ n → evOp (cfD tab n (o.forb.map (base + ·))) (hide h (o.forb.map (base + ·))) (base + k) (o.wr.map fun l => l.map (base + ·)) o.op fr h = some (fr1, h1)) →
        wd tab K base (k + 1) l fr1 h1 → ∃ n fr' h', evDops (cfD tab n) base k (o :: l) fr h = some (fr', h') ∧ K fr' h' := by
      intro n0 fr1 h1 e w1
      obtain ⟨n1, fr', h', e1, hk⟩ := wd_sound l (k + 1) fr1 h1 w1
      refine ⟨max n0 n1, fr', h', ?_, hk⟩
      have e1' := evDops_mono (cfD_mono (Nat.le_max_right n0 n1)) l _ _ _ _ e1
      simp only [evDops]
      rw [e (max n0 n1) (Nat.le_max_left _ _)]
      exact e1'
    simp only [wd] at w
    split at w
    · cases w
    · rename_i hw
      refine step 0 _ _ (fun n _ => ?_) w
      simp only [evOp, evCore, hw]
      rfl
    · rename_i hw
      split at w
      · rename_i hc
        split at w
        · rename_i cs mk hv
          refine step 0 _ _ (fun n _ => ?_) w
          simp only [evOp, evCore, hw, hc, hv]
          rfl
        · cases w
      · rename_i hc
        split at w
        · rename_i v h' hv
          refine step 0 _ _ (fun n _ => ?_) w
          simp only [evOp, evCore, hw, hc]
          rw [hv]
          rfl
        · cases w
      · rename_i hc
        have usual : ∀ f l v, ClD tab (o.forb.map (base + ·)) f l h v → ∃ n0, ∀ n, n0 ≤ n → cfD tab n (o.forb.map (base + ·)) f l h = some (v, h) := by
          rintro f l v ⟨n0, af, h1, h2, he⟩
          refine ⟨n0, fun n hn => ?_⟩
          simp only [cfD]
          rw [h1]
          simp only
          rw [if_pos h2]
          exact runFn_mono (fun _ _ _ _ e => evC_mono hn e) he
        split at w
        · rename_i hins
          split at w
          · rename_i f cs xs ha
            obtain ⟨v, hcl, w⟩ := w
            obtain ⟨n0, he⟩ := usual _ _ _ hcl
            refine step n0 _ _ (fun n hn => ?_) w
            simp only [evOp, evCore, hw, hc, ha, hins, he n hn]
            rfl
          · cases w
        · rename_i hins
          split at w
          · rename_i f cs xs ha
            obtain ⟨v, hcl, w⟩ := w
            obtain ⟨n0, he⟩ := usual _ _ _ hcl
            refine step n0 _ _ (fun n hn => ?_) w
            simp only [evOp, evCore, hw, hc, ha, hins, he n hn]
            rfl
          · cases w
        · rename_i hins
          split at w
          · rename_i f cs xs ha
            obtain ⟨m, sz, cap, ys, ⟨n0, af, h1, he⟩, hnr, w⟩ := w
            refine step n0 _ _ (fun n hn => ?_) w
            have he' : (cfD tab n (o.forb.map (base + ·))).own f (xs ++ cs) = some (m, sz, cap, ys) := by
              refine mkM_mono hn f (xs ++ cs) _ ?_
              simp only [mkM, h1]
              exact he
            simp only [evOp, evCore, hw, hc, ha, hins]
            rw [if_pos hnr, he']
            rfl
          · cases w
        · cases w
      · rename_i h2 h3 h4
        split at w
        · rename_i v hv
          refine step 0 _ _ (fun n _ => ?_) w
          simp only [evOp, evCore, hw, hv]
          rfl
        · cases w

theorem Wc.mono {c : AC} {Q Q' : Ex → List AV → Heap → Prop} {fr : List AV} {h : Heap} (hw : Wc tab c Q fr h) (hq : ∀ ex fr' h', Q ex fr' h' → Q' ex fr' h') : Wc tab c Q' fr h := by
  obtain ⟨n, ex, fr', h', e, q⟩ := hw
  exact ⟨n, ex, fr', h', e, hq _ _ _ q⟩
theorem Wc.seq {a b : AC} {Q : Ex → List AV → Heap → Prop} {fr : List AV} {h : Heap} (hw : Wc tab a (fun ex fr' h' => match ex with | .normal => Wc tab b Q fr' h' | .exit id => Q (.exit id) fr' h' | .ret => Q .ret fr' h') fr h) : Wc tab (.seq a b) Q fr h := by
  obtain ⟨n, ex, fr1, h1, e, q⟩ := hw
  cases ex with
  | normal =>
    obtain ⟨m, ex2, fr2, h2, e2, q2⟩ := q
    refine ⟨max n m + 1, ex2, fr2, h2, ?_, q2⟩
    rw [evC, evC_mono (Nat.le_max_left n m) e]
    exact evC_mono (Nat.le_max_right n m) e2
  | exit id => exact ⟨n + 1, _, fr1, h1, by rw [evC, e], q⟩
  | ret => exact ⟨n + 1, _, fr1, h1, by rw [evC, e], q⟩
theorem Wc.loop {a : AC} {Q : Ex → List AV → Heap → Prop} (I : Nat → List AV → Heap → Prop) (hstep : ∀ k fr h, I k fr h → Wc tab a (fun ex fr' h' => match ex with | .normal => ∃ k' < k, I k' fr' h' | .exit id => Q (.exit id) fr' h' | .ret => Q .ret fr' h') fr h) :
    ∀ (k : Nat) (fr : List AV) (h : Heap), I k fr h → Wc tab (.loop a) Q fr h := by
  intro k
  induction k using Nat.strongRecOn with
  | _ k ih =>
    intro fr h hI
    obtain ⟨n, ex, fr1, h1, e, q⟩ := hstep k fr h hI
    cases ex with
    | normal =>
      obtain ⟨k', hk, hI'⟩ := q
      obtain ⟨m, ex2, fr2, h2, e2, q2⟩ := ih k' hk fr1 h1 hI'
      refine ⟨max n m + 1, ex2, fr2, h2, ?_, q2⟩
      rw [evC, evC_mono (Nat.le_max_left n m) e]
      exact evC_mono (Nat.le_max_right n m) e2
    | exit id => exact ⟨n + 1, _, fr1, h1, by rw [evC, e], q⟩
    | ret => exact ⟨n + 1, _, fr1, h1, by rw [evC, e], q⟩

theorem wp_sound : ∀ (c : AC) (Q : Ex → List AV → Heap → Prop) (fr : List AV) (h : Heap), wp tab c Q fr h → Wc tab c Q fr h
  | .skip, Q, fr, h, w => ⟨1, .normal, fr, h, rfl, w⟩
  | .reg ops, Q, fr, h, w => by
    obtain ⟨n, fr', h', e, q⟩ := wo_sound ops fr h w
    exact ⟨n + 1, .normal, fr', h', by rw [evC]; exact (congrArg _ e).trans rfl, q⟩
  | .dreg ops, Q, fr, h, w => by
    obtain ⟨n, fr', h', e, q⟩ := wd_sound ops 0 fr _ w
    exact ⟨n + 1, .normal, fr', h', by rw [evC]; exact (congrArg _ e).trans rfl, q⟩
  | .frz ts, Q, fr, h, w => by
    simp only [wp] at w
    split at w
    · rename_i fr' h' e
      exact ⟨1, .normal, fr', h', by simp only [evC]; rw [e]; rfl, w⟩
    · cases w
  | .seq a b, Q, fr, h, w => Wc.seq ((wp_sound a _ fr h w).mono fun ex fr' h' q => by
      cases ex with
      | normal => exact wp_sound b Q fr' h' q
      | exit id => exact q
      | ret => exact q)
  | .cond c a b, Q, fr, h, w => by
    simp only [wp] at w
    split at w
    · rename_i t ht
      split at w
      · rename_i h1
        subst h1
        obtain ⟨n, ex, fr', h', e, q⟩ := wp_sound a Q fr h w
        exact ⟨n + 1, ex, fr', h', by rw [evC, ht]; exact e, q⟩
      · rename_i h1
        have : t = false := by simpa using h1
        subst this
        obtain ⟨n, ex, fr', h', e, q⟩ := wp_sound b Q fr h w
        exact ⟨n + 1, ex, fr', h', by rw [evC, ht]; exact e, q⟩
    · cases w
  | .block id a, Q, fr, h, w => by
    obtain ⟨n, ex, fr', h', e, q⟩ := wp_sound a _ fr h w
    cases ex with
    | normal => exact ⟨n + 1, _, fr', h', by rw [evC, e], q⟩
    | ret => exact ⟨n + 1, _, fr', h', by rw [evC, e], q⟩
    | exit i =>
      simp only at q
      split at q
      · rename_i hi
        exact ⟨n + 1, .normal, fr', h', by rw [evC, e]; simp only; rw [if_pos hi], q⟩
      · rename_i hi
        exact ⟨n + 1, .exit i, fr', h', by rw [evC, e]; simp only; rw [if_neg hi], q⟩
  | .loop a, Q, fr, h, w => w
  | .exit id, Q, fr, h, w => ⟨1, _, fr, h, rfl, w⟩
  | .scope a, Q, fr, h, w => by
    obtain ⟨n, ex, fr', h', e, q⟩ := wp_sound a Q fr h w
    exact ⟨n + 1, ex, fr', h', by rw [evC]; exact e, q⟩
  | .ret, Q, fr, h, w => ⟨1, .ret, fr, h, rfl, w⟩

/-- A loop, by its invariant. -/
theorem wp_loop {a : AC} {Q : Ex → List AV → Heap → Prop} (I : Nat → List AV → Heap → Prop) (k : Nat) {fr : List AV} {h : Heap} (h0 : I k fr h) (hstep : ∀ k fr h, I k fr h → wp tab a (fun ex fr' h' => match ex with | .normal => ∃ k' < k, I k' fr' h' | .exit id => Q (.exit id) fr' h' | .ret => Q .ret fr' h') fr h) :
    wp tab (.loop a) Q fr h := Wc.loop I (fun k fr h hI => wp_sound _ _ _ _ (hstep k fr h hI)) k fr h h0

theorem wo_mono {K K' : List AV → Heap → Prop} (hk : ∀ fr h, K fr h → K' fr h) : ∀ (l : List AOp) (fr : List AV) (h : Heap), wo tab K l fr h → wo tab K' l fr h
  | [], fr, h, w => hk _ _ w
  | o :: l, fr, h, w => by
    simp only [wo] at w ⊢
    split at w
    · cases w
    · exact wo_mono hk l _ _ w
    · split at w
      · split at w
        · exact wo_mono hk l _ _ w
        · cases w
      · split at w
        · exact wo_mono hk l _ _ w
        · cases w
      · split at w
        · split at w
          · obtain ⟨v, h', h1, h2⟩ := w
            exact ⟨v, h', h1, wo_mono hk l _ _ h2⟩
          · cases w
        · cases w
      · split at w
        · exact wo_mono hk l _ _ w
        · cases w
theorem wd_mono {K K' : List AV → Heap → Prop} {base : Nat} (hk : ∀ fr h, K fr h → K' fr h) : ∀ (l : List DOp) (k : Nat) (fr : List AV) (h : Heap), wd tab K base k l fr h → wd tab K' base k l fr h
  | [], k, fr, h, w => hk _ _ w
  | o :: l, k, fr, h, w => by
    simp only [wd] at w ⊢
    split at w
    · cases w
    · exact wd_mono hk l _ _ _ w
    · split at w
      · split at w
        · exact wd_mono hk l _ _ _ w
        · cases w
      · split at w
        · exact wd_mono hk l _ _ _ w
        · cases w
      · split at w
        · split at w
          · obtain ⟨v, h1, h2⟩ := w
            exact ⟨v, h1, wd_mono hk l _ _ _ h2⟩
          · cases w
        · split at w
          · obtain ⟨v, h1, h2⟩ := w
            exact ⟨v, h1, wd_mono hk l _ _ _ h2⟩
          · cases w
        · split at w
          · obtain ⟨m, sz, cap, ys, h1, h2, h3⟩ := w
            exact ⟨m, sz, cap, ys, h1, h2, wd_mono hk l _ _ _ h3⟩
          · cases w
        · cases w
      · split at w
        · exact wd_mono hk l _ _ _ w
        · cases w
theorem wp_mono' : ∀ (c : AC) {Q Q' : Ex → List AV → Heap → Prop}, (∀ ex fr h, Q ex fr h → Q' ex fr h) → ∀ (fr : List AV) (h : Heap), wp tab c Q fr h → wp tab c Q' fr h
  | .skip, Q, Q', hq, fr, h, w => hq _ _ _ w
  | .reg ops, Q, Q', hq, fr, h, w => wo_mono (hq _) ops fr h w
  | .dreg ops, Q, Q', hq, fr, h, w => wd_mono (hq _) ops 0 fr _ w
  | .frz ts, Q, Q', hq, fr, h, w => by
    simp only [wp] at w ⊢
    split at w
    · exact hq _ _ _ w
    · cases w
  | .seq a b, Q, Q', hq, fr, h, w => wp_mono' a (fun ex fr h q => by
      cases ex with
      | normal => exact wp_mono' b hq fr h q
      | exit id => exact hq _ _ _ q
      | ret => exact hq _ _ _ q) fr h w
  | .cond c a b, Q, Q', hq, fr, h, w => by
    simp only [wp] at w ⊢
    split at w
    · split at w
      · rename_i h1
        rw [if_pos h1]
        exact wp_mono' a hq fr h w
      · rename_i h1
        rw [if_neg h1]
        exact wp_mono' b hq fr h w
    · cases w
  | .block id a, Q, Q', hq, fr, h, w => wp_mono' a (fun ex fr h q => by
      cases ex with
      | normal => exact hq _ _ _ q
      | ret => exact hq _ _ _ q
      | exit i =>
        simp only at q ⊢
        split at q
        · rename_i h1
          rw [if_pos h1]
          exact hq _ _ _ q
        · rename_i h1
          rw [if_neg h1]
          exact hq _ _ _ q) fr h w
  | .loop a, Q, Q', hq, fr, h, w => Wc.mono w hq
  | .exit id, Q, Q', hq, fr, h, w => hq _ _ _ w
  | .scope a, Q, Q', hq, fr, h, w => wp_mono' a hq fr h w
  | .ret, Q, Q', hq, fr, h, w => hq _ _ _ w
/-- Two pieces of code, with what holds between them. -/
theorem wp_cut {a b : AC} {Q : Ex → List AV → Heap → Prop} (R : List AV → Heap → Prop) {fr : List AV} {h : Heap} (ha : wp tab a (fun ex fr' h' => match ex with | .normal => R fr' h' | .exit id => Q (.exit id) fr' h' | .ret => Q .ret fr' h') fr h) (hb : ∀ fr' h', R fr' h' → wp tab b Q fr' h') :
    wp tab (.seq a b) Q fr h := wp_mono' a (fun ex fr h q => by
      cases ex with
      | normal => exact hb _ _ q
      | exit id => exact q
      | ret => exact q) fr h ha

/-- A function that shares the heap. -/
theorem cl_shared {f : FuncId} {af : AFn} {args : List AV} {h : Heap} {R : AV → Heap → Prop} (hf : tab f = some af) (hp : af.isPure = false)
    (hw : wp tab af.body (fun ex fr h => match ex with | .exit _ => False | _ => ∃ vs, evRes (look h) fr af.res = some vs ∧ R (oneOf vs) h) (args ++ List.replicate (af.ntmps - args.length) (.lit undef)) h) :
    ∃ v h', R v h' ∧ Cl tab f args h v h' := by
  obtain ⟨n, ex, fr, h1, e, q⟩ := wp_sound _ _ _ _ hw
  cases ex with
  | exit id => cases q
  | normal =>
    obtain ⟨vs, q1, q2⟩ := q
    refine ⟨oneOf vs, h1, q2, n, ?_⟩
    simp only [evCall, hf, runFn, hp, e, q1]
    rfl
  | ret =>
    obtain ⟨vs, q1, q2⟩ := q
    refine ⟨oneOf vs, h1, q2, n, ?_⟩
    simp only [evCall, hf, runFn, hp, e, q1]
    rfl
end
end Go.Ev
