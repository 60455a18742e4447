/- More fuel does no harm; what code comes to, without fuel. -/
import Derived.Test.YtpjjloaphlaokaaEvA
set_option linter.unusedVariables false
set_option linter.unusedSimpArgs false
set_option linter.unnecessarySimpa false
namespace Go.Ev
open Go

/-- One answers what the other answers, and perhaps more. -/
def LeF (cf cf' : CallF) : Prop := (∀ f args h r, cf f args h = some r → cf' f args h = some r) ∧ ∀ f args r, cf.own f args = some r → cf'.own f args = some r
theorem evCore_mono {cf cf' : CallF} (hc : LeF cf cf') {g : Look} {s : Nat} {wr : Option (List Nat)} {o : AOp} {fr : List AV} {h : Heap} {r : AV × Heap} (e : evCore cf g s wr o fr h = some r) : evCore cf' g s wr o fr h = some r := by
  unfold evCore at e ⊢
  split at e
  · cases e
  · exact e
  · split at e
    · exact e
    · exact e
    · split at e
      · split at e
        · exact hc.1 _ _ _ _ e
        · split at e
          · rename_i hnr
            rw [if_pos hnr]
            simp only [Option.map_eq_some_iff] at e ⊢
            obtain ⟨x, h1, h2⟩ := e
            exact ⟨x, hc.2 _ _ _ h1, h2⟩
          · cases e
        · exact hc.1 _ _ _ _ e
      · cases e
    · exact e
theorem evOp_mono {cf cf' : CallF} (hc : LeF cf cf') {g : Look} {s : Nat} {wr : Option (List Nat)} {o : AOp} {fr : List AV} {h : Heap} {r : List AV × Heap} (e : evOp cf g s wr o fr h = some r) : evOp cf' g s wr o fr h = some r := by
  unfold evOp at e ⊢
  simp only [Option.map_eq_some_iff] at e ⊢
  obtain ⟨x, h1, h2⟩ := e
  exact ⟨x, evCore_mono hc h1, h2⟩
theorem evOps_mono {cf cf' : CallF} (hc : LeF cf cf') : ∀ (l : List AOp) (fr : List AV) (h : Heap) (r : List AV × Heap), evOps cf l fr h = some r → evOps cf' l fr h = some r
  | [], _, _, _, e => e
  | o :: l, fr, h, r, e => by
    simp only [evOps] at e ⊢
    split at e
    · split at e
      · rename_i h1
        rw [evOp_mono hc h1]
        exact evOps_mono hc l _ _ _ e
      · cases e
    · split at e
      · rename_i h1
        rw [evOp_mono hc h1]
        exact evOps_mono hc l _ _ _ e
      · cases e
theorem evDops_mono {cf cf' : List Nat → CallF} (hc : ∀ fb, LeF (cf fb) (cf' fb)) {base : Nat} : ∀ (l : List DOp) (k : Nat) (fr : List AV) (h : Heap) (r : List AV × Heap), evDops cf base k l fr h = some r → evDops cf' base k l fr h = some r
  | [], _, _, _, _, e => e
  | o :: l, k, fr, h, r, e => by
    simp only [evDops] at e ⊢
    split at e
    · rename_i h1
      rw [evOp_mono (hc _) h1]
      exact evDops_mono hc l _ _ _ _ e
    · cases e
theorem runFn_mono {ev ev' : AC → List AV → Heap → Option (Ex × List AV × Heap)} (hc : ∀ c fr h r, ev c fr h = some r → ev' c fr h = some r) {f : AFn} {g : Look} {args : List AV} {h : Heap} {r : AV × Heap} (e : runFn ev f g args h = some r) : runFn ev' f g args h = some r := by
  unfold runFn at e ⊢
  split at e
  · rename_i hp
    rw [if_pos hp]
    cases hm : args.mapM (fz g deep) with
    | none => rw [hm] at e; exact e
    | some args' =>
      rw [hm] at e
      simp only at e ⊢
      cases hx : f.ext with
      | some x => rw [hx] at e; exact e
      | none =>
      rw [hx] at e
      simp only at e ⊢
      cases hb : ev f.body (args' ++ List.replicate (f.ntmps - args'.length) (.lit undef)) [] with
      | none => rw [hb] at e; cases e
      | some x => rw [hc _ _ _ _ hb]; rw [hb] at e; exact e
  · rename_i hp
    rw [if_neg hp]
    cases hb : ev f.body (args ++ List.replicate (f.ntmps - args.length) (.lit undef)) h with
    | none => rw [hb] at e; cases e
    | some x => rw [hc _ _ _ _ hb]; rw [hb] at e; exact e

theorem mkRun_mono {ev ev' : AC → List AV → Heap → Option (Ex × List AV × Heap)} (hc : ∀ c fr h r, ev c fr h = some r → ev' c fr h = some r) {f : AFn} {args : List AV} {r : Nat × Nat × Option Nat × List AV} (e : mkRun ev f args = some r) : mkRun ev' f args = some r := by
  unfold mkRun at e ⊢
  split at e
  · cases e
  · rename_i hp
    rw [if_neg hp]
    split at e
    · rename_i h1
      rw [runFn_mono hc h1]
      exact e
    · cases e
section
variable {tab : FuncId → Option AFn}
theorem evC_succ : ∀ (n : Nat) (c : AC) (fr : List AV) (h : Heap) (r : Ex × List AV × Heap), evC tab n c fr h = some r → evC tab (n + 1) c fr h = some r
  | 0, c, fr, h, r, e => by simp [evC] at e
  | n + 1, c, fr, h, r, e => by
    have ih := evC_succ n
    have hcf : ∀ (f : FuncId) (args : List AV) (h : Heap) (r : AV × Heap), (match tab f with | some af => runFn (evC tab n) af (look h) args h | none => none) = some r →
        (match tab f with | some af => runFn (evC tab (n + 1)) af (look h) args h | none => none) = some r := by
      intro f args h r e
      split at e
      · exact runFn_mono ih e
      · cases e
    have hcd : ∀ (fb : List Nat) (f : FuncId) (args : List AV) (h : Heap) (r : AV × Heap), (match tab f with | some af => if af.isPure then runFn (evC tab n) af (hide h fb) args h else none | none => none) = some r →
        (match tab f with | some af => if af.isPure then runFn (evC tab (n + 1)) af (hide h fb) args h else none | none => none) = some r := by
      intro fb f args h r e
      split at e
      · split at e
        · rename_i hp
          rw [if_pos hp]
          exact runFn_mono ih e
        · cases e
      · cases e
    have hmk : ∀ (f : FuncId) (args : List AV) (r : Nat × Nat × Option Nat × List AV), (match tab f with | some af => mkRun (evC tab n) af args | none => none) = some r →
        (match tab f with | some af => mkRun (evC tab (n + 1)) af args | none => none) = some r := by
      intro f args r e
      split at e
      · exact mkRun_mono ih e
      · cases e
    cases c with
    | skip => simpa only [evC] using e
    | frz ts => simpa only [evC] using e
    | exit id => simpa only [evC] using e
    | ret => simpa only [evC] using e
    | scope a =>
      rw [evC] at e ⊢
      exact ih _ _ _ _ e
    | reg ops =>
      rw [evC] at e ⊢
      simp only [Option.map_eq_some_iff] at e ⊢
      obtain ⟨x, h1, h2⟩ := e
      exact ⟨x, evOps_mono ⟨hcf, hmk⟩ _ _ _ _ h1, h2⟩
    | dreg ops =>
      rw [evC] at e ⊢
      simp only [Option.map_eq_some_iff] at e ⊢
      obtain ⟨x, h1, h2⟩ := e
      exact ⟨x, evDops_mono (fun fb => ⟨hcd fb, hmk⟩) _ _ _ _ _ h1, h2⟩
    | seq a b =>
      rw [evC] at e ⊢
      split at e
      · rename_i h1
        rw [ih _ _ _ _ h1]
        exact ih _ _ _ _ e
      · rename_i hne
        rw [ih _ _ _ _ e]
        split
        · rename_i h1
          cases h1
          exact absurd e (hne _ _)
        · rfl
    | cond c a b =>
      rw [evC] at e ⊢
      split at e
      · exact ih _ _ _ _ e
      · exact ih _ _ _ _ e
      · cases e
    | block id a =>
      rw [evC] at e ⊢
      split at e
      · rename_i h1
        rw [ih _ _ _ _ h1]
        exact e
      · rename_i hne
        rw [ih _ _ _ _ e]
        split
        · rename_i h1
          cases h1
          exact absurd e (hne _ _ _)
        · rfl
    | loop a =>
      rw [evC] at e ⊢
      split at e
      · rename_i h1
        rw [ih _ _ _ _ h1]
        exact ih _ _ _ _ e
      · rename_i hne
        rw [ih _ _ _ _ e]
        split
        · rename_i h1
          cases h1
          exact absurd e (hne _ _)
        · rfl
theorem evC_mono {n m : Nat} (hnm : n ≤ m) {c : AC} {fr : List AV} {h : Heap} {r : Ex × List AV × Heap} (e : evC tab n c fr h = some r) : evC tab m c fr h = some r := by
  induction hnm with
  | refl => exact e
  | step _ ih => exact evC_succ _ _ _ _ _ ih

/-- A call answers, with some fuel. -/
def Cl (tab : FuncId → Option AFn) (f : FuncId) (args : List AV) (h : Heap) (v : AV) (h' : Heap) : Prop := ∃ n, evCall tab n f args h = some (v, h')
/-- A call in a region whose order is open. -/
def ClD (tab : FuncId → Option AFn) (fb : List Nat) (f : FuncId) (args : List AV) (h : Heap) (v : AV) : Prop := ∃ n af, tab f = some af ∧ af.isPure = true ∧ runFn (evC tab n) af (hide h fb) args h = some (v, h)
/-- A function that is run on its own answers with a row. -/
def ClM (tab : FuncId → Option AFn) (f : FuncId) (args : List AV) (m sz : Nat) (cap : Option Nat) (ys : List AV) : Prop := ∃ n af, tab f = some af ∧ mkRun (evC tab n) af args = some (m, sz, cap, ys)
/-- Code comes to an end at which 'Q' holds. -/
def Wc (tab : FuncId → Option AFn) (c : AC) (Q : Ex → List AV → Heap → Prop) (fr : List AV) (h : Heap) : Prop := ∃ n ex fr' h', evC tab n c fr h = some (ex, fr', h') ∧ Q ex fr' h'

/-- Operations in the order of the text. -/
def wo (tab : FuncId → Option AFn) (K : List AV → Heap → Prop) : List AOp → List AV → Heap → Prop
  | [], fr, h => K fr h
  | o :: r, fr, h => match wantA fr o.guard with
    | none => False
    | some false => wo tab K r (putA fr o.dst (.lit undef)) (if o.ins.cls = 2 then h ++ [none] else h)
    | some true => match o.ins.cls with
      | 2 => match evN o.ins (o.args.map (opv fr)) with
        | some (cs, mk) => wo tab K r (putA fr o.dst (mk h.length)) (h ++ [some cs])
        | none => False
      | 3 => match evW h o.ins (o.args.map (opv fr)) with
        | some (v, h') => wo tab K r (putA fr o.dst v) h'
        | none => False
      | 4 => match o.ins with
        | .call => match o.args.map (opv fr) with
          | .fn f cs :: xs => ∃ v h', Cl tab f (xs ++ cs) h v h' ∧ wo tab K r (putA fr o.dst v) h'
          | _ => False
        | _ => False
      | _ => match evR (look h) o.ins (o.args.map (opv fr)) with
        | some v => wo tab K r (putA fr o.dst v) h
        | none => False
/-- Operations of a region whose order is open. -/
def wd (tab : FuncId → Option AFn) (K : List AV → Heap → Prop) (base : Nat) : Nat → List DOp → List AV → Heap → Prop
  | _, [], fr, h => K fr h
  | k, o :: r, fr, h => match wantA fr o.op.guard with
    | none => False
    | some false => wd tab K base (k + 1) r (putA fr o.op.dst (.lit undef)) h
    | some true => match o.op.ins.cls with
      | 2 => match evN o.op.ins (o.op.args.map (opv fr)) with
        | some (cs, mk) => wd tab K base (k + 1) r (putA fr o.op.dst (mk (base + k))) (h.set (base + k) (some cs))
        | none => False
      | 3 => match evW3 (o.wr.map fun l => l.map (base + ·)) h (base + k) o.op.ins (o.op.args.map (opv fr)) with
        | some (v, h') => wd tab K base (k + 1) r (putA fr o.op.dst v) h'
        | none => False
      | 4 => match o.op.ins with
        | .call => match o.op.args.map (opv fr) with
          | .fn f cs :: xs => ∃ v, ClD tab (o.forb.map (base + ·)) f (xs ++ cs) h v ∧ wd tab K base (k + 1) r (putA fr o.op.dst v) h
          | _ => False
        | .bcall => match o.op.args.map (opv fr) with
          | .fn f cs :: xs => ∃ v, ClD tab (o.forb.map (base + ·)) f ((xs ++ cs).map AV.blind) h v ∧ wd tab K base (k + 1) r (putA fr o.op.dst v) h
          | _ => False
        | .mcall => match o.op.args.map (opv fr) with
          | .fn f cs :: xs => ∃ m sz cap ys, ClM tab f (xs ++ cs) m sz cap ys ∧ (xs ++ cs).all (AV.noRef deep) = true ∧ wd tab K base (k + 1) r (putA fr o.op.dst (.ref (base + k) 0 m sz cap)) (h.set (base + k) (some ys))
          | _ => False
        | _ => False
      | _ => match evR (hide h (o.forb.map (base + ·))) o.op.ins (o.op.args.map (opv fr)) with
        | some v => wd tab K base (k + 1) r (putA fr o.op.dst v) h
        | none => False
/-- What must hold ahead of code. -/
def wp (tab : FuncId → Option AFn) : AC → (Ex → List AV → Heap → Prop) → List AV → Heap → Prop
  | .skip, Q, fr, h => Q .normal fr h
  | .reg ops, Q, fr, h => wo tab (Q .normal) ops fr h
  | .dreg ops, Q, fr, h => wd tab (Q .normal) h.length 0 ops fr (h ++ List.replicate ops.length none)
  | .frz ts, Q, fr, h => match frzTs ts fr h with
    | some (fr', h') => Q .normal fr' h'
    | none => False
  | .seq a b, Q, fr, h => wp tab a (fun ex fr' h' => match ex with | .normal => wp tab b Q fr' h' | .exit id => Q (.exit id) fr' h' | .ret => Q .ret fr' h') fr h
  | .cond c a b, Q, fr, h => match opv fr c with
    | .lit (.bool t) => if t = true then wp tab a Q fr h else wp tab b Q fr h
    | _ => False
  | .block id a, Q, fr, h => wp tab a (fun ex fr' h' => match ex with | .normal => Q .normal fr' h' | .exit i => if i = id then Q .normal fr' h' else Q (.exit i) fr' h' | .ret => Q .ret fr' h') fr h
  | .loop a, Q, fr, h => Wc tab (.loop a) Q fr h
  | .exit id, Q, fr, h => Q (.exit id) fr h
  | .scope a, Q, fr, h => wp tab a Q fr h
  | .ret, Q, fr, h => Q .ret fr h

theorem evCall_mono {n m : Nat} (hnm : n ≤ m) {f : FuncId} {args : List AV} {h : Heap} {r : AV × Heap} (e : evCall tab n f args h = some r) : evCall tab m f args h = some r := by
  unfold evCall at e ⊢
  split at e
  · exact runFn_mono (fun _ _ _ _ e => evC_mono hnm e) e
  · cases e
end
end Go.Ev
