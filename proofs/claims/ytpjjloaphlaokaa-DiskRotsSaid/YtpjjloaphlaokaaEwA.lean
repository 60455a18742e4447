/- The walk, with what is still to be done as data. -/
import Derived.Test.YtpjjloaphlaokaaEvZ
set_option linter.unusedVariables false
set_option linter.unusedSimpArgs false
set_option linter.unnecessarySimpa false
namespace Go.Ev
open Go

inductive It where
  | seq (b : AC)
  | blk (id : Nat)
  | inv (J : List AV → Heap → Prop)
abbrev Qt := Ex → List AV → Heap → Prop
section
variable (tab : FuncId → Option AFn)
def post : List It → Qt → Ex → List AV → Heap → Prop
  | [], Q, ex, fr, h => Q ex fr h
  | .seq b :: ks, Q, ex, fr, h => match ex with
    | .normal => wp tab b (post ks Q) fr h
    | .exit id => post ks Q (.exit id) fr h
    | .ret => post ks Q .ret fr h
  | .blk id :: ks, Q, ex, fr, h => match ex with
    | .normal => post ks Q .normal fr h
    | .exit i => if i = id then post ks Q .normal fr h else post ks Q (.exit i) fr h
    | .ret => post ks Q .ret fr h
  | .inv J :: ks, Q, ex, fr, h => match ex with
    | .normal => J fr h
    | .exit id => post ks Q (.exit id) fr h
    | .ret => post ks Q .ret fr h
/-- Code, then what is on the stack. -/
def WK (c : AC) (ks : List It) (Q : Qt) (fr : List AV) (h : Heap) : Prop := wp tab c (post tab ks Q) fr h
def PK (ex : Ex) (ks : List It) (Q : Qt) (fr : List AV) (h : Heap) : Prop := post tab ks Q ex fr h
def WO (l : List AOp) (ks : List It) (Q : Qt) (fr : List AV) (h : Heap) : Prop := wo tab (post tab ks Q .normal) l fr h
def WD (base k : Nat) (l : List DOp) (ks : List It) (Q : Qt) (fr : List AV) (h : Heap) : Prop := wd tab (post tab ks Q .normal) base k l fr h
/-- A call, then the other operations. -/
def WC (f : FuncId) (args : List AV) (d : Option Nat) (l : List AOp) (ks : List It) (Q : Qt) (fr : List AV) (h : Heap) : Prop := ∃ v h', Cl tab f args h v h' ∧ WO tab l ks Q (putA fr d v) h'
def WCD (fb : List Nat) (f : FuncId) (args : List AV) (d : Option Nat) (base k : Nat) (l : List DOp) (ks : List It) (Q : Qt) (fr : List AV) (h : Heap) : Prop := ∃ v, ClD tab fb f args h v ∧ WD tab base k l ks Q (putA fr d v) h
/-- A call whose row comes back as an object, then the other operations. -/
def WCM (f : FuncId) (args : List AV) (d : Option Nat) (base k : Nat) (l : List DOp) (ks : List It) (Q : Qt) (fr : List AV) (h : Heap) : Prop := ∃ m sz cap ys, ClM tab f args m sz cap ys ∧ args.all (AV.noRef deep) = true ∧ WD tab base (k + 1) l ks Q (putA fr d (.ref (base + k) 0 m sz cap)) (h.set (base + k) (some ys))
/-- A loop that stands next. -/
def WL (a : AC) (ks : List It) (Q : Qt) (fr : List AV) (h : Heap) : Prop := Wc tab (.loop a) (post tab ks Q) fr h
end
section
variable {tab : FuncId → Option AFn} {ks : List It} {Q : Qt} {fr : List AV} {h : Heap}
theorem wk_skip : WK tab .skip ks Q fr h = PK tab .normal ks Q fr h := Eq.trans rfl rfl
theorem wk_reg (ops : List AOp) : WK tab (.reg ops) ks Q fr h = WO tab ops ks Q fr h := Eq.trans rfl rfl
theorem wk_dreg (ops : List DOp) : WK tab (.dreg ops) ks Q fr h = WD tab h.length 0 ops ks Q fr (h ++ List.replicate ops.length none) := Eq.trans rfl rfl
theorem wk_frz (ts : List Nat) : WK tab (.frz ts) ks Q fr h = match frzTs ts fr h with
    | some (fr', h') => PK tab .normal ks Q fr' h'
    | none => False := Eq.trans rfl rfl
theorem wk_seq (a b : AC) : WK tab (.seq a b) ks Q fr h = WK tab a (.seq b :: ks) Q fr h := by
  unfold WK
  rw [wp]
  congr 1
theorem wk_cond (c : Operand) (a b : AC) : WK tab (.cond c a b) ks Q fr h = match opv fr c with
    | .lit (.bool t) => if t = true then WK tab a ks Q fr h else WK tab b ks Q fr h
    | _ => False := by
  unfold WK
  rw [wp]
  split
  · rename_i e; rw [e]
  · rename_i e
    split
    · rename_i e'; exact absurd e' (e _)
    · rfl
theorem wk_block (id : Nat) (a : AC) : WK tab (.block id a) ks Q fr h = WK tab a (.blk id :: ks) Q fr h := by
  unfold WK
  rw [wp]
  congr 1
theorem wk_loop (a : AC) : WK tab (.loop a) ks Q fr h = WL tab a ks Q fr h := Eq.trans rfl rfl
theorem wk_exit (id : Nat) : WK tab (.exit id) ks Q fr h = PK tab (.exit id) ks Q fr h := Eq.trans rfl rfl
theorem wk_scope (a : AC) : WK tab (.scope a) ks Q fr h = WK tab a ks Q fr h := by
  unfold WK
  rw [wp]
theorem wk_ret : WK tab .ret ks Q fr h = PK tab .ret ks Q fr h := Eq.trans rfl rfl
theorem pk_nil (ex : Ex) : PK tab ex [] Q fr h = Q ex fr h := Eq.trans rfl rfl
theorem pk_seqN (b : AC) : PK tab .normal (.seq b :: ks) Q fr h = WK tab b ks Q fr h := Eq.trans rfl rfl
theorem pk_seqE (b : AC) (i : Nat) : PK tab (.exit i) (.seq b :: ks) Q fr h = PK tab (.exit i) ks Q fr h := Eq.trans rfl rfl
theorem pk_seqR (b : AC) : PK tab .ret (.seq b :: ks) Q fr h = PK tab .ret ks Q fr h := Eq.trans rfl rfl
theorem pk_blkN (id : Nat) : PK tab .normal (.blk id :: ks) Q fr h = PK tab .normal ks Q fr h := Eq.trans rfl rfl
theorem pk_blkE (id i : Nat) : PK tab (.exit i) (.blk id :: ks) Q fr h = if i = id then PK tab .normal ks Q fr h else PK tab (.exit i) ks Q fr h := Eq.trans rfl rfl
theorem pk_blkR (id : Nat) : PK tab .ret (.blk id :: ks) Q fr h = PK tab .ret ks Q fr h := Eq.trans rfl rfl
theorem pk_invN (J : List AV → Heap → Prop) : PK tab .normal (.inv J :: ks) Q fr h = J fr h := Eq.trans rfl rfl
theorem pk_invE (J : List AV → Heap → Prop) (i : Nat) : PK tab (.exit i) (.inv J :: ks) Q fr h = PK tab (.exit i) ks Q fr h := Eq.trans rfl rfl
theorem pk_invR (J : List AV → Heap → Prop) : PK tab .ret (.inv J :: ks) Q fr h = PK tab .ret ks Q fr h := Eq.trans rfl rfl
theorem wo_nil : WO tab [] ks Q fr h = PK tab .normal ks Q fr h := Eq.trans rfl rfl
theorem wo_cons (d : Option Nat) (i : I) (as : List Operand) (gd : Option (Nat × Bool)) (r : List AOp) : WO tab (⟨d, i, as, gd⟩ :: r) ks Q fr h = match wantA fr gd with
    | none => False
    | some false => WO tab r ks Q (putA fr d (.lit undef)) (if i.cls = 2 then h ++ [none] else h)
    | some true => match i.cls with
      | 2 => match evN i (as.map (opv fr)) with
        | some (cs, mk) => WO tab r ks Q (putA fr d (mk h.length)) (h ++ [some cs])
        | none => False
      | 3 => match evW h i (as.map (opv fr)) with
        | some (v, h') => WO tab r ks Q (putA fr d v) h'
        | none => False
      | 4 => match i with
        | .call => match as.map (opv fr) with
          | .fn f cs :: xs => WC tab f (xs ++ cs) d r ks Q fr h
          | _ => False
        | _ => False
      | _ => match evR (look h) i (as.map (opv fr)) with
        | some v => WO tab r ks Q (putA fr d v) h
        | none => False := Eq.trans rfl rfl
theorem wd_nil (base k : Nat) : WD tab base k [] ks Q fr h = PK tab .normal ks Q fr h := Eq.trans rfl rfl
theorem wd_cons (base k : Nat) (d : Option Nat) (i : I) (as : List Operand) (gd : Option (Nat × Bool)) (fb : List Nat) (wr : Option (List Nat)) (r : List DOp) : WD tab base k (⟨⟨d, i, as, gd⟩, fb, wr⟩ :: r) ks Q fr h = match wantA fr gd with
    | none => False
    | some false => WD tab base (k + 1) r ks Q (putA fr d (.lit undef)) h
    | some true => match i.cls with
      | 2 => match evN i (as.map (opv fr)) with
        | some (cs, mk) => WD tab base (k + 1) r ks Q (putA fr d (mk (base + k))) (h.set (base + k) (some cs))
        | none => False
      | 3 => match evW3 (wr.map fun l => l.map (base + ·)) h (base + k) i (as.map (opv fr)) with
        | some (v, h') => WD tab base (k + 1) r ks Q (putA fr d v) h'
        | none => False
      | 4 => match i with
        | .call => match as.map (opv fr) with
          | .fn f cs :: xs => WCD tab (fb.map (base + ·)) f (xs ++ cs) d base (k + 1) r ks Q fr h
          | _ => False
        | .bcall => match as.map (opv fr) with
          | .fn f cs :: xs => WCD tab (fb.map (base + ·)) f ((xs ++ cs).map AV.blind) d base (k + 1) r ks Q fr h
          | _ => False
        | .mcall => match as.map (opv fr) with
          | .fn f cs :: xs => WCM tab f (xs ++ cs) d base k r ks Q fr h
          | _ => False
        | _ => False
      | _ => match evR (hide h (fb.map (base + ·))) i (as.map (opv fr)) with
        | some v => WD tab base (k + 1) r ks Q (putA fr d v) h
        | none => False := Eq.trans rfl rfl
theorem wc_of {f : FuncId} {args : List AV} {d : Option Nat} {l : List AOp} {v : AV} {h' : Heap} (hc : Cl tab f args h v h') (hw : WO tab l ks Q (putA fr d v) h') : WC tab f args d l ks Q fr h := ⟨v, h', hc, hw⟩
theorem wcd_of {fb : List Nat} {f : FuncId} {args : List AV} {d : Option Nat} {base k : Nat} {l : List DOp} {v : AV} (hc : ClD tab fb f args h v) (hw : WD tab base k l ks Q (putA fr d v) h) : WCD tab fb f args d base k l ks Q fr h := ⟨v, hc, hw⟩
theorem wcm_of {f : FuncId} {args : List AV} {d : Option Nat} {base k : Nat} {l : List DOp} {m sz : Nat} {cap : Option Nat} {ys : List AV} (hc : ClM tab f args m sz cap ys) (hn : args.all (AV.noRef deep) = true) (hw : WD tab base (k + 1) l ks Q (putA fr d (.ref (base + k) 0 m sz cap)) (h.set (base + k) (some ys))) : WCM tab f args d base k l ks Q fr h := ⟨m, sz, cap, ys, hc, hn, hw⟩
theorem wl_of {a : AC} (I : Nat → List AV → Heap → Prop) (k : Nat) (h0 : I k fr h) (hstep : ∀ k fr h, I k fr h → WK tab a (.inv (fun fr h => ∃ k' < k, I k' fr h) :: ks) Q fr h) : WL tab a ks Q fr h :=
  wp_loop I k h0 fun k fr h hI => wp_mono' a (fun ex fr h q => by cases ex <;> exact q) fr h (hstep k fr h hI)
/-- What holds between two pieces. -/
theorem wk_mid {c b : AC} (J : List AV → Heap → Prop) (h1 : WK tab c (.inv J :: ks) Q fr h) (h2 : ∀ fr h, J fr h → WK tab b ks Q fr h) : WK tab c (.seq b :: ks) Q fr h :=
  wp_mono' c (fun ex fr h q => by
    cases ex with
    | normal => exact h2 fr h q
    | exit id => exact q
    | ret => exact q) fr h h1
theorem wp_wk {c : AC} (hw : WK tab c [] Q fr h) : wp tab c Q fr h := wp_mono' c (fun _ _ _ q => q) fr h hw

theorem sh1 {f : FuncId} {af : AFn} {a : AV} {h : Heap} (R : AV → Heap → Prop) (hf : tab f = some af) (hp : af.isPure = false) (hn : 1 ≤ af.ntmps)
    (hw : ∀ fr, fr.length = af.ntmps → fr[0]? = some a → WK tab af.body [] (Out' af.res R) fr h) : ∃ v h', R v h' ∧ Cl tab f [a] h v h' := shared1 R hf hp hn fun fr h1 h2 => wp_wk (hw fr h1 h2)
theorem sh2 {f : FuncId} {af : AFn} {a b : AV} {h : Heap} (R : AV → Heap → Prop) (hf : tab f = some af) (hp : af.isPure = false) (hn : 2 ≤ af.ntmps)
    (hw : ∀ fr, fr.length = af.ntmps → fr[0]? = some a → fr[1]? = some b → WK tab af.body [] (Out' af.res R) fr h) : ∃ v h', R v h' ∧ Cl tab f [a, b] h v h' := shared2 R hf hp hn fun fr h1 h2 h3 => wp_wk (hw fr h1 h2 h3)
theorem sh3 {f : FuncId} {af : AFn} {a b c : AV} {h : Heap} (R : AV → Heap → Prop) (hf : tab f = some af) (hp : af.isPure = false) (hn : 3 ≤ af.ntmps)
    (hw : ∀ fr, fr.length = af.ntmps → fr[0]? = some a → fr[1]? = some b → fr[2]? = some c → WK tab af.body [] (Out' af.res R) fr h) : ∃ v h', R v h' ∧ Cl tab f [a, b, c] h v h' := shared3 R hf hp hn fun fr h1 h2 h3 h4 => wp_wk (hw fr h1 h2 h3 h4)
theorem pu0 {f : FuncId} {af : AFn} (R : AV → Prop) (hf : tab f = some af) (hp : af.plain = true)
    (hw : ∀ fr, fr.length = af.ntmps → WK tab af.body [] (Pout af.res R) fr []) : Pu tab f [] R := pure0 R hf hp fun fr h1 => wp_wk (hw fr h1)
theorem pu1 {f : FuncId} {af : AFn} {a : AV} (R : AV → Prop) (hf : tab f = some af) (hp : af.plain = true) (hn : 1 ≤ af.ntmps)
    (hw : ∀ fr, fr.length = af.ntmps → fr[0]? = some a → WK tab af.body [] (Pout af.res R) fr []) : Pu tab f [a] R := pure1 R hf hp hn fun fr h1 h2 => wp_wk (hw fr h1 h2)
theorem pu2 {f : FuncId} {af : AFn} {a b : AV} (R : AV → Prop) (hf : tab f = some af) (hp : af.plain = true) (hn : 2 ≤ af.ntmps)
    (hw : ∀ fr, fr.length = af.ntmps → fr[0]? = some a → fr[1]? = some b → WK tab af.body [] (Pout af.res R) fr []) : Pu tab f [a, b] R := pure2 R hf hp hn fun fr h1 h2 h3 => wp_wk (hw fr h1 h2 h3)
theorem pu3 {f : FuncId} {af : AFn} {a b c : AV} (R : AV → Prop) (hf : tab f = some af) (hp : af.plain = true) (hn : 3 ≤ af.ntmps)
    (hw : ∀ fr, fr.length = af.ntmps → fr[0]? = some a → fr[1]? = some b → fr[2]? = some c → WK tab af.body [] (Pout af.res R) fr []) : Pu tab f [a, b, c] R := pure3 R hf hp hn fun fr h1 h2 h3 h4 => wp_wk (hw fr h1 h2 h3 h4)
theorem wc_pu {f : FuncId} {args : List AV} {R : AV → Prop} {d : Option Nat} {l : List AOp} (hp : Pu tab f args R) (hn : args.all (AV.noRef deep) = true) (hw : ∀ v, R v → WO tab l ks Q (putA fr d v) h) : WC tab f args d l ks Q fr h := by
  obtain ⟨v, h1, h2⟩ := hp.use hn h
  exact wc_of h2 (hw v h1)
theorem wcd_pu {fb : List Nat} {f : FuncId} {args : List AV} {R : AV → Prop} {d : Option Nat} {base k : Nat} {l : List DOp} (hp : Pu tab f args R) (hn : args.all (AV.noRef deep) = true) (hw : ∀ v, R v → WD tab base k l ks Q (putA fr d v) h) : WCD tab fb f args d base k l ks Q fr h := by
  obtain ⟨v, h1, h2⟩ := hp.useD hn fb h
  exact wcd_of h2 (hw v h1)
end
attribute [irreducible] WK PK WO WD WC WCD WCM WL
end Go.Ev
