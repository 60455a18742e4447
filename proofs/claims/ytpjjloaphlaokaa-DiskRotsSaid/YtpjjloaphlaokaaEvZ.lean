/- Rewriting rules for the walks. -/
import Derived.Test.YtpjjloaphlaokaaEvY
set_option linter.unusedVariables false
set_option linter.unusedSimpArgs false
set_option linter.unnecessarySimpa false
namespace Go.Ev
open Go
section
variable {g : Look} {h : Heap} {fr : List AV}

theorem opv_t (t : Nat) : opv fr (.tmp t) = (fr[t]?).getD (.lit undef) := by simp [opv, List.getD]
theorem opv_i (k : IntKind) (n : Int) : opv fr (.const (.int k n)) = .lit (.int k n) := Eq.trans rfl rfl
theorem opv_b (b : Bool) : opv fr (.const (.bool b)) = .lit (.bool b) := Eq.trans rfl rfl
theorem opv_n : opv fr (.const (.slice none 0 0)) = .sl true 0 (some 0) [] := Eq.trans rfl rfl
theorem opv_f (f : Nat) : opv fr (.func f) = .fn f [] := Eq.trans rfl rfl
theorem opv_s (s : ByteArray) : opv fr (.const (.string s)) = .lit (.string s) := Eq.trans rfl rfl
theorem want_n : wantA fr none = some true := Eq.trans rfl rfl
theorem want_s (t : Nat) (b : Bool) : wantA fr (some (t, b)) = match fr[t]? with | some (.lit (.bool c)) => some (c == b) | some (.lit _) => some false | _ => none := Eq.trans rfl rfl
theorem put_s (d : Nat) (v : AV) : putA fr (some d) v = fr.set d v := Eq.trans rfl rfl
theorem put_n (v : AV) : putA fr none v = fr := Eq.trans rfl rfl

theorem ev_mv (x : AV) : evR g .mv [x] = some x := Eq.trans rfl rfl
theorem ev_pick (c : Bool) (a b : AV) : evR g .pick [.lit (.bool c), a, b] = some (if c = true then a else b) := Eq.trans rfl rfl
theorem ev_len (b : Bool) (n : Nat) (c : Option Nat) (xs : List AV) : evR g (.len false) [.sl b n c xs] = some (.lit (.int .i64 n)) := Eq.trans rfl rfl
theorem ev_lenR (o off n sz : Nat) (c : Option Nat) : evR g (.len false) [.ref o off n sz c] = some (.lit (.int .i64 n)) := Eq.trans rfl rfl
theorem ev_bin (op : BinOp) (a b : Value) : evR g (.bin op) [.lit a, .lit b] = (sbin op a b).map .lit := Eq.trans rfl rfl
theorem ev_beqF (a b : Bool) : evR g (.beq false) [.lit (.bool a), .lit (.bool b)] = some (.lit (.bool (a == b))) := Eq.trans rfl rfl
theorem ev_beqT (a b : Bool) : evR g (.beq true) [.lit (.bool a), .lit (.bool b)] = some (.lit (.bool (!(a == b)))) := Eq.trans rfl rfl
theorem ev_not (b : Bool) : evR g (.un .not) [.lit (.bool b)] = some (.lit (.bool (!b))) := Eq.trans rfl rfl
theorem ev_neg (k : IntKind) (n : Int) : evR g (.un .neg) [.lit (.int k n)] = some (.lit (.int k (k.wrap (0 - n)))) := Eq.trans rfl rfl
theorem ev_conv (k k' : IntKind) (n : Int) : evR g (.conv k) [.lit (.int k' n)] = some (.lit (.int k (k.wrap n))) := Eq.trans rfl rfl
theorem ev_ext (i : Nat) (xs : List AV) : evR g (.ext i) [.tup xs] = xs[i]? := Eq.trans rfl rfl
theorem ev_mkfn (f : Nat) (cs : List AV) : evR g (.mkfn f) cs = some (.fn f cs) := Eq.trans rfl rfl
theorem ev_faddr (off o p : Nat) : evR g (.faddr off) [.ptr o p] = some (.ptr o (p + off)) := Eq.trans rfl rfl
theorem ev_faddrF (off : Nat) (xs : List AV) : evR g (.faddr off) [.fptr xs] = some (.fptr (xs.drop off)) := Eq.trans rfl rfl
theorem ev_fieldF (off k : Nat) (xs : List AV) : evR g (.field false off k) [.agg xs] = if off + k ≤ xs.length then xs[off]? else none := Eq.trans rfl rfl
theorem ev_fieldT (off k : Nat) (xs : List AV) : evR g (.field true off k) [.agg xs] = if off + k ≤ xs.length then some (.agg ((xs.drop off).take k)) else none := Eq.trans rfl rfl
theorem ev_max (k k' : IntKind) (a b : Int) : evR g .max [.lit (.int k a), .lit (.int k' b)] = some (.lit (.int k (if b > a then b else a))) := Eq.trans rfl rfl
theorem ev_min (k k' : IntKind) (a b : Int) : evR g .min [.lit (.int k a), .lit (.int k' b)] = some (.lit (.int k (if b < a then b else a))) := Eq.trans rfl rfl
theorem ev_snilS (neg b : Bool) (n : Nat) (c : Option Nat) (xs : List AV) : evR g (.snil neg) [.sl b n c xs, .sl true 0 (some 0) []] = some (.lit (.bool (if neg = true then !b else b))) := Eq.trans rfl rfl
theorem ev_snilR (neg : Bool) (o off n sz : Nat) (c : Option Nat) : evR g (.snil neg) [.ref o off n sz c, .sl true 0 (some 0) []] = some (.lit (.bool neg)) := Eq.trans rfl rfl
theorem ev_load1 (o off : Nat) {cs : List AV} (hg : g o = some cs) : evR g (.load false 1) [.ptr o off] = cs[off]? := by
  simp only [evR, rdM, hg]
  by_cases ho : off + 1 ≤ cs.length
  · rw [if_pos ho, List.getElem?_eq_getElem (by omega)]
    rw [List.drop_eq_getElem_cons (by omega)]
    rfl
  · rw [if_neg ho, List.getElem?_eq_none (by omega)]
theorem ev_load1F (off : Nat) (xs : List AV) : evR g (.load false 1) [.fptr (xs.drop off)] = xs[off]? := by
  simp only [evR, rdM]
  by_cases ho : off < xs.length
  · rw [if_pos (by simp; omega), List.getElem?_eq_getElem ho, List.drop_eq_getElem_cons ho]
    rfl
  · rw [if_neg (by simp; omega), List.getElem?_eq_none (by omega)]
theorem ev_loadA (o off k : Nat) {cs : List AV} (hg : g o = some cs) (hk : off + k ≤ cs.length) : evR g (.load true k) [.ptr o off] = some (.agg ((cs.drop off).take k)) := by
  simp only [evR, rdM, hg]
  rw [if_pos hk]
  rfl
theorem ev_loadAF (off k : Nat) (xs : List AV) (hk : off + k ≤ xs.length) : evR g (.load true k) [.fptr (xs.drop off)] = some (.agg ((xs.drop off).take k)) := by
  simp only [evR, rdM]
  rw [if_pos (by simp; omega)]
  rfl
theorem ev_iaddr (b : Bool) (n i : Nat) (c : Option Nat) (xs : List AV) (hi : i < n) (hx : xs.length = n) : evR g (.iaddr none 1) [.sl b n c xs, .lit (.int .i64 (i : Int))] = some (.fptr (xs.drop i)) := by
  simp [evR, natOf, hi, hx]
theorem ev_iaddrN (b : Bool) (n i sz : Nat) (c : Option Nat) (xs : List AV) (hs : 0 < sz) (hi : i < n) (hx : xs.length = n * sz) : evR g (.iaddr none sz) [.sl b n c xs, .lit (.int .i64 (i : Int))] = some (.fptr (xs.drop (i * sz))) := by
  simp [evR, natOf, hi, hx, hs]
theorem ev_iaddrR (o off n i sz : Nat) (c : Option Nat) (hi : i < n) : evR g (.iaddr none sz) [.ref o off n sz c, .lit (.int .i64 (i : Int))] = some (.ptr o (off + i * sz)) := by
  simp [evR, natOf, hi]
theorem ev_iaddrP (o off n i sz : Nat) (hi : i < n) : evR g (.iaddr (some n) sz) [.ptr o off, .lit (.int .i64 (i : Int))] = some (.ptr o (off + i * sz)) := by
  simp [evR, natOf, hi]
theorem ev_iaddrF (n i sz : Nat) (xs : List AV) (hi : i < n) : evR g (.iaddr (some n) sz) [.fptr xs, .lit (.int .i64 (i : Int))] = some (.fptr (xs.drop (i * sz))) := by
  simp [evR, natOf, hi]
theorem ev_iaddrP0 (o off n sz : Nat) (hi : 0 < n) : evR g (.iaddr (some n) sz) [.ptr o off, .lit (.int .i64 0)] = some (.ptr o off) := by
  simp [evR, natOf, hi]
theorem ev_iaddrPk (o off n sz k : Nat) (hi : k < n) : evR g (.iaddr (some n) sz) [.ptr o off, .lit (.int .i64 (no_index (OfNat.ofNat k)))] = some (.ptr o (off + k * sz)) := by
  have : (OfNat.ofNat k : Int) = (k : Int) := Eq.trans rfl rfl
  rw [this]; exact ev_iaddrP o off n k sz hi

theorem sb_lss (k : IntKind) (a b : Int) : sbin .lss (.int k a) (.int k b) = some (.bool (decide (a < b))) := by simp [sbin]
theorem sb_leq (k : IntKind) (a b : Int) : sbin .leq (.int k a) (.int k b) = some (.bool (decide (a ≤ b))) := by simp [sbin]
theorem sb_gtr (k : IntKind) (a b : Int) : sbin .gtr (.int k a) (.int k b) = some (.bool (decide (b < a))) := by simp [sbin]
theorem sb_geq (k : IntKind) (a b : Int) : sbin .geq (.int k a) (.int k b) = some (.bool (decide (b ≤ a))) := by simp [sbin]
theorem sb_eql (k : IntKind) (a b : Int) : sbin .eql (.int k a) (.int k b) = some (.bool (decide (a = b))) := by simp [sbin]; rfl
theorem sb_neq (k : IntKind) (a b : Int) : sbin .neq (.int k a) (.int k b) = some (.bool (!decide (a = b))) := by simp [sbin, bne]; rfl
theorem sb_add (k : IntKind) (a b : Int) : sbin .add (.int k a) (.int k b) = some (.int k (k.wrap (a + b))) := by simp [sbin]
theorem sb_sub (k : IntKind) (a b : Int) : sbin .sub (.int k a) (.int k b) = some (.int k (k.wrap (a - b))) := by simp [sbin]
theorem sb_mul (k : IntKind) (a b : Int) : sbin .mul (.int k a) (.int k b) = some (.int k (k.wrap (a * b))) := by simp [sbin]
theorem sb_and (k : IntKind) (a b : Int) : sbin .and (.int k a) (.int k b) = some (.int k (k.wrap (BitVec.ofInt k.bits a &&& BitVec.ofInt k.bits b).toNat)) := by simp [sbin]
theorem sb_shr (k k' : IntKind) (a : Int) (b : Nat) : sbin .shr (.int k a) (.int k' (b : Int)) = some (.int k (a.fdiv (2 ^ min b k.bits))) := by simp [sbin]
theorem sb_rem (k : IntKind) (a b : Int) (hb : b ≠ 0) : sbin .rem (.int k a) (.int k b) = some (.int k (a.tmod b)) := by simp [sbin, hb]
theorem sb_quo (k : IntKind) (a b : Int) (hb : b ≠ 0) : sbin .quo (.int k a) (.int k b) = some (.int k (k.wrap (a.tdiv b))) := by simp [sbin, hb]
theorem map_s {α β : Type} (f : α → β) (x : α) : (some x).map f = some (f x) := Eq.trans rfl rfl

/-! Making and changing objects -/
theorem en_new (cs : List AV) : evN (.new cs) [] = some (cs, fun o => .ptr o 0) := Eq.trans rfl rfl
theorem en_boxA (xs : List AV) : evN .box [.agg xs] = some (xs, fun o => .ptr o 0) := Eq.trans rfl rfl
theorem en_boxL (x : AV) (hx : x.leaf = true) : evN .box [x] = some ([x], fun o => .ptr o 0) := by
  cases x <;> simp_all [AV.leaf, evN, AV.cells?]
theorem en_bs0 (sz : Nat) : evN (.bslice 0 sz [] []) [] = some ([], fun o => .ref o 0 0 sz (some 0)) := by simp [evN, fillP]
theorem en_bs1 (z x : AV) (hx : x.leaf = true) : evN (.bslice 1 1 [z] [(0, 1)]) [x] = some ([x], fun o => .ref o 0 1 1 (some 1)) := by
  cases x <;> simp_all [AV.leaf, evN, fillP, AV.cells?, spl]
theorem spl_all : ∀ (ys cs : List AV) (k : Nat), cs.length = k + ys.length → spl cs k ys = cs.take k ++ ys
  | [], cs, k, h => by simp [spl, List.take_of_length_le (show cs.length ≤ k by simpa using Nat.le_of_eq h)]
  | y :: ys, cs, k, h => by
    have hk : k < cs.length := by simp at h; omega
    rw [spl, spl_all ys (cs.set k y) (k + 1) (by simp at h ⊢; omega)]
    rw [List.take_succ_eq_append_getElem (by simpa using hk)]
    simp [List.take_set_of_le]
theorem ew_all (o k : Nat) {cs ys : List AV} (hl : look h o = some cs) (hk : ys.length = k) (hc : cs.length = k) : evW h (.store k) [.ptr o 0, .agg ys] = some (.lit undef, h.set o (some ys)) := by
  simp only [evW, hl, AV.cells?]
  rw [if_pos ⟨hk, by omega⟩, spl_all ys cs 0 (by omega)]
  rfl
theorem ew_one (o off : Nat) {cs : List AV} (x : AV) (hl : look h o = some cs) (hx : x.leaf = true) (ho : off < cs.length) : evW h (.store 1) [.ptr o off, x] = some (.lit undef, h.set o (some (cs.set off x))) := by
  have : x.cells? = some [x] := by cases x <;> simp_all [AV.leaf, AV.cells?]
  simp only [evW, hl, this]
  rw [if_pos ⟨rfl, by omega⟩]
  rfl
theorem leaf_i (k : IntKind) (n : Int) : (AV.lit (.int k n)).leaf = true := by simp [AV.leaf, Value.oneCell']
theorem leaf_b (b : Bool) : (AV.lit (.bool b)).leaf = true := by simp [AV.leaf, Value.oneCell']
theorem leaf_sl (b : Bool) (n : Nat) (c : Option Nat) (xs : List AV) : (AV.sl b n c xs).leaf = true := by simp [AV.leaf, Value.oneCell']
theorem leaf_ref (o off n sz : Nat) (c : Option Nat) : (AV.ref o off n sz c).leaf = true := by simp [AV.leaf, Value.oneCell']
theorem er_none (fr : List AV) : evRes g fr [] = some [] := Eq.trans rfl rfl
theorem er_tmp (fr : List AV) (t : Nat) (r : List (Nat × Option (Bool × Nat))) (v : AV) (hv : fr[t]? = some v) : evRes g fr ((t, none) :: r) = (evRes g fr r).map (v :: ·) := by
  simp only [evRes]
  cases evRes g fr r <;> simp [hv]
theorem er_cell (fr : List AV) (t k : Nat) (ag : Bool) (r : List (Nat × Option (Bool × Nat))) (p v : AV) (hp : fr[t]? = some p) (hv : evR g (.load ag k) [p] = some v) : evRes g fr ((t, some (ag, k)) :: r) = (evRes g fr r).map (v :: ·) := by
  simp only [evRes]
  cases evRes g fr r <;> simp [hp, hv]
theorem rs_n (fr : List AV) : evRes g fr [] = some [] := Eq.trans rfl rfl
theorem rs_t (fr : List AV) (t : Nat) (r : List (Nat × Option (Bool × Nat))) : evRes g fr ((t, none) :: r) = (evRes g fr r).bind fun vs => (fr[t]?).map (· :: vs) := by
  simp only [evRes]
  cases evRes g fr r <;> cases fr[t]? <;> rfl
theorem rs_c (fr : List AV) (t k : Nat) (ag : Bool) (r : List (Nat × Option (Bool × Nat))) : evRes g fr ((t, some (ag, k)) :: r) = (evRes g fr r).bind fun vs => (fr[t]?).bind fun p => (evR g (.load ag k) [p]).map (· :: vs) := by
  simp only [evRes]
  cases evRes g fr r with
  | none => rfl
  | some vs =>
    cases fr[t]? with
    | none => rfl
    | some p => simp only [Option.bind_some]; cases evR g (.load ag k) [p] <;> rfl
theorem out_r (res : List (Nat × Option (Bool × Nat))) (R : AV → Heap → Prop) : Out' res R .ret fr h = ∃ vs, evRes (look h) fr res = some vs ∧ R (oneOf vs) h := Eq.trans rfl rfl
theorem out_nm (res : List (Nat × Option (Bool × Nat))) (R : AV → Heap → Prop) : Out' res R .normal fr h = ∃ vs, evRes (look h) fr res = some vs ∧ R (oneOf vs) h := Eq.trans rfl rfl
theorem pout_r (res : List (Nat × Option (Bool × Nat))) (R : AV → Prop) : Pout res R .ret fr h = ∃ vs, evRes (look h) fr res = some vs ∧ ∃ v, fz (look h) deep (oneOf vs) = some v ∧ R v := Eq.trans rfl rfl
theorem pout_nm (res : List (Nat × Option (Bool × Nat))) (R : AV → Prop) : Pout res R .normal fr h = ∃ vs, evRes (look h) fr res = some vs ∧ ∃ v, fz (look h) deep (oneOf vs) = some v ∧ R v := Eq.trans rfl rfl
theorem one1 (x : AV) : oneOf [x] = x := Eq.trans rfl rfl
theorem one2 (x y : AV) : oneOf [x, y] = .tup [x, y] := Eq.trans rfl rfl
theorem one3 (x y z : AV) : oneOf [x, y, z] = .tup [x, y, z] := Eq.trans rfl rfl

/-! Freezing -/
theorem deep_eq : deep = 9 + 1 := Eq.trans rfl rfl
theorem fz_lit (n : Nat) (v : Value) : fz g (n + 1) (.lit v) = some (.lit v) := Eq.trans rfl rfl
theorem fz_sl (n : Nat) (b : Bool) (m : Nat) (c : Option Nat) (xs : List AV) : fz g (n + 1) (.sl b m c xs) = some (.sl b m c xs) := Eq.trans rfl rfl
theorem fz_fn0 (n f : Nat) : fz g (n + 1) (.fn f []) = some (.fn f []) := Eq.trans rfl rfl
theorem mapM_same {f : AV → Option AV} : ∀ {xs : List AV}, (∀ x ∈ xs, f x = some x) → xs.mapM f = some xs
  | [], _ => rfl
  | x :: xs, h => by
    rw [List.mapM_cons, h x List.mem_cons_self, mapM_same fun y hy => h y (List.mem_cons_of_mem _ hy)]
    rfl
theorem fz_agg (n : Nat) (xs : List AV) : fz g (n + 1) (.agg xs) = (xs.mapM (fz g n)).map .agg := Eq.trans rfl rfl
theorem fz_tup (n : Nat) (xs : List AV) : fz g (n + 1) (.tup xs) = (xs.mapM (fz g n)).map .tup := Eq.trans rfl rfl
theorem fz_ref (n o m : Nat) (c : Option Nat) {cs : List AV} (hg : g o = some cs) (hm : cs.length = m) (hs : ∀ x ∈ cs, fz g n x = some x) : fz g (n + 1) (.ref o 0 m 1 c) = some (.sl false m c cs) := by
  simp only [fz, rdM, hg]
  rw [if_pos (by omega)]
  simp only [List.drop_zero, Nat.mul_one]
  rw [List.take_of_length_le (by omega), mapM_same hs]
  rfl
theorem fz_map (n : Nat) {α : Type} (f : α → Value) (l : List α) : ∀ x ∈ l.map fun a => AV.lit (f a), fz g (n + 1) x = some x := by
  intro x hx
  obtain ⟨a, _, rfl⟩ := List.mem_map.1 hx
  rfl
theorem mm_n (f : AV → Option AV) : ([] : List AV).mapM f = some [] := Eq.trans rfl rfl
theorem mm_c (f : AV → Option AV) (x : AV) (xs : List AV) : (x :: xs).mapM f = (f x).bind fun y => (xs.mapM f).map (y :: ·) := by
  rw [List.mapM_cons]
  cases f x with
  | none => rfl
  | some y => cases xs.mapM f <;> rfl

theorem ev_l1 (o off : Nat) : evR g (.load false 1) [.ptr o off] = (g o).bind fun cs => cs[off]? := by
  cases hg : g o with
  | none => simp [evR, rdM, hg]
  | some cs => exact ev_load1 o off hg
theorem ev_la (o off k : Nat) : evR g (.load true k) [.ptr o off] = (g o).bind fun cs => if off + k ≤ cs.length then some (.agg ((cs.drop off).take k)) else none := by
  cases hg : g o with
  | none => simp [evR, rdM, hg]
  | some cs =>
    simp only [Option.bind_some]
    split
    · rename_i hk; exact ev_loadA o off k hg hk
    · rename_i hk; simp [evR, rdM, hg, hk]
theorem ew_1 (o off : Nat) (x : AV) (hx : x.leaf = true) : evW h (.store 1) [.ptr o off, x] = (look h o).bind fun cs => if off < cs.length then some (.lit undef, h.set o (some (cs.set off x))) else none := by
  cases hl : look h o with
  | none => simp [evW, hl]
  | some cs =>
    simp only [Option.bind_some]
    have : x.cells? = some [x] := by cases x <;> simp_all [AV.leaf, AV.cells?]
    split
    · rename_i ho; exact ew_one o off x hl hx ho
    · rename_i ho
      simp only [evW, hl, this]
      rw [if_neg]
      rintro ⟨_, h2⟩
      omega
theorem ew_a (o k : Nat) (ys : List AV) : evW h (.store k) [.ptr o 0, .agg ys] = (look h o).bind fun cs => if ys.length = k ∧ cs.length = k then some (.lit undef, h.set o (some ys)) else if ys.length = k ∧ k ≤ cs.length then some (.lit undef, h.set o (some (spl cs 0 ys))) else none := by
  cases hl : look h o with
  | none => simp [evW, hl]
  | some cs =>
    simp only [Option.bind_some]
    split
    · rename_i hc; exact ew_all o k hl hc.1 hc.2
    · simp only [evW, hl, AV.cells?, Nat.zero_add]
theorem lk_0 (x : Option (List AV)) (r : Heap) : look (x :: r) 0 = x := Eq.trans rfl rfl
theorem lk_s (x : Option (List AV)) (r : Heap) (n : Nat) : look (x :: r) (n + 1) = look r n := Eq.trans rfl rfl
theorem st_0 {α : Type} (x y : α) (r : List α) : (x :: r).set 0 y = y :: r := Eq.trans rfl rfl
theorem st_s {α : Type} (x y : α) (r : List α) (n : Nat) : (x :: r).set (n + 1) y = x :: r.set n y := Eq.trans rfl rfl
theorem fz_noRef : ∀ (n : Nat) (x : AV), x.noRef n = true → fz g n x = some x
  | 0, x, h => by simp [AV.noRef] at h
  | n + 1, x, h => by
    cases x with
    | und => rfl
    | lit v => rfl
    | sl => rfl
    | fptr => rfl
    | ref => simp [AV.noRef] at h
    | ptr => simp [AV.noRef] at h
    | fn f xs => simp only [AV.noRef] at h; simp only [fz]; rw [mapM_same fun y hy => fz_noRef n y (List.all_eq_true.1 h y hy)]; rfl
    | agg xs => simp only [AV.noRef] at h; simp only [fz]; rw [mapM_same fun y hy => fz_noRef n y (List.all_eq_true.1 h y hy)]; rfl
    | tup xs => simp only [AV.noRef] at h; simp only [fz]; rw [mapM_same fun y hy => fz_noRef n y (List.all_eq_true.1 h y hy)]; rfl
    | iface t x => simp only [AV.noRef] at h; simp only [fz]; rw [fz_noRef n x h]; rfl
theorem Pu.use {tab : FuncId → Option AFn} {f : FuncId} {args : List AV} {R : AV → Prop} (hp : Pu tab f args R) (hn : args.all (AV.noRef deep) = true) (h : Heap) : ∃ v, R v ∧ Cl tab f args h v h :=
  hp.cl (mapM_same fun x hx => fz_noRef deep x (List.all_eq_true.1 hn x hx)) fun v _ => by rw [hn]; rfl
theorem Pu.useD {tab : FuncId → Option AFn} {f : FuncId} {args : List AV} {R : AV → Prop} (hp : Pu tab f args R) (hn : args.all (AV.noRef deep) = true) (fb : List Nat) (h : Heap) : ∃ v, R v ∧ ClD tab fb f args h v :=
  hp.clD (mapM_same fun x hx => fz_noRef deep x (List.all_eq_true.1 hn x hx)) fun v _ => by rw [hn]; rfl
theorem Pu.mono {tab : FuncId → Option AFn} {f : FuncId} {args : List AV} {R R' : AV → Prop} (hp : Pu tab f args R) (h : ∀ v, R v → R' v) : Pu tab f args R' := by
  obtain ⟨v, h1, h2⟩ := hp
  exact ⟨v, h v h1, h2⟩
theorem hd_n : hide h [] = look h := by funext o; rfl
theorem hd_c (a o : Nat) (r : List Nat) : hide h (a :: r) o = if o = a then none else hide h r o := by
  unfold hide
  by_cases ho : o = a
  · simp [ho]
  · simp [ho]
theorem mw_s (l : List Nat) (k o off : Nat) (r : List AV) : mayWrite (some l) (.store k) (.ptr o off :: r) = l.contains o := Eq.trans rfl rfl
theorem e3_n (h : Heap) (s : Nat) (i : I) (args : List AV) : evW3 none h s i args = evW h i args := Eq.trans rfl rfl
theorem e3_s (l : List Nat) (h : Heap) (s k : Nat) (args : List AV) : evW3 (some l) h s (.store k) args = if mayWrite (some l) (.store k) args = true then evW h (.store k) args else none := Eq.trans rfl rfl
theorem e3_a (l : List Nat) (h : Heap) (s sz b : Nat) (args : List AV) : evW3 (some l) h s (.append sz b) args = evWS l h s sz b args := Eq.trans rfl rfl
theorem bt_tf : (true == false) = false := Eq.trans rfl rfl
theorem bt_ff : (false == false) = true := Eq.trans rfl rfl
theorem bt_tt : (true == true) = true := Eq.trans rfl rfl
theorem bt_ft : (false == true) = false := Eq.trans rfl rfl
theorem rep_s (n : Nat) : List.replicate (n + 1) (none : Option (List AV)) = none :: List.replicate n none := Eq.trans rfl rfl
theorem rep_0 : List.replicate 0 (none : Option (List AV)) = [] := Eq.trans rfl rfl
/-! Struct literals -/
theorem ev_build (z : List AV) (ps : List (Nat × Nat)) (as : List AV) : evR g (.build z ps) as = (fillP z ps as).map .agg := Eq.trans rfl rfl
theorem fp_0 (z : List AV) : fillP z [] [] = some z := Eq.trans rfl rfl
theorem fp_1 (z : List AV) (off : Nat) (ps : List (Nat × Nat)) (x : AV) (as : List AV) (hx : x.leaf = true) : fillP z ((off, 1) :: ps) (x :: as) = if off + 1 ≤ z.length then fillP (z.set off x) ps as else none := by
  have : x.cells? = some [x] := by cases x <;> simp_all [AV.leaf, AV.cells?]
  simp only [fillP, this, List.length_cons, List.length_nil, spl, true_and]
theorem fp_a (z : List AV) (off k : Nat) (ps : List (Nat × Nat)) (ys as : List AV) : fillP z ((off, k) :: ps) (.agg ys :: as) = if ys.length = k ∧ off + k ≤ z.length then fillP (spl z off ys) ps as else none := Eq.trans rfl rfl
theorem spl_0 (z : List AV) (off : Nat) : spl z off [] = z := Eq.trans rfl rfl
theorem spl_s (z : List AV) (off : Nat) (y : AV) (ys : List AV) : spl z off (y :: ys) = spl (z.set off y) (off + 1) ys := Eq.trans rfl rfl
end
end Go.Ev
