/- What the disk's functions compute: the reference's Fates; freezing. -/
import Derived.Test.YtpjjloaphlaokaaFdQ
set_option linter.unusedVariables false
set_option linter.unusedSimpArgs false
set_option maxRecDepth 20000
namespace Go.Ev
open Go Go.Proofs

/-- A row that a slot names is frozen. -/
theorem frz_ref {t o m sz : Nat} {c : Option Nat} {cs fr : List AV} {ts : List Nat} {h : Heap} (hf : fr[t]? = some (.ref o 0 m sz c)) (hl : look h o = some cs) (hm : cs.length = m * sz) (hn : cs.all (AV.noRef deep) = true) :
    frzTs (t :: ts) fr h = frzTs ts (fr.set t (.sl false m c cs)) (h.set o none) := by
  simp only [frzTs, frzS, hf, frz1, hl]
  rw [if_pos ⟨by omega, hn⟩, List.drop_zero, List.take_of_length_le (by omega)]
theorem frz_sl {t n : Nat} {b : Bool} {c : Option Nat} {cs fr : List AV} {ts : List Nat} {h : Heap} (hf : fr[t]? = some (.sl b n c cs)) : frzTs (t :: ts) fr h = frzTs ts (fr.set t (.sl b n c cs)) h := by
  simp only [frzTs, frzS, hf, frz1]
theorem frz_nil (fr : List AV) (h : Heap) : frzTs [] fr h = some (fr, h) := Eq.trans rfl rfl

theorem wk_frz_ref {tab : FuncId → Option AFn} {ks : List It} {Q : Ex → List AV → Heap → Prop} {t o m sz : Nat} {c : Option Nat} {cs fr : List AV} {ts : List Nat} {h : Heap} (hf : fr[t]? = some (.ref o 0 m sz c)) (hl : look h o = some cs) (hm : cs.length = m * sz) (hn : cs.all (AV.noRef deep) = true)
    (hw : WK tab (.frz ts) ks Q (fr.set t (.sl false m c cs)) (h.set o none)) : WK tab (.frz (t :: ts)) ks Q fr h := by
  rw [wk_frz] at hw ⊢
  rw [frz_ref hf hl hm hn]
  exact hw
theorem wk_frz_nil {tab : FuncId → Option AFn} {ks : List It} {Q : Ex → List AV → Heap → Prop} {fr : List AV} {h : Heap} : WK tab (.frz []) ks Q fr h = PK tab .normal ks Q fr h := by rw [wk_frz]; rfl
abbrev flF (fs : List Ft) : List AV := fs.flatMap fun f => [iv f.1, iv f.2]
theorem flF_noRef (fs : List Ft) : (flF fs).all (AV.noRef deep) = true := by
  refine List.all_eq_true.2 fun x hx => ?_
  obtain ⟨y, _, hxy⟩ := List.mem_flatMap.1 hx
  simp at hxy
  rcases hxy with rfl | rfl <;> rfl
/-- Pairs of numbers. -/
def Prs (l : List (Nat × Nat)) (x : AV) : Prop := ∃ (nl : Bool) (cap : Option Nat) (xs : List AV), x = .sl nl l.length cap xs ∧ xs.length = l.length * 2 ∧ l.length ≤ 9223372036854775807 ∧ ∀ (i : Nat) (h : i < l.length), l[i].1 < 256 ∧ l[i].2 < 256 ∧ (xs.drop (i * 2)).take 2 = [.lit (.int .u8 (l[i].1 : Nat)), .lit (.int .u8 (l[i].2 : Nat))]
def ft1 (p : Nat × Nat) : Ft := (((p.1 % 6 : Nat) : Int), ((p.2 % 16 : Nat) : Int) - 2)
theorem flF_snoc (fs : List Ft) (f : Ft) : flF (fs ++ [f]) = flF fs ++ [iv f.1, iv f.2] := by simp [flF]
theorem en_bs2 (z1 z2 a b : AV) : evN (.bslice 1 2 [z1, z2] [(0, 2)]) [.agg [a, b]] = some ([a, b], fun o => .ref o 0 1 2 (some 1)) := by
  simp [evN, fillP, AV.cells?, spl]

set_option maxHeartbeats 1600000 in
theorem c18c (h : Heap) {l : List (Nat × Nat)} {x : AV} (hx : Prs l x) {n : Nat} (hn : n ≤ 100) :
    ∃ r h', (∃ (p : Nat) (T : Heap) (c : Option Nat), r = .ref (h.length + p) 0 ((l.take n).map ft1).length 2 c ∧ h' = h ++ T ∧ look T p = some (flF ((l.take n).map ft1)) ∧ (c = none ∨ c = some 0)) ∧ Cl tab 18 [x, iv n] h r h' := by
  obtain ⟨nl, cap, xs, rfl, hxl, hll, hp⟩ := hx
  refine sh2 _ tab18 rfl (by decide) fun fr hfl h0 h1 => ?_
  have hl' : fr.length = 39 := hfl
  simp only [A18, wk_skip, wk_reg, wk_dreg, wk_frz, wk_seq, wk_cond, wk_block, wk_loop, wk_exit, wk_scope, wk_ret, pk_nil, pk_seqN, pk_seqE, pk_seqR, pk_blkN, pk_blkE, pk_blkR, pk_invN, pk_invE, pk_invR, wo_nil, wo_cons, wd_nil, wd_cons, want_n, want_s, put_s, put_n, I.cls, List.map, opv_t, opv_i, opv_b, opv_n, opv_f, opv_s, ev_mv, ev_pick, ev_len, ev_lenR, ev_bin, ev_beqF, ev_beqT, ev_not, ev_conv, ev_ext, ev_mkfn, ev_faddr, ev_faddrF, ev_fieldF, ev_fieldT, ev_max, ev_min, ev_snilS, ev_snilR, ev_load1F, sb_lss, sb_leq, sb_gtr, sb_geq, sb_eql, sb_neq, sb_add, sb_sub, sb_mul, map_s, en_new, en_boxA, leaf_i, leaf_b, leaf_sl, leaf_ref, List.getElem?_set, List.length_set, List.length_map, List.length_append, List.getElem?_map, Option.map_some, Option.getD_some, ↓reduceIte, Nat.reduceLT, Nat.reduceEqDiff, Nat.zero_add, Nat.add_zero, decide_true, decide_false, Int.ofNat_lt, List.getElem?_cons_zero, List.getElem?_cons_succ, List.length_cons, List.length_nil, Nat.reduceAdd, Bool.not_true, Bool.not_false, Option.some.injEq, and_true, true_and, Bool.false_eq_true, Int.toNat_natCast, out_r, out_nm, pout_r, pout_nm, rs_n, rs_t, rs_c, one1, one2, one3, Option.bind_some, exists_eq_left', deep_eq, fz_lit, fz_sl, fz_fn0, fz_agg, fz_tup, mm_n, mm_c, ev_l1, ev_la, ew_1, ew_a, lk_0, lk_s, st_0, st_s, List.nil_append, List.cons_append, List.append_nil, List.drop_zero, List.drop_succ_cons, List.take_succ_cons, List.take_zero, List.take_nil, and_self, Nat.reduceLeDiff, Nat.le_refl, hd_n, hd_c, e3_n, e3_s, e3_a, mw_s, Option.map_none, rep_s, rep_0, bt_tf, bt_ff, bt_tt, bt_ft, ev_build, fp_0, fp_1, fp_a, spl_0, spl_s, Nat.mul_one, Nat.zero_mul, Nat.reduceMul, ev_iaddrPk, Int.reduceEq, true_or, or_true, or_self, hl', h0, h1, en_bs0]
  refine wl_of (fun k fr h' => fr.length = 39 ∧ k ≤ l.length ∧ l.length - k ≤ n ∧ fr[0]? = some (.sl nl l.length cap xs) ∧ fr[1]? = some (iv n) ∧ fr[6]? = some (iv (l.length - k : Nat)) ∧
      ∃ (p : Nat) (T : Heap) (c : Option Nat), fr[5]? = some (.ref (h.length + p) 0 (l.length - k) 2 c) ∧ h' = h ++ T ∧ look T p = some (flF ((l.take (l.length - k)).map ft1)) ∧ (c = none ∨ c = some 0)) l.length ?_ ?_
  · simp only [wk_skip, wk_reg, wk_dreg, wk_frz, wk_seq, wk_cond, wk_block, wk_loop, wk_exit, wk_scope, wk_ret, pk_nil, pk_seqN, pk_seqE, pk_seqR, pk_blkN, pk_blkE, pk_blkR, pk_invN, pk_invE, pk_invR, wo_nil, wo_cons, wd_nil, wd_cons, want_n, want_s, put_s, put_n, I.cls, List.map, opv_t, opv_i, opv_b, opv_n, opv_f, opv_s, ev_mv, ev_pick, ev_len, ev_lenR, ev_bin, ev_beqF, ev_beqT, ev_not, ev_conv, ev_ext, ev_mkfn, ev_faddr, ev_faddrF, ev_fieldF, ev_fieldT, ev_max, ev_min, ev_snilS, ev_snilR, ev_load1F, sb_lss, sb_leq, sb_gtr, sb_geq, sb_eql, sb_neq, sb_add, sb_sub, sb_mul, map_s, en_new, en_boxA, leaf_i, leaf_b, leaf_sl, leaf_ref, List.getElem?_set, List.length_set, List.length_map, List.length_append, List.getElem?_map, Option.map_some, Option.getD_some, ↓reduceIte, Nat.reduceLT, Nat.reduceEqDiff, Nat.zero_add, Nat.add_zero, decide_true, decide_false, Int.ofNat_lt, List.getElem?_cons_zero, List.getElem?_cons_succ, List.length_cons, List.length_nil, Nat.reduceAdd, Bool.not_true, Bool.not_false, Option.some.injEq, and_true, true_and, Bool.false_eq_true, Int.toNat_natCast, out_r, out_nm, pout_r, pout_nm, rs_n, rs_t, rs_c, one1, one2, one3, Option.bind_some, exists_eq_left', deep_eq, fz_lit, fz_sl, fz_fn0, fz_agg, fz_tup, mm_n, mm_c, ev_l1, ev_la, ew_1, ew_a, lk_0, lk_s, st_0, st_s, List.nil_append, List.cons_append, List.append_nil, List.drop_zero, List.drop_succ_cons, List.take_succ_cons, List.take_zero, List.take_nil, and_self, Nat.reduceLeDiff, Nat.le_refl, hd_n, hd_c, e3_n, e3_s, e3_a, mw_s, Option.map_none, rep_s, rep_0, bt_tf, bt_ff, bt_tt, bt_ft, ev_build, fp_0, fp_1, fp_a, spl_0, spl_s, Nat.mul_one, Nat.zero_mul, Nat.reduceMul, ev_iaddrPk, Int.reduceEq, true_or, or_true, or_self, hl', h0, h1, Nat.sub_self]
    exact ⟨Nat.zero_le _, rfl, 0, _, some 0, rfl, rfl, by simp; rfl, .inr rfl⟩
  · rintro k fr _ ⟨hfl, hk, hkn, h0, h1, h6, p, T, c, h5, rfl, hT, hc⟩
    generalize hi : l.length - k = i at *
    by_cases hlt : i < l.length
    · have hw := wrapS hlt (by omega)
      have hd := decT hlt
      by_cases hin : i < n
      · have hdn := decT hin
        obtain ⟨p1, p2, p3⟩ := hp i hlt
        obtain ⟨a, ha⟩ : ∃ a, l[i].1 = a := ⟨_, rfl⟩
        obtain ⟨b, hb⟩ : ∃ b, l[i].2 = b := ⟨_, rfl⟩
        rw [ha] at p1 p3
        rw [hb] at p2 p3
        have hfa := fun g => ev_iaddrN (g := g) nl l.length i 2 cap xs (by omega) hlt hxl
        have x0 : xs[i * 2]? = some (.lit (.int .u8 (a : Nat))) := by
          have := congrArg (fun l : List AV => l[0]?) p3
          simpa [List.getElem?_take, List.getElem?_drop] using this
        have x1 : (xs.drop (i * 2))[1]? = some (.lit (.int .u8 (b : Nat))) := by
          have := congrArg (fun l : List AV => l[1]?) p3
          simpa [List.getElem?_take, List.getElem?_drop] using this
        have hra := sb_rem .u8 (a : Int) 6 (by decide)
        have hrb := sb_rem .u8 (b : Int) 16 (by decide)
        rw [show (a : Int).tmod 6 = ((a % 6 : Nat) : Int) from tmodN a 6] at hra
        rw [show (b : Int).tmod 16 = ((b % 16 : Nat) : Int) from tmodN b 16] at hrb
        have hwa : IntKind.i64.wrap ((a % 6 : Nat) : Int) = ((a % 6 : Nat) : Int) := wrap64 (by omega) (by omega)
        have hwb : IntKind.i64.wrap ((b % 16 : Nat) : Int) = ((b % 16 : Nat) : Int) := wrap64 (by omega) (by omega)
        have hws : IntKind.i64.wrap (((b % 16 : Nat) : Int) - 2) = ((b % 16 : Nat) : Int) - 2 := wrap64 (by omega) (by omega)
        have hi0 : ∀ g (y : List AV), evR g (.iaddr (some 2) 1) [.fptr y, .lit (.int .i64 0)] = some (.fptr y) := fun g y => ev_iaddrF (g := g) 2 0 1 y (by omega)
        have hi1 : ∀ g (y : List AV), evR g (.iaddr (some 2) 1) [.fptr y, .lit (.int .i64 1)] = some (.fptr (y.drop 1)) := fun g y => ev_iaddrF (g := g) 2 1 1 y (by omega)
        have happ : evW ((h ++ (T ++ [none, none, none, none, none, none, none, none, none, none, none, none, none, none, none, none, none, none, none, none])).set (h.length + T.length + 17) (some [AV.lit (Value.int .i64 ((a % 6 : Nat) : Int)), AV.lit (Value.int .i64 (((b % 16 : Nat) : Int) - 2))])) (.append 2 16) [.ref (h.length + p) 0 i 2 c, .ref (h.length + T.length + 17) 0 1 2 (some 1)] =
            some (.ref (h.length + (T.length + 20)) 0 (i + 1) 2 none, h ++ (T.set p none ++ [none, none, none, none, none, none, none, none, none, none, none, none, none, none, none, none, none, some [AV.lit (Value.int .i64 ((a % 6 : Nat) : Int)), AV.lit (Value.int .i64 (((b % 16 : Nat) : Int) - 2))], none, none, some (flF ((l.take i).map ft1) ++ [iv ((a % 6 : Nat) : Int), iv (((b % 16 : Nat) : Int) - 2)])])) := by
          rw [Nat.add_assoc, set_at, set_at]
          have hl1 : look (h ++ (T ++ [none, none, none, none, none, none, none, none, none, none, none, none, none, none, none, none, none, some [AV.lit (Value.int .i64 ((a % 6 : Nat) : Int)), AV.lit (Value.int .i64 (((b % 16 : Nat) : Int) - 2))], none, none])) (h.length + p) = some (flF ((l.take i).map ft1)) := by rw [look_at]; exact look_pre hT _
          have hl2 : look (h ++ (T ++ [none, none, none, none, none, none, none, none, none, none, none, none, none, none, none, none, none, some [AV.lit (Value.int .i64 ((a % 6 : Nat) : Int)), AV.lit (Value.int .i64 (((b % 16 : Nat) : Int) - 2))], none, none])) (h.length + (T.length + 17)) = some [iv ((a % 6 : Nat) : Int), iv (((b % 16 : Nat) : Int) - 2)] := by rw [look_at, look_at]; rfl
          have := ew_app (b := 16) (c := c) hl1 (m := i) (sz := 2) (by rw [ft_len]; simp; omega) (slC_refN _ 2 (h.length + (T.length + 17)) 1 (some 1) hl2 rfl) (by omega) (by omega) (by omega)
          rw [cap1 hc, set_at, List.set_append_left _ _ (look_lt hT), List.append_assoc, List.append_assoc] at this
          have hlen : (h ++ (T ++ [none, none, none, none, none, none, none, none, none, none, none, none, none, none, none, none, none, some [AV.lit (Value.int .i64 ((a % 6 : Nat) : Int)), AV.lit (Value.int .i64 (((b % 16 : Nat) : Int) - 2))], none, none])).length = h.length + (T.length + 20) := by simp
          rw [hlen] at this
          exact this
        simp only [wk_skip, wk_reg, wk_dreg, wk_frz, wk_seq, wk_cond, wk_block, wk_loop, wk_exit, wk_scope, wk_ret, pk_nil, pk_seqN, pk_seqE, pk_seqR, pk_blkN, pk_blkE, pk_blkR, pk_invN, pk_invE, pk_invR, wo_nil, wo_cons, wd_nil, wd_cons, want_n, want_s, put_s, put_n, I.cls, List.map, opv_t, opv_i, opv_b, opv_n, opv_f, opv_s, ev_mv, ev_pick, ev_len, ev_lenR, ev_bin, ev_beqF, ev_beqT, ev_not, ev_conv, ev_ext, ev_mkfn, ev_faddr, ev_faddrF, ev_fieldF, ev_fieldT, ev_max, ev_min, ev_snilS, ev_snilR, ev_load1F, sb_lss, sb_leq, sb_gtr, sb_geq, sb_eql, sb_neq, sb_add, sb_sub, sb_mul, map_s, en_new, en_boxA, leaf_i, leaf_b, leaf_sl, leaf_ref, List.getElem?_set, List.length_set, List.length_map, List.length_append, List.getElem?_map, Option.map_some, Option.getD_some, ↓reduceIte, Nat.reduceLT, Nat.reduceEqDiff, Nat.zero_add, Nat.add_zero, decide_true, decide_false, Int.ofNat_lt, List.getElem?_cons_zero, List.getElem?_cons_succ, List.length_cons, List.length_nil, Nat.reduceAdd, Bool.not_true, Bool.not_false, Option.some.injEq, and_true, true_and, Bool.false_eq_true, Int.toNat_natCast, out_r, out_nm, pout_r, pout_nm, rs_n, rs_t, rs_c, one1, one2, one3, Option.bind_some, exists_eq_left', deep_eq, fz_lit, fz_sl, fz_fn0, fz_agg, fz_tup, mm_n, mm_c, ev_l1, ev_la, ew_1, ew_a, lk_0, lk_s, st_0, st_s, List.nil_append, List.cons_append, List.append_nil, List.drop_zero, List.drop_succ_cons, List.take_succ_cons, List.take_zero, List.take_nil, and_self, Nat.reduceLeDiff, Nat.le_refl, hd_n, hd_c, e3_n, e3_s, e3_a, mw_s, Option.map_none, rep_s, rep_0, bt_tf, bt_ff, bt_tt, bt_ft, ev_build, fp_0, fp_1, fp_a, spl_0, spl_s, Nat.mul_one, Nat.zero_mul, Nat.reduceMul, ev_iaddrPk, Int.reduceEq, true_or, or_true, or_self, hfl, h0, h1, h5, h6, hd, hdn, hfa, hi0, hi1, x0, x1, hra, hrb, hwa, hwb, hws, look_at0, look_at, set_at0, set_at, List.append_assoc, en_bs2, happ, hw]
        refine ⟨k - 1, by omega, by omega, by omega, by rw [show l.length - (k - 1) = i + 1 by omega], T.length + 20, _, none, by rw [show l.length - (k - 1) = i + 1 by omega], rfl, ?_, .inl rfl⟩
        rw [show l.length - (k - 1) = i + 1 by omega]
        have hTl : (T.set p none).length = T.length := List.length_set
        rw [← hTl, look_at, List.take_succ_eq_append_getElem hlt, List.map_append, List.map_singleton, flF_snoc]
        have : l[i] = (a, b) := by rw [← ha, ← hb]
        rw [this]
        rfl
      · have hdn := decF hin
        have hie : i = n := by omega
        rw [hie] at hT h5
        simp only [wk_skip, wk_reg, wk_dreg, wk_frz, wk_seq, wk_cond, wk_block, wk_loop, wk_exit, wk_scope, wk_ret, pk_nil, pk_seqN, pk_seqE, pk_seqR, pk_blkN, pk_blkE, pk_blkR, pk_invN, pk_invE, pk_invR, wo_nil, wo_cons, wd_nil, wd_cons, want_n, want_s, put_s, put_n, I.cls, List.map, opv_t, opv_i, opv_b, opv_n, opv_f, opv_s, ev_mv, ev_pick, ev_len, ev_lenR, ev_bin, ev_beqF, ev_beqT, ev_not, ev_conv, ev_ext, ev_mkfn, ev_faddr, ev_faddrF, ev_fieldF, ev_fieldT, ev_max, ev_min, ev_snilS, ev_snilR, ev_load1F, sb_lss, sb_leq, sb_gtr, sb_geq, sb_eql, sb_neq, sb_add, sb_sub, sb_mul, map_s, en_new, en_boxA, leaf_i, leaf_b, leaf_sl, leaf_ref, List.getElem?_set, List.length_set, List.length_map, List.length_append, List.getElem?_map, Option.map_some, Option.getD_some, ↓reduceIte, Nat.reduceLT, Nat.reduceEqDiff, Nat.zero_add, Nat.add_zero, decide_true, decide_false, Int.ofNat_lt, List.getElem?_cons_zero, List.getElem?_cons_succ, List.length_cons, List.length_nil, Nat.reduceAdd, Bool.not_true, Bool.not_false, Option.some.injEq, and_true, true_and, Bool.false_eq_true, Int.toNat_natCast, out_r, out_nm, pout_r, pout_nm, rs_n, rs_t, rs_c, one1, one2, one3, Option.bind_some, exists_eq_left', deep_eq, fz_lit, fz_sl, fz_fn0, fz_agg, fz_tup, mm_n, mm_c, ev_l1, ev_la, ew_1, ew_a, lk_0, lk_s, st_0, st_s, List.nil_append, List.cons_append, List.append_nil, List.drop_zero, List.drop_succ_cons, List.take_succ_cons, List.take_zero, List.take_nil, and_self, Nat.reduceLeDiff, Nat.le_refl, hd_n, hd_c, e3_n, e3_s, e3_a, mw_s, Option.map_none, rep_s, rep_0, bt_tf, bt_ff, bt_tt, bt_ft, ev_build, fp_0, fp_1, fp_a, spl_0, spl_s, Nat.mul_one, Nat.zero_mul, Nat.reduceMul, ev_iaddrPk, Int.reduceEq, true_or, or_true, or_self, hfl, h0, h1, h5, h6, hd, hdn]
        exact ⟨p, T, c, by rw [List.length_take, Nat.min_eq_left (by omega)], rfl, hT, hc⟩
    · have hd := decF hlt
      have hie : i = l.length := by omega
      have e1 : l.take n = l := List.take_of_length_le (by omega)
      rw [hie, List.take_length] at hT
      simp only [wk_skip, wk_reg, wk_dreg, wk_frz, wk_seq, wk_cond, wk_block, wk_loop, wk_exit, wk_scope, wk_ret, pk_nil, pk_seqN, pk_seqE, pk_seqR, pk_blkN, pk_blkE, pk_blkR, pk_invN, pk_invE, pk_invR, wo_nil, wo_cons, wd_nil, wd_cons, want_n, want_s, put_s, put_n, I.cls, List.map, opv_t, opv_i, opv_b, opv_n, opv_f, opv_s, ev_mv, ev_pick, ev_len, ev_lenR, ev_bin, ev_beqF, ev_beqT, ev_not, ev_conv, ev_ext, ev_mkfn, ev_faddr, ev_faddrF, ev_fieldF, ev_fieldT, ev_max, ev_min, ev_snilS, ev_snilR, ev_load1F, sb_lss, sb_leq, sb_gtr, sb_geq, sb_eql, sb_neq, sb_add, sb_sub, sb_mul, map_s, en_new, en_boxA, leaf_i, leaf_b, leaf_sl, leaf_ref, List.getElem?_set, List.length_set, List.length_map, List.length_append, List.getElem?_map, Option.map_some, Option.getD_some, ↓reduceIte, Nat.reduceLT, Nat.reduceEqDiff, Nat.zero_add, Nat.add_zero, decide_true, decide_false, Int.ofNat_lt, List.getElem?_cons_zero, List.getElem?_cons_succ, List.length_cons, List.length_nil, Nat.reduceAdd, Bool.not_true, Bool.not_false, Option.some.injEq, and_true, true_and, Bool.false_eq_true, Int.toNat_natCast, out_r, out_nm, pout_r, pout_nm, rs_n, rs_t, rs_c, one1, one2, one3, Option.bind_some, exists_eq_left', deep_eq, fz_lit, fz_sl, fz_fn0, fz_agg, fz_tup, mm_n, mm_c, ev_l1, ev_la, ew_1, ew_a, lk_0, lk_s, st_0, st_s, List.nil_append, List.cons_append, List.append_nil, List.drop_zero, List.drop_succ_cons, List.take_succ_cons, List.take_zero, List.take_nil, and_self, Nat.reduceLeDiff, Nat.le_refl, hd_n, hd_c, e3_n, e3_s, e3_a, mw_s, Option.map_none, rep_s, rep_0, bt_tf, bt_ff, bt_tt, bt_ft, ev_build, fp_0, fp_1, fp_a, spl_0, spl_s, Nat.mul_one, Nat.zero_mul, Nat.reduceMul, ev_iaddrPk, Int.reduceEq, true_or, or_true, or_self, hfl, h0, h1, h5, h6, hd]
      rw [e1]
      exact ⟨p, T, c, by rw [hie], rfl, hT, hc⟩
theorem c18 (h : Heap) {l : List (Nat × Nat)} {x : AV} (hx : Prs l x) {n : Nat} (hn : n ≤ 100) :
    ∃ r h', (∃ (p : Nat) (T : Heap) (c : Option Nat), r = .ref (h.length + p) 0 ((l.take n).map ft1).length 2 c ∧ h' = h ++ T ∧ look T p = some (flF ((l.take n).map ft1))) ∧ Cl tab 18 [x, iv n] h r h' := by
  obtain ⟨r, h', ⟨p, T, c, h1, h2, h3, _⟩, hc⟩ := c18c h hx hn
  exact ⟨r, h', ⟨p, T, c, h1, h2, h3⟩, hc⟩
end Go.Ev
