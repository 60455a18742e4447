/- All operations that only read: the theorem. -/
import Derived.Test.YtpjjloaphlaokaaEvG
import Derived.Laws.BytesString
set_option linter.unusedVariables false
set_option linter.unusedSimpArgs false
set_option linter.unnecessarySimpa false
namespace Go.Ev
open Go

section
variable {P : Program} {B : Nat → Prop} {h : Heap} {φ : Phi} {w : World}

theorem equal_bool {t : TypeId} (hu : P.underlying t = some .bool) (a b : Bool) (w : World) : (Op.equal t (.bool a) (.bool b)).run P w = .ok (a == b) w := by
  have key : ∀ d, (Op.equalIn (d + 1) t (.bool a) (.bool b)).run P w = .ok (a == b) w := by intro d; simp [Op.equalIn, run_underlying' hu]
  exact key 9999
theorem equal_nilR {t e : TypeId} (hu : P.underlying t = some (.slice e)) (a : Option Addr) (n c : Nat) (w : World) : (Op.equal t (.slice a n c) (.slice none 0 0)).run P w = .ok a.isNone w := by
  have key : ∀ d, (Op.equalIn (d + 1) t (.slice a n c) (.slice none 0 0)).run P w = .ok a.isNone w := by intro d; cases a <;> simp [Op.equalIn, run_underlying' hu]
  exact key 9999

theorem beq_VR {op : BinOp} {neg : Bool} {t : TypeId} {x y z : AV} {v u : Value} {ox oy : Operand} {g : Look} (hu : P.underlying t = some .bool)
    (hop : op = (if neg then .neq else .eql)) (hx : VR w (Own B h φ) φ x v) (hy : VR w (Own B h φ) φ y u) (he : evR g (.beq neg) [x, y] = some z) :
    ∃ r, (do eqGuard op t ox oy v u; binOp op t v u : Sem Value).run P w = .ok r w ∧ VR w (Own B h φ) φ z r := by
  simp only [evR] at he
  split at he
  · rename_i a b heq
    simp only [List.cons.injEq, and_true] at heq
    obtain ⟨rfl, rfl⟩ := heq
    cases hx; cases hy
    cases he
    refine ⟨_, ?_, .lit _⟩
    rw [Sem.run_bind, eqGuard_run _ _ _ _ _ _ (by simp) (by simp)]
    subst hop
    cases neg <;> simp [binOp, equal_bool hu]
  · cases he
theorem snil_VR {op : BinOp} {neg : Bool} {t e : TypeId} {x y z : AV} {v u : Value} {ox oy : Operand} {g : Look} (hu : P.underlying t = some (.slice e))
    (hop : op = (if neg then .neq else .eql)) (hx : VR w (Own B h φ) φ x v) (hy : VR w (Own B h φ) φ y u) (he : evR g (.snil neg) [x, y] = some z) :
    ∃ r, (do eqGuard op t ox oy v u; binOp op t v u : Sem Value).run P w = .ok r w ∧ VR w (Own B h φ) φ z r := by
  have key : ∀ a n c, (do eqGuard op t ox oy (.slice a n c) (.slice none 0 0); binOp op t (.slice a n c) (.slice none 0 0) : Sem Value).run P w = .ok (.bool (if neg then !a.isNone else a.isNone)) w := by
    intro a n c
    rw [Sem.run_bind, eqGuard_run _ _ _ _ _ _ (by simp) (by simp)]
    subst hop
    cases neg <;> simp [binOp, equal_nilR hu]
  have hy0 : VR w (Own B h φ) φ (.sl true 0 (some 0) []) u → u = .slice none 0 0 := by
    intro hy
    cases hy with
    | sl isNil n c cap xs a cs hnil hn hcap hlen hx ho hm =>
      have := hcap 0 rfl
      subst this
      cases a with
      | none => rfl
      | some a => simp at hnil
  simp only [evR] at he
  split at he
  · rename_i isNil n cap xs heq
    simp only [List.cons.injEq, and_true] at heq
    obtain ⟨rfl, rfl⟩ := heq
    have := hy0 hy
    subst this
    cases hx with
    | sl _ _ c _ _ a cs hnil hn hcap hlen hx ho hm =>
      cases he
      subst hnil
      exact ⟨_, key _ _ _, .lit _⟩
  · rename_i heq
    simp only [List.cons.injEq, and_true] at heq
    obtain ⟨rfl, rfl⟩ := heq
    have := hy0 hy
    subst this
    cases hx with
    | ref o off n sz c b base cap a hφ ha hn hcap hr =>
      cases he
      refine ⟨_, key _ _ _, ?_⟩
      cases neg <;> exact .lit _
  · cases he
theorem bin_VR {op : BinOp} {t : TypeId} {x y z : AV} {v u : Value} {ox oy : Operand} {g : Look}
    (hx : VR w (Own B h φ) φ x v) (hy : VR w (Own B h φ) φ y u) (he : evR g (.bin op) [x, y] = some z) :
    ∃ r, (do eqGuard op t ox oy v u; binOp op t v u : Sem Value).run P w = .ok r w ∧ VR w (Own B h φ) φ z r := by
  simp only [evR] at he
  split at he
  · rename_i a b heq
    simp only [List.cons.injEq, and_true] at heq
    obtain ⟨rfl, rfl⟩ := heq
    cases hx; cases hy
    simp only [Option.map_eq_some_iff] at he
    obtain ⟨c, hc, rfl⟩ := he
    exact ⟨c, sbin_run hc t ox oy w, .lit _⟩
  · cases he
theorem sun_run {op : UnOp} {a c : Value} (e : sun op a = some c) (w : World) : (Op.unary op a).run P w = .ok c w := by
  unfold sun at e
  split at e <;> first
    | (cases e; simp [Op.unary, Op.intArith, Op.intBits]; done)
    | (cases e; done)
theorem un_VR {op : UnOp} {x z : AV} {v : Value} {g : Look} (hx : VR w (Own B h φ) φ x v) (he : evR g (.un op) [x] = some z) :
    ∃ r, (Op.unary op v).run P w = .ok r w ∧ VR w (Own B h φ) φ z r := by
  simp only [evR] at he
  split at he
  · rename_i a heq
    simp only [List.cons.injEq, and_true] at heq
    subst heq
    cases hx
    simp only [Option.map_eq_some_iff] at he
    obtain ⟨c, hc, rfl⟩ := he
    exact ⟨c, sun_run hc w, .lit _⟩
  · cases he

theorem bytes_ints : ∀ (ys : List AV) (cs : List Value) (bs : List UInt8), Cells w (Own B h φ) φ ys cs → ys.mapM byteOf = some bs →
    ∃ ns : List Int, cs = ns.map (Value.int .u8) ∧ bs = ns.map fun n => UInt8.ofNat n.toNat
  | [], cs, bs, h, e => by
    have : cs = [] := List.length_eq_zero_iff.1 h.1
    subst this
    simp at e
    subst e
    exact ⟨[], rfl, rfl⟩
  | y :: ys, cs, bs, h, e => by
    match cs, h with
    | c :: cs, h =>
      simp only [List.mapM_cons, Option.bind_eq_bind, Option.bind_eq_some_iff, Option.pure_def, Option.some.injEq] at e
      obtain ⟨b, hb, bs', hbs, rfl⟩ := e
      have hc := h.2.1 0 y c rfl rfl
      unfold byteOf at hb
      split at hb
      · rename_i m
        cases hb
        cases hc
        obtain ⟨ns, h1, h2⟩ := bytes_ints ys cs bs' ⟨by simpa using h.1, fun j x u e e' => h.2.1 (j + 1) x u (by simpa using e) (by simpa using e'), fun u hu => h.2.2 u (by simp [hu])⟩ hbs
        exact ⟨_ :: ns, by rw [h1]; rfl, by rw [h2]; rfl⟩
      · cases hb
theorem push_all : ∀ (ns : List Int) (acc : ByteArray), ns.foldl (fun r n => r.push (UInt8.ofNat n.toNat)) acc = ⟨acc.data ++ (ns.map fun n => UInt8.ofNat n.toNat).toArray⟩
  | [], acc => by simp
  | n :: ns, acc => by
    rw [List.foldl_cons, push_all ns]
    apply ByteArray.ext
    simp [ByteArray.push]
theorem b2s_VR {x z : AV} {v : Value} {g : Look} (hr : HR B h φ w) (hg : ∀ o cs, g o = some cs → look h o = some cs) (hx : VR w (Own B h φ) φ x v) (he : evR g .b2s [x] = some z) :
    ∃ r, (Conv.bytesToString v).run P w = .ok r w ∧ VR w (Own B h φ) φ z r := by
  have key : ∀ {x : AV} {v : Value}, VR w (Own B h φ) φ x v → (∃ a n c, v = .slice a n c) → b2sOf (slC g 1 x) = some z → ∃ r, (Conv.bytesToString v).run P w = .ok r w ∧ VR w (Own B h φ) φ z r := by
    intro x v hx hv he
    obtain ⟨a, n, c, rfl⟩ := hv
    unfold b2sOf at he
    split at he
    · rename_i n' ys hys
      simp only [Option.map_eq_some_iff] at he
      obtain ⟨bs, hbs, rfl⟩ := he
      obtain ⟨h1, h2, cs, h3, h4⟩ := slC_VR (P := P) hr hg hx hys
      have hn : n' = n := by
        simp only [Builtin.lenOf, Sem.run_pure, Result.ok.injEq, and_true] at h2
        exact h2.symm
      subst hn
      have h5 := h4 n' (Nat.le_refl _) w rfl
      rw [List.take_of_length_le (by rw [h3.1, h1]; exact Nat.le_refl _)] at h5
      refine ⟨_, ?_, .lit _⟩
      cases a with
      | none =>
        simp only [Builtin.firstCells, Sem.run_pure, Result.ok.injEq, and_true] at h5
        have hcs : cs = [] := by simpa using congrArg Array.toList h5.symm
        subst hcs
        have hys0 : ys = [] := List.length_eq_zero_iff.1 h3.1.symm
        subst hys0
        simp at hbs
        subst hbs
        rfl
      | some ad =>
        simp only [Builtin.firstCells, Nat.mul_one] at h5
        obtain ⟨ns, rfl, rfl⟩ := bytes_ints ys cs bs h3 hbs
        have h6 := run_bytesToString w ad n' c ns h5
        rw [push_all] at h6
        simpa using h6
    · cases he
  simp only [evR] at he
  split at he
  · rename_i heq
    simp only [List.cons.injEq, and_true] at heq
    subst heq
    refine key hx ?_ he
    cases hx; exact ⟨_, _, _, rfl⟩
  · rename_i heq
    simp only [List.cons.injEq, and_true] at heq
    subst heq
    refine key hx ?_ he
    cases hx; exact ⟨_, _, _, rfl⟩
  · cases he

/-- What an operation that only reads does. -/
theorem evR_sound {fr : List AV} {a : Act} {g : Look} {o : Oper} {i : I} {args : List Operand} {x : AV} (hr : HR B h φ w) (hg : ∀ o cs, g o = some cs → look h o = some cs)
    (hf : FR w (Own B h φ) φ fr a.tmps) (ht : tr P o.op = some (i, args)) (he : evR g i (args.map (opv fr)) = some x) :
    ∃ u, (execOp a.eval o).run P w = .ok (.value u) w ∧ VR w (Own B h φ) φ x u := by
  have hv : ∀ y, VR w (Own B h φ) φ (opv fr y) (a.eval y) := fun y => opv_VR hf y
  have fin : ∀ {s : Sem Value}, (∃ u, s.run P w = .ok u w ∧ VR w (Own B h φ) φ x u) → ∃ u, (do pure (Next.value (← s)) : Sem Next).run P w = .ok (.value u) w ∧ VR w (Own B h φ) φ x u := by
    rintro s ⟨u, h1, h2⟩
    exact ⟨u, by simp [h1], h2⟩
  obtain ⟨dst, op, type, pos, after, guard⟩ := o
  cases op with
  | move y => simp only [tr, Option.some.injEq, Prod.mk.injEq] at ht; obtain ⟨rfl, rfl⟩ := ht; simp only [evR, List.map_cons, List.map_nil, Option.some.injEq] at he; subst he; exact ⟨_, rfl, hv y⟩
  | assign y => simp only [tr, Option.some.injEq, Prod.mk.injEq] at ht; obtain ⟨rfl, rfl⟩ := ht; simp only [evR, List.map_cons, List.map_nil, Option.some.injEq] at he; subst he; exact ⟨_, rfl, hv y⟩
  | pick c p q =>
    simp only [tr, Option.some.injEq, Prod.mk.injEq] at ht
    obtain ⟨rfl, rfl⟩ := ht
    simp only [evR, List.map_cons, List.map_nil] at he
    split at he
    · rename_i c' p' q' heq
      simp only [List.cons.injEq, and_true] at heq
      obtain ⟨h1, h2, h3⟩ := heq
      have hc := hv c
      rw [h1] at hc
      generalize hcv : a.eval c = cv at hc
      cases hc
      cases he
      refine ⟨if c' then a.eval p else a.eval q, by simp [execOp, hcv, asBool], ?_⟩
      rw [← h2, ← h3]
      cases c' <;> exact hv _
    · cases he
  | build t parts =>
    have ht0 := ht
    simp only [tr] at ht
    have hshape : ∃ zero qs, i = .build zero qs ∧ args = parts.toList.map (·.2) := by
      split at ht
      · split at ht
        · simp only [Option.map_eq_some_iff] at ht; obtain ⟨qs, _, h1⟩ := ht; cases h1; exact ⟨_, _, rfl, rfl⟩
        · cases ht
      · simp only [Option.map_eq_some_iff] at ht; obtain ⟨qs, _, h1⟩ := ht; cases h1; exact ⟨_, _, rfl, rfl⟩
      · cases ht
    obtain ⟨zero, qs, rfl, rfl⟩ := hshape
    simp only [evR] at he
    exact fin (build_VR (ρ := a.eval) ht0 hv he)
  | load t p =>
    simp only [tr, Option.map_eq_some_iff] at ht
    obtain ⟨⟨ag, k⟩, h1, h2⟩ := ht
    cases h2
    exact fin (load_VR hr hg (hv p) h1 he)
  | binOp op t y z yt =>
    simp only [tr] at ht
    split at ht
    · cases ht; exact fin (bin_VR (hv y) (hv z) he)
    · cases ht; exact fin (bin_VR (hv y) (hv z) he)
    · rename_i hu
      split at ht
      · cases ht; exact fin (beq_VR hu rfl (hv y) (hv z) he)
      · cases ht; exact fin (beq_VR hu rfl (hv y) (hv z) he)
      · cases ht
    · rename_i hu
      split at ht
      · cases ht; exact fin (snil_VR hu rfl (hv y) (hv z) he)
      · cases ht; exact fin (snil_VR hu rfl (hv y) (hv z) he)
      · cases ht
    · cases ht
  | unOp op t y =>
    simp only [tr, Option.some.injEq, Prod.mk.injEq] at ht
    obtain ⟨rfl, rfl⟩ := ht
    exact fin (un_VR (hv y) he)
  | convert s d y =>
    simp only [tr] at ht
    split at ht
    · rename_i k' k hs hd
      cases ht
      simp only [evR, List.map_cons, List.map_nil] at he
      split at he
      · rename_i k0 n heq
        simp only [List.cons.injEq, and_true] at heq
        have hy := hv y
        rw [heq] at hy
        generalize hyv : a.eval y = yv at hy
        cases hy
        cases he
        exact ⟨_, by simp [execOp, hyv, convert, run_underlying' hs, run_underlying' hd, Conv.intToInt], .lit _⟩
      · cases he
    · rename_i hs hd
      cases ht
      simp only [evR, List.map_cons, List.map_nil] at he
      split at he
      · rename_i n heq
        simp only [List.cons.injEq, and_true] at heq
        have hy := hv y
        rw [heq] at hy
        generalize hyv : a.eval y = yv at hy
        cases hy
        cases he
        exact ⟨_, by simp [execOp, hyv, convert, run_underlying' hs, run_underlying' hd], .lit _⟩
      · cases he
    · split at ht
      · cases ht; simp [evR] at he
      · cases ht
    · rename_i e hs hd
      split at ht
      · rename_i hu
        cases ht
        obtain ⟨r, h1, h2⟩ := b2s_VR hr hg (hv y) he
        refine fin ⟨r, ?_, h2⟩
        have hsl : ∃ b n c, a.eval y = .slice b n c := by
          simp only [evR, List.map_cons, List.map_nil] at he
          have hy := hv y
          split at he
          · rename_i heq
            simp only [List.cons.injEq, and_true] at heq
            rw [heq] at hy
            generalize a.eval y = yv at hy
            cases hy; exact ⟨_, _, _, rfl⟩
          · rename_i heq
            simp only [List.cons.injEq, and_true] at heq
            rw [heq] at hy
            generalize a.eval y = yv at hy
            cases hy; exact ⟨_, _, _, rfl⟩
          · cases he
        obtain ⟨b, n, c, hyv⟩ := hsl
        rw [hyv] at h1 ⊢
        rw [run_convert_bytes_string w s d e b n c hs hu hd]
        exact h1
      · cases ht
    · split at ht
      · split at ht
        · cases ht; simp [evR] at he
        · cases ht
      · cases ht
    · cases ht
  | makeFunc f first cs =>
    cases f with
    | func f =>
      simp only [tr] at ht
      split at ht
      · rename_i hemp
        cases ht
        simp only [evR, Option.some.injEq] at he
        subst he
        have h0 : first = #[] := by simpa using hemp
        subst h0
        refine ⟨.func (.func f) #[] (cs.map a.eval), by simp [execOp, Instr.makeFunc], .fn f _ _ (by simp) fun j x v e e' => ?_⟩
        simp only [List.getElem?_map, Option.map_eq_some_iff] at e
        obtain ⟨y, hy, rfl⟩ := e
        simp only [Array.getElem?_map, Option.map_eq_some_iff] at e'
        obtain ⟨y', hy', rfl⟩ := e'
        have : y = y' := by
          have h2 : cs.toList[j]? = some y' := by simpa using hy'
          rw [hy] at h2
          cases h2
          rfl
        subst this
        exact hv _
      · cases ht
    | _ => simp [tr] at ht
  | slice t y lo hi mx =>
    simp only [tr] at ht
    split at ht
    · rename_i e hu
      simp only [Option.map_eq_some_iff] at ht
      obtain ⟨sz, hs, h1⟩ := ht
      cases h1
      exact fin (slice_VR hv hu hs (hv y) he)
    · rename_i hu
      split at ht
      · cases ht
      · rename_i hmx
        cases ht
        have h0 : mx = none := by cases mx <;> simp_all
        subst h0
        exact fin (sliceS_VR hv hu (hv y) he)
    · cases ht
  | fieldAddr s y f =>
    simp only [tr] at ht
    split at ht
    · rename_i fs hu
      split at ht
      · rename_i fd hf'
        split at ht
        · cases ht
        · cases ht
        · rename_i k hk0 hk
          cases ht
          exact fin (faddr_VR hu hf' hk (fun e => by subst e; exact hk0 rfl) (hv y) he)
      · cases ht
    · cases ht
  | field t y f =>
    simp only [tr] at ht
    split at ht
    · rename_i fs hu
      split at ht
      · rename_i fd hf'
        simp only [Option.map_eq_some_iff] at ht
        obtain ⟨⟨ag, k⟩, h1, h2⟩ := ht
        cases h2
        simp only [evR, List.map_cons, List.map_nil] at he
        split at he
        · rename_i xs heq
          simp only [List.cons.injEq, and_true] at heq
          have hy := hv y
          rw [heq] at hy
          generalize hyv : a.eval y = yv at hy
          have hy0 := hy
          cases hy with
          | agg _ cs _ _ _ =>
            obtain ⟨u, h3, h4⟩ := part_agg hy0 h1 he
            exact fin ⟨u, by simp [Instr.field, run_underlying' hu, hf', hyv, asAgg, h3], h4⟩
        · cases he
      · cases ht
    · cases ht
  | indexAddr t y ix =>
    simp only [tr] at ht
    split at ht
    · rename_i e hu
      simp only [Option.map_eq_some_iff] at ht
      obtain ⟨sz, hs, h1⟩ := ht
      cases h1
      exact fin (iaddr_VR hu hs (hv y) (hv ix) he)
    · rename_i n e hu
      simp only [Option.map_eq_some_iff] at ht
      obtain ⟨sz, hs, h1⟩ := ht
      cases h1
      exact fin (iaddrA_VR hu hs (hv y) (hv ix) he)
    · cases ht
  | index t y ix =>
    simp only [tr] at ht
    split at ht
    · rename_i hu
      cases ht
      simp only [evR, List.map_cons, List.map_nil] at he
      split at he
      · rename_i s i' heq
        simp only [List.cons.injEq, and_true] at heq
        obtain ⟨h1, h2⟩ := heq
        split at he
        · rename_i n hn
          split at he
          · rename_i b hb
            cases he
            have hy := hv y
            rw [h1] at hy
            generalize hyv : a.eval y = yv at hy
            cases hy
            rw [← h2] at hn
            obtain ⟨k, hk⟩ := natOf_VR (hv ix) hn
            refine fin ⟨_, ?_, .lit _⟩
            simp [Instr.index, hk, asIntOf, run_underlying' hu, hyv, hb]
          · cases he
        · cases he
      · cases he
    · rename_i n e hu
      split at ht
      · rename_i ag sz ha hs
        split at ht
        · rename_i hsz
          cases ht
          have hl : ∃ k, loadI P e = some (ag, k) ∧ k = sz := by
            unfold loadI
            rw [ha, hs]
            cases ag
            · exact ⟨1, rfl, by simp at hsz; exact hsz.symm⟩
            · exact ⟨sz, rfl, rfl⟩
          obtain ⟨k, hl, rfl⟩ := hl
          simp only [evR, List.map_cons, List.map_nil] at he
          split at he
          · rename_i xs i' heq
            simp only [List.cons.injEq, and_true] at heq
            obtain ⟨h1, h2⟩ := heq
            split at he
            · rename_i m hm
              split at he
              · rename_i hmn
                have hy := hv y
                rw [h1] at hy
                generalize hyv : a.eval y = yv at hy
                have hy0 := hy
                rw [← h2] at hm
                obtain ⟨kk, hk⟩ := natOf_VR (hv ix) hm
                cases hy with
                | agg _ cs _ _ _ =>
                  obtain ⟨u, h3, h4⟩ := part_agg hy0 hl he
                  refine fin ⟨u, ?_, h4⟩
                  simp [Instr.index, hk, asIntOf, run_underlying' hu, hyv, hmn, run_sizeOf' hs, h3]
              · cases he
            · cases he
          · cases he
        · cases ht
      · cases ht
    · cases ht
  | extract y j =>
    simp only [tr, Option.some.injEq, Prod.mk.injEq] at ht
    obtain ⟨rfl, rfl⟩ := ht
    simp only [evR, List.map_cons, List.map_nil] at he
    split at he
    · rename_i xs heq
      simp only [List.cons.injEq, and_true] at heq
      have hy := hv y
      rw [heq] at hy
      generalize hyv : a.eval y = yv at hy
      cases hy with
      | tup _ cs hlen hx =>
        have hj : j < cs.size := by rw [hlen]; exact (List.getElem?_eq_some_iff.1 he).1
        refine fin ⟨cs[j], by simp [Instr.extract, hyv, hj], hx j x _ he (by simp [hj])⟩
    · cases he
  | nilCheck y =>
    simp only [tr, Option.some.injEq, Prod.mk.injEq] at ht
    obtain ⟨rfl, rfl⟩ := ht
    simp only [evR, List.map_cons, List.map_nil] at he
    split at he
    · rename_i o' p' heq
      simp only [List.cons.injEq, and_true] at heq
      have hy := hv y
      rw [heq] at hy
      cases he
      generalize hyv : a.eval y = yv at hy
      have hy0 := hy
      cases hy
      exact ⟨_, by simp [execOp, hyv], hy0⟩
    · rename_i xs heq
      simp only [List.cons.injEq, and_true] at heq
      have hy := hv y
      rw [heq] at hy
      cases he
      generalize hyv : a.eval y = yv at hy
      have hy0 := hy
      cases hy
      exact ⟨_, by simp [execOp, hyv], hy0⟩
    · cases he
  | call c =>
    obtain ⟨callee, cargs, argTypes⟩ := c
    cases callee with
    | value f => simp only [tr, Option.some.injEq, Prod.mk.injEq] at ht; obtain ⟨rfl, rfl⟩ := ht; simp [evR] at he
    | invoke r m => simp [tr] at ht
    | builtin b =>
      have hargs : ∀ l : List Operand, cargs.toList = l → (cargs.map a.eval) = (l.map a.eval).toArray := by
        intro l hl
        apply Array.ext'
        simp [hl]
      cases b with
      | len =>
        simp only [tr] at ht
        split at ht
        · rename_i t y hty hl
          split at ht
          · rename_i e hu
            cases ht
            simp only [evR, List.map_cons, List.map_nil] at he
            split at he
            · rename_i heq
              simp only [List.cons.injEq, and_true] at heq
              have hy := hv y
              rw [heq] at hy
              generalize hyv : a.eval y = yv at hy
              cases hy
              cases he
              exact ⟨_, by simp [execOp, resolve, invoke, builtin, hargs _ hl, Builtin.len_, hty, hyv, run_underlying' hu, goInt], .lit _⟩
            · rename_i heq
              simp only [List.cons.injEq, and_true] at heq
              have hy := hv y
              rw [heq] at hy
              generalize hyv : a.eval y = yv at hy
              cases hy
              cases he
              exact ⟨_, by simp [execOp, resolve, invoke, builtin, hargs _ hl, Builtin.len_, hty, hyv, run_underlying' hu, goInt], .lit _⟩
            · cases he
          · rename_i hu
            cases ht
            simp only [evR, List.map_cons, List.map_nil] at he
            split at he
            · rename_i heq
              simp only [List.cons.injEq, and_true] at heq
              have hy := hv y
              rw [heq] at hy
              generalize hyv : a.eval y = yv at hy
              cases hy
              cases he
              exact ⟨_, by simp [execOp, resolve, invoke, builtin, hargs _ hl, Builtin.len_, hty, hyv, run_underlying' hu, goInt], .lit _⟩
            · cases he
          · cases ht
        · cases ht
      | max =>
        simp only [tr] at ht
        split at ht
        · rename_i y z hl
          cases ht
          simp only [evR, List.map_cons, List.map_nil] at he
          split at he
          · rename_i heq
            simp only [List.cons.injEq, and_true] at heq
            obtain ⟨h1, h2⟩ := heq
            have hy := hv y
            have hz := hv z
            rw [h1] at hy
            rw [h2] at hz
            generalize hyv : a.eval y = yv at hy
            generalize hzv : a.eval z = zv at hz
            cases hy; cases hz
            cases he
            exact ⟨_, by simp [execOp, resolve, invoke, builtin, hargs _ hl, Builtin.max_, hyv, hzv, Builtin.max2], .lit _⟩
          · cases he
        · cases ht
      | min =>
        simp only [tr] at ht
        split at ht
        · rename_i y z hl
          cases ht
          simp only [evR, List.map_cons, List.map_nil] at he
          split at he
          · rename_i heq
            simp only [List.cons.injEq, and_true] at heq
            obtain ⟨h1, h2⟩ := heq
            have hy := hv y
            have hz := hv z
            rw [h1] at hy
            rw [h2] at hz
            generalize hyv : a.eval y = yv at hy
            generalize hzv : a.eval z = zv at hz
            cases hy; cases hz
            cases he
            exact ⟨_, by simp [execOp, resolve, invoke, builtin, hargs _ hl, Builtin.min_, hyv, hzv, Builtin.min2], .lit _⟩
          · cases he
        · cases ht
      | append =>
        simp only [tr] at ht
        split at ht
        · split at ht
          · split at ht
            · split at ht
              · cases ht; simp [evR] at he
              · cases ht
            · cases ht
          · split at ht
            · split at ht
              · cases ht; simp [evR] at he
              · cases ht
            · cases ht
          · cases ht
        · cases ht
      | copy =>
        simp only [tr] at ht
        split at ht
        · split at ht
          · simp only [Option.map_eq_some_iff] at ht
            obtain ⟨_, _, h1⟩ := ht
            cases h1
            simp [evR] at he
          · cases ht
        · cases ht
      | _ => simp [tr] at ht
  | alloc t => simp only [tr, Option.map_eq_some_iff] at ht; obtain ⟨_, _, h1⟩ := ht; cases h1; simp [evR] at he
  | box t y => simp only [tr, Option.some.injEq, Prod.mk.injEq] at ht; obtain ⟨rfl, rfl⟩ := ht; simp [evR] at he
  | store t p y => simp only [tr, Option.map_eq_some_iff] at ht; obtain ⟨_, _, h1⟩ := ht; cases h1; simp [evR] at he
  | buildSlice t len parts =>
    simp only [tr] at ht
    split at ht
    · split at ht
      · split at ht
        · cases ht
        · split at ht
          · split at ht
            · cases ht; simp [evR] at he
            · cases ht
          · cases ht
      · cases ht
    · cases ht
  | makeSlice t l c =>
    simp only [tr] at ht
    split at ht
    · split at ht
      · cases ht; simp [evR] at he
      · cases ht
    · cases ht
  | _ => simp [tr] at ht
end
end Go.Ev
