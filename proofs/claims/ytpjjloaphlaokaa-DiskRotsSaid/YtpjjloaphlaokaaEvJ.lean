/- Operations that make an object. -/
import Derived.Test.YtpjjloaphlaokaaEvI
set_option linter.unusedVariables false
set_option linter.unusedSimpArgs false
set_option linter.unnecessarySimpa false
namespace Go.Ev
open Go

section
variable {P : Program} {B : Nat → Prop} {h : Heap} {φ : Phi} {w : World}

theorem run_newRow (T : TypeId) (c : Array Value) (w : World) : (newRow T c).run P w = .ok ⟨w.heap.size, 0, none⟩ { w with heap := w.heap.push (.cells c T) } := by
  simp [newRow]
theorem run_newVar (T : TypeId) (v : Value) (w : World) : (newVar T v).run P w = .ok ⟨w.heap.size, 0, none⟩ { w with heap := w.heap.push (.cells v.cells T) } := by
  simp [newVar, run_newRow]

theorem zcells_VR {Ow : Nat → Prop} {zero : List AV} {z : Array Value} (hz : Cells w Ow φ zero z.toList) (m : Nat) (h0 : m = 0 ∨ 0 < zero.length) :
    Cells w Ow φ (zcells zero m) ((Array.range m).map (z[· % z.size]!)).toList := by
  have hsz : z.size = zero.length := by simpa using hz.1
  have hget : ∀ j, j < m → ∃ (h1 : j % zero.length < zero.length) (h2 : j % z.size < z.size), zero.getD (j % zero.length) .und = zero[j % zero.length] ∧ z[j % z.size]! = z[j % z.size] := by
    intro j hj
    have h1 : j % zero.length < zero.length := Nat.mod_lt _ (h0.resolve_left (by omega))
    refine ⟨h1, by rw [hsz]; exact h1, by simp [List.getD, h1], by rw [getElem!_pos]⟩
  refine ⟨by simp [zcells], fun j x v e e' => ?_, fun v hv => ?_⟩
  · have hj : j < m := by have := (List.getElem?_eq_some_iff.1 e).1; simpa [zcells] using this
    obtain ⟨h1, h2, h3, h4⟩ := hget j hj
    simp [zcells, hj] at e
    simp [hj] at e'
    rw [← List.getD_eq_getElem?_getD] at e
    rw [h3] at e
    rw [h4] at e'
    subst e; subst e'
    refine hz.2.1 (j % zero.length) _ _ (List.getElem?_eq_getElem h1) ?_
    simp only [hsz]
    simp [h1, hsz]
  · simp only [Array.toList_map, List.mem_map] at hv
    obtain ⟨j, hj, rfl⟩ := hv
    have hj : j < m := by simpa using hj
    obtain ⟨h1, h2, h3, h4⟩ := hget j hj
    rw [h4]
    exact hz.2.2 _ (by simp)

theorem i64_wrap_nat {n : Nat} (hn : n ≤ 2 ^ 62) : IntKind.i64.wrap (n : Int) = n := by
  show (if (true && decide ((n : Int) % 2 ^ 64 ≥ 2 ^ 63)) = true then (n : Int) % 2 ^ 64 - 2 ^ 64 else (n : Int) % 2 ^ 64) = (n : Int)
  rw [if_neg (by simp; omega)]
  omega

theorem makeSlice_run {t e : TypeId} {sz by_ : Nat} {zero : List AV} {k1 k2 : IntKind} {l c : Nat} (hu : P.underlying t = some (.slice e)) (hs : szOf P e = some sz) (hb : byOf P e = some by_) (hz : zeroOf P e = some zero)
    (hlc : l ≤ c) (hcb : by_ * c ≤ 2 ^ 48) (hc : c ≤ 2 ^ 62) (hzl : zero.length = sz) (w : World) (Ow : Nat → Prop) (φ : Phi) :
    ∃ arr : Array Value, (Instr.makeSlice t (.int k1 l) (.int k2 c)).run P w = .ok (.slice (some ⟨w.heap.size, 0, none⟩) l c) { w with heap := w.heap.push (.cells arr e) } ∧ Cells w Ow φ (zcells zero (c * sz)) arr.toList := by
  obtain ⟨z, hz1, hz2⟩ := zeroOf_run hz w Ow φ
  unfold byOf at hb
  simp only [Option.map_eq_some_iff] at hb
  obtain ⟨i, hi, hb⟩ := hb
  have hsz : i.size = sz := by obtain ⟨i', hi', h1⟩ := info_of hs; rw [hi] at hi'; cases hi'; exact h1
  have hl62 : l ≤ 2 ^ 62 := Nat.le_trans hlc hc
  have hbi : ¬ ((2 : Int) ^ 48 < (i.bytes : Int) * (c : Int)) := by
    rw [hb]
    have h1 : (by_ : Int) * (c : Int) = ((by_ * c : Nat) : Int) := by simp
    rw [h1]
    omega
  have hrun : ∀ zs : Array Value, ((if c * sz = 0 then pure #[] else do pure (← zeroValue e).cells : Sem (Array Value))).run P w = .ok zs w →
      (Instr.makeSlice t (.int k1 l) (.int k2 c)).run P w = .ok (.slice (some ⟨w.heap.size, 0, none⟩) l c) { w with heap := w.heap.push (.cells ((Array.range (c * sz)).map (zs[· % zs.size]!)) e) } := by
    intro zs hzs
    simp only [Instr.makeSlice, Sem.run_bind, run_underlying' hu, Result.andThen_ok, asInt, asIntOf, Sem.run_pure, typeInfo, run_program, hi, i64_wrap_nat hl62, i64_wrap_nat hc]
    rw [if_neg (by
      simp only [gt_iff_lt, Bool.or_eq_true, decide_eq_true_eq, not_or]
      exact ⟨⟨⟨by omega, hbi⟩, by omega⟩, by omega⟩)]
    simp only [Sem.run_bind, Sem.run_pure, Result.andThen_ok, run_askRoom, Int.toNat_natCast, run_sizeOf' hs, hzs, run_newRow]
    simp only [Sem.run_ite, Sem.run_bind, Sem.run_pure, Result.andThen_ok] at hzs
    by_cases h0 : c * sz = 0
    · rw [if_pos h0] at hzs ⊢
      cases hzs
      simp [run_newRow]
    · rw [if_neg h0] at hzs ⊢
      simp only [Sem.run_bind, hz1, Result.andThen_ok, Sem.run_pure, Result.ok.injEq, and_true] at hzs ⊢
      subst hzs
      simp [run_newRow]
  by_cases h0 : c * sz = 0
  · refine ⟨_, hrun #[] (by rw [if_pos h0]; rfl), ?_⟩
    rw [h0]
    exact ⟨by simp [zcells], by simp [zcells], by simp⟩
  · refine ⟨_, hrun z.cells (by rw [if_neg h0]; simp [hz1]), zcells_VR hz2 _ (.inr ?_)⟩
    rw [hzl]
    exact Nat.pos_of_ne_zero fun e => h0 (by rw [e]; simp)

theorem Stp.drew (φ : Phi) (Ow : Nat → Prop) (w : World) (d : Nat) : Stp φ Ow w φ Ow { w with drawn := d } :=
  ⟨fun _ _ e => e, Nat.le_refl _, fun _ _ _ => rfl, fun _ _ e => e, fun _ cs _ fz e => ⟨cs, fz, e, rfl⟩, rfl, rfl, rfl⟩
theorem HR.drew (hr : HR B h φ w) (d : Nat) : HR B h φ { w with drawn := d } := by
  refine ⟨hr.bsz, fun o cs e => ?_, hr.inj, hr.dom⟩
  obtain ⟨b, base, c, T, fz, h1, h2, h3, h4, h5, h6⟩ := hr.live o cs e
  refine ⟨b, base, c, T, fz, h1, h2, h3, h4, h5, fun j x e => ?_⟩
  obtain ⟨v, e1, e2, e3⟩ := h6 j x e
  exact ⟨v, e1, e2, e3.stp (Stp.drew φ _ w d)⟩

theorem modify_push_last {α : Type} (a : Array α) (x : α) (f : α → α) : (a.push x).modify a.size f = a.push (f x) := by
  apply Array.ext
  · simp
  · intro i h1 h2
    rw [Array.getElem_modify]
    by_cases hi : a.size = i
    · subst hi; simp
    · have h3 : i < a.size := by simp at h2; omega
      simp [hi, Array.getElem_push, h3]
/-- What an operation that makes an object does. -/
def Made (P : Program) (B : Nat → Prop) (h : Heap) (φ : Phi) (w : World) (s : Sem Next) (h1 : Heap) (sl : Nat) (cs : List AV) (mk : Nat → AV) : Prop :=
  ∃ (u : Value) (w' : World) (p : Nat × Nat), s.run P w = .ok (.value u) w' ∧ HR B (h1.set sl (some cs)) (upd φ sl p) w' ∧
    Stp φ (Live h φ) w (upd φ sl p) (Live (h1.set sl (some cs)) (upd φ sl p)) w' ∧ VR w' (Own B (h1.set sl (some cs)) (upd φ sl p)) (upd φ sl p) (mk sl) u

theorem made_of {s : Sem Value} {h1 : Heap} {sl : Nat} {cs : List AV} {mk : Nat → AV} (hr : HR B h φ w) (hlen : h.length ≤ h1.length) (hsub : ∀ o cs, look h1 o = some cs → look h o = some cs)
    (hs : sl < h1.length) (hl : look h1 sl = none) (hφ : φ sl = none) {u : Value} {d : Nat} {c : Array Value} {T : TypeId} {fz : Nat × Nat}
    (hrun : s.run P w = .ok u { w with heap := w.heap.push (Obj.cells c T fz), drawn := d }) (hle : cs.length ≤ c.size) (hfz : ∀ j, j < c.size → ¬ (fz.1 ≤ j ∧ j < fz.2)) {vs : List Value}
    (hx : Cells w (Own B h φ) φ cs vs) (hv : ∀ (j : Nat) (v : Value), vs[j]? = some v → c[j]? = some v)
    (hu : ∀ w' Ow φ', φ' sl = some (w.heap.size, 0) → w'.heap[w.heap.size]? = some (Obj.cells c T fz) → VR w' Ow φ' (mk sl) u) :
    Made P B h φ w (do pure (Next.value (← s))) h1 sl cs mk := by
  obtain ⟨h2, h3⟩ := hr.new (w' := { w with heap := w.heap.push (Obj.cells c T fz), drawn := d }) hlen hsub hs hl hφ rfl rfl rfl rfl hle hfz hx hv
  exact ⟨u, _, _, by simp [hrun], h2, h3, hu _ _ _ (by simp [upd]) (by simp)⟩

theorem buildSlice_run {Ow : Nat → Prop} {t e : TypeId} {len sz : Nat} {parts : Array (Nat × Operand)} {zero cs : List AV} {vf : Operand → AV} {ρ : Operand → Value} (hu : P.underlying t = some (.slice e)) (hsz : szOf P e = some sz)
    (hbig : ¬ len * sz > 2 ^ 24) (hz : (if len * sz = 0 then some [] else zeroOf P e) = some zero) (hzl : len * sz = 0 ∨ zero.length = sz) (hv : ∀ y, VR w Ow φ (vf y) (ρ y))
    (hfill : fillP (zcells zero (len * sz)) (parts.toList.map fun p => (p.1 * sz, sz)) ((parts.toList.map (·.2)).map vf) = some cs) :
    ∃ arr : Array Value, (Instr.buildSlice t len (parts.map fun (i, y) => (i, ρ y))).run P w = .ok (.slice (some ⟨w.heap.size, 0, none⟩) len len) { w with heap := w.heap.push (.cells arr e) } ∧ Cells w Ow φ cs arr.toList := by
  have hparts : (parts.map fun (i, y) => (i, ρ y)).toList = parts.toList.map fun p => (p.1, ρ p.2) := by simp
  have key : ∀ z : Array Value, Cells w Ow φ (zcells zero (len * sz)) ((Array.range (len * sz)).map (z[· % z.size]!)).toList →
      ∃ arr : Array Value, Instr.fill (fun i => some (i * sz, sz)) ((Array.range (len * sz)).map (z[· % z.size]!)) (parts.map fun (i, y) => (i, ρ y)).toList = some arr ∧ Cells w Ow φ cs arr.toList := by
    intro z hzc
    rw [hparts]
    exact fillP_run (w := w) (φ := φ) (Ow := Ow) (fun i => some (i * sz, sz)) (parts.toList.map fun p => (p.1 * sz, sz)) _ (parts.toList.map fun p => (p.1, ρ p.2)) _ _ cs hfill hzc (by simp) (fun j p hj => by
      simp only [List.getElem?_map, Option.map_eq_some_iff] at hj ⊢
      obtain ⟨q, hq, rfl⟩ := hj
      simp [hq]) (fun j x p e e' => by
      simp only [List.getElem?_map, Option.map_eq_some_iff] at e e'
      obtain ⟨y, ⟨q, hq, rfl⟩, rfl⟩ := e
      obtain ⟨q', hq', rfl⟩ := e'
      rw [hq] at hq'
      cases hq'
      exact hv _)
  by_cases h0 : len * sz = 0
  · obtain ⟨arr, h1, h2⟩ := key #[] (by rw [h0]; exact ⟨by simp [zcells], by simp [zcells], by simp⟩)
    refine ⟨arr, ?_, h2⟩
    simp only [Instr.buildSlice, Sem.run_bind, run_underlying' hu, Result.andThen_ok, run_sizeOf' hsz]
    rw [if_neg hbig, if_pos h0]
    simp only [Sem.run_bind, Sem.run_pure, Result.andThen_ok]
    rw [h1]
    simp [run_newRow]
  · rw [if_neg h0] at hz
    obtain ⟨z, hz1, hz2⟩ := zeroOf_run hz w Ow φ
    obtain ⟨arr, h1, h2⟩ := key z.cells (zcells_VR hz2 _ (.inr (by rw [hzl.resolve_left h0]; exact Nat.pos_of_ne_zero fun e => h0 (by rw [e]; simp))))
    refine ⟨arr, ?_, h2⟩
    simp only [Instr.buildSlice, Sem.run_bind, run_underlying' hu, Result.andThen_ok, run_sizeOf' hsz]
    rw [if_neg hbig, if_neg h0]
    simp only [Sem.run_bind, hz1, Sem.run_pure, Result.andThen_ok]
    rw [h1]
    simp [run_newRow]

set_option maxHeartbeats 1000000 in
theorem evN_sound {fr : List AV} {a : Act} {o : Oper} {i : I} {args : List Operand} {cs : List AV} {mk : Nat → AV} (hr : HR B h φ w) (hf : FR w (Own B h φ) φ fr a.tmps)
    (ht : tr P o.op = some (i, args)) (he : evN i (args.map (opv fr)) = some (cs, mk)) {h1 : Heap} {sl : Nat} (hlen : h.length ≤ h1.length) (hsub : ∀ o cs, look h1 o = some cs → look h o = some cs)
    (hs : sl < h1.length) (hl : look h1 sl = none) (hφ : φ sl = none) : Made P B h φ w (execOp a.eval o) h1 sl cs mk := by
  have hv : ∀ y, VR w (Own B h φ) φ (opv fr y) (a.eval y) := fun y => opv_VR hf y
  obtain ⟨dst, op, type, pos, after, guard⟩ := o
  have hnofz : ∀ n j, j < n → ¬ ((0, 0) : Nat × Nat).1 ≤ j ∧ j < ((0, 0) : Nat × Nat).2 → False := fun n j _ e => by simp at e
  cases op with
  | alloc t =>
    simp only [tr, Option.map_eq_some_iff] at ht
    obtain ⟨zero, hz, h2⟩ := ht
    cases h2
    simp only [evN, List.map_nil, Option.some.injEq, Prod.mk.injEq] at he
    obtain ⟨rfl, rfl⟩ := he
    obtain ⟨z, hz1, hz2⟩ := zeroOf_run hz w (Own B h φ) φ
    refine made_of (s := Instr.alloc t true (.tuple #[])) (u := .pointer (some ⟨w.heap.size, 0, none⟩)) (d := w.drawn) (c := z.cells) (T := t) (fz := (0, 0)) (vs := z.cells.toList) hr hlen hsub hs hl hφ ?_ (by have := hz2.1; simp at this; omega) (by simp) hz2 (by simp) (fun w' Ow φ' e _ => .ptr sl 0 _ 0 e)
    simp [Instr.alloc, hz1, run_newVar]
  | box t y =>
    simp only [tr, Option.some.injEq, Prod.mk.injEq] at ht
    obtain ⟨rfl, rfl⟩ := ht
    simp only [evN, List.map_cons, List.map_nil] at he
    split at he
    · rename_i ys hys
      simp only [Option.some.injEq, Prod.mk.injEq] at he
      obtain ⟨rfl, rfl⟩ := he
      have hc := cells?_VR (hv y) hys
      refine made_of (s := Instr.box t (a.eval y)) (u := .pointer (some ⟨w.heap.size, 0, none⟩)) (d := w.drawn) (c := (a.eval y).cells) (T := t) (fz := (0, 0)) (vs := (a.eval y).cells.toList) hr hlen hsub hs hl hφ ?_ (by have := hc.1; simp at this; omega) (by simp) hc (by simp) (fun w' Ow φ' e _ => .ptr sl 0 _ 0 e)
      simp [Instr.box, run_newVar]
    · cases he
  | buildSlice t len parts =>
    simp only [tr] at ht
    split at ht
    · rename_i e hu
      split at ht
      · rename_i sz hsz
        split at ht
        · cases ht
        · rename_i hbig
          split at ht
          · rename_i zero hz
            split at ht
            · rename_i hzl
              cases ht
              simp only [evN] at he
              split at he
              · rename_i cs' hfill
                split at he
                · rename_i hcl
                  simp only [Option.some.injEq, Prod.mk.injEq] at he
                  obtain ⟨rfl, rfl⟩ := he
                  obtain ⟨arr, h2, h3⟩ := buildSlice_run (ρ := a.eval) hu hsz hbig hz hzl hv hfill
                  have hcs : arr.size = len * sz := by have := h3.1; simp at this; omega
                  have hle : cs'.length ≤ arr.size := by omega
                  have hv1 : ∀ (j : Nat) (v : Value), arr.toList[j]? = some v → arr[j]? = some v := by simp
                  have hf1 : ∀ j, j < arr.size → ¬ (((0, 0) : Nat × Nat).1 ≤ j ∧ j < ((0, 0) : Nat × Nat).2) := by simp
                  have hu1 : ∀ w' Ow φ', φ' sl = some (w.heap.size, 0) → w'.heap[w.heap.size]? = some (Obj.cells arr e (0, 0)) → VR w' Ow φ' (.ref sl 0 len sz (some len)) (.slice (some ⟨w.heap.size, 0, none⟩) len len) :=
                    fun w' Ow φ' e1 e2 => .ref sl 0 len sz len _ 0 _ _ e1 (fun _ => rfl) (Nat.le_refl _) (by simp) ⟨_, _, _, e2, by omega⟩
                  have := made_of (mk := fun o => .ref o 0 len sz (some len)) hr hlen hsub hs hl hφ (d := w.drawn) h2 hle hf1 h3 hv1 hu1
                  exact this
                · cases he
              · cases he
            · cases ht
          · cases ht
      · cases ht
    · cases ht
  | makeSlice t l c =>
    simp only [tr] at ht
    split at ht
    · rename_i e hu
      split at ht
      · rename_i sz by_ zero hsz hby hz
        cases ht
        simp only [evN, List.map_cons, List.map_nil] at he
        split at he
        · rename_i l' c' hl' hc'
          split at he
          · rename_i hcond
            obtain ⟨c1, c2, c3, c4⟩ := hcond
            simp only [Option.some.injEq, Prod.mk.injEq] at he
            obtain ⟨rfl, rfl⟩ := he
            obtain ⟨k1, hk1⟩ := natOf_VR (hv l) hl'
            obtain ⟨k2, hk2⟩ := natOf_VR (hv c) hc'
            obtain ⟨arr, h2, h3⟩ := makeSlice_run (k1 := k1) (k2 := k2) hu hsz hby hz c1 c2 c3 c4 w (Own B h φ) φ
            have hsz2 : arr.size = c' * sz := by have := h3.1; simp [zcells] at this; omega
            refine made_of (s := Instr.makeSlice t (a.eval l) (a.eval c)) (u := .slice (some ⟨w.heap.size, 0, none⟩) l' c') (d := w.drawn) (c := arr) (T := e) (fz := (0, 0)) (vs := arr.toList) hr hlen hsub hs hl hφ ?_ (by simp [zcells]; omega) (by simp) h3 (by simp)
              (fun w' Ow φ' e1 e2 => .ref sl 0 l' sz c' _ 0 _ _ e1 (fun _ => rfl) c1 (by simp) ⟨_, _, _, e2, by omega⟩)
            rw [hk1, hk2, h2]
          · cases he
        · cases he
      · cases ht
    · cases ht
  | convert s d y =>
    simp only [tr] at ht
    split at ht
    · cases ht; simp [evN] at he
    · cases ht; simp [evN] at he
    · rename_i e hsu hdu
      split at ht
      · rename_i heu
        cases ht
        simp only [evN, List.map_cons, List.map_nil] at he
        split at he
        case h_2 => cases he
        rename_i st heq
        simp only [List.cons.injEq, and_true] at heq
        simp only [Option.some.injEq, Prod.mk.injEq] at he
        obtain ⟨rfl, rfl⟩ := he
        have hy := hv y
        rw [heq] at hy
        generalize hyv : a.eval y = yv at hy
        cases hy
        let cap := (Question.appendCap st.size 0 e).cut (w.tape w.drawn (.appendCap st.size 0 e))
        let arr : Array Value := (st.data.map fun b => (.int .u8 b.toNat : Value)) ++ Array.replicate (cap - st.size) (.int .u8 0)
        have hcap : st.size ≤ cap := by simp only [cap, Question.cut]; omega
        have harr : arr.size = cap := by
          have : st.data.size = st.size := rfl
          simp only [arr, Array.size_append, Array.size_map, Array.size_replicate, this]
          omega
        have hx : Cells w (Own B h φ) φ (st.data.toList.map fun b => .lit (.int .u8 b.toNat)) (st.data.toList.map fun b => .int .u8 b.toNat) := by
          refine ⟨by simp, fun j x v e e' => ?_, fun v hv => ?_⟩
          · simp only [List.getElem?_map, Option.map_eq_some_iff] at e e'
            obtain ⟨b1, h1, rfl⟩ := e
            obtain ⟨b2, h2, rfl⟩ := e'
            rw [h1] at h2
            cases h2
            exact .lit _
          · simp only [List.mem_map] at hv
            obtain ⟨b, _, rfl⟩ := hv
            rfl
        have hv1 : ∀ (j : Nat) (v : Value), (st.data.toList.map fun b => (.int .u8 b.toNat : Value))[j]? = some v → arr[j]? = some v := by
          intro j v e
          have hj : j < st.data.size := by have := (List.getElem?_eq_some_iff.1 e).1; simpa using this
          simp only [arr]
          rw [Array.getElem?_append_left (by simpa using hj)]
          simpa using e
        have hle : (st.data.toList.map fun b => (AV.lit (.int .u8 b.toNat))).length ≤ arr.size := by
          rw [harr, List.length_map]
          exact hcap
        have hf1 : ∀ j, j < arr.size → ¬ (((arr.size, arr.size + 1) : Nat × Nat).1 ≤ j ∧ j < ((arr.size, arr.size + 1) : Nat × Nat).2) := by
          intro j hj
          simp
          omega
        have hu1 : ∀ w' Ow φ', φ' sl = some (w.heap.size, 0) → w'.heap[w.heap.size]? = some (Obj.cells arr e (arr.size, arr.size + 1)) → VR w' Ow φ' (.ref sl 0 st.size 1 none) (.slice (some ⟨w.heap.size, 0, none⟩) st.size cap) :=
          fun w' Ow φ' e1 e2 => .ref sl 0 st.size 1 cap _ 0 _ _ e1 (fun _ => rfl) hcap (by simp) ⟨_, _, _, e2, by omega⟩
        have hrun : (convert s d (.string st)).run P w = .ok (.slice (some ⟨w.heap.size, 0, none⟩) st.size cap) { w with heap := w.heap.push (Obj.cells arr e (arr.size, arr.size + 1)), drawn := w.drawn + 1 } := by
          simp only [convert, Sem.run_bind, run_underlying' hsu, run_underlying' hdu, run_underlying' heu, Result.andThen_ok, Conv.stringToBytes, run_choose, Question.forced, Bool.false_eq_true, if_false, run_newRow, markStringish, run_shape, World.shape?, run_freeze, Sem.run_pure]
          simp [World.freeze, arr, cap]
          rw [modify_push_last]
          simp
        have := made_of (mk := fun o => .ref o 0 st.size 1 none) hr hlen hsub hs hl hφ hrun hle hf1 hx hv1 hu1
        rw [← hyv] at this
        exact this
      · cases ht
    · split at ht
      · cases ht; simp [evN] at he
      · cases ht
    · split at ht
      · split at ht
        · cases ht; simp [evN] at he
        · cases ht
      · cases ht
    · cases ht
  | move y => simp only [tr, Option.some.injEq, Prod.mk.injEq] at ht; obtain ⟨rfl, rfl⟩ := ht; simp [evN] at he
  | assign y => simp only [tr, Option.some.injEq, Prod.mk.injEq] at ht; obtain ⟨rfl, rfl⟩ := ht; simp [evN] at he
  | pick x y z => simp only [tr, Option.some.injEq, Prod.mk.injEq] at ht; obtain ⟨rfl, rfl⟩ := ht; simp [evN] at he
  | build t parts =>
    simp only [tr] at ht
    split at ht
    · split at ht
      · simp only [Option.map_eq_some_iff] at ht; obtain ⟨qs, _, h1⟩ := ht; cases h1; simp [evN] at he
      · cases ht
    · simp only [Option.map_eq_some_iff] at ht; obtain ⟨qs, _, h1⟩ := ht; cases h1; simp [evN] at he
    · cases ht
  | load t p => simp only [tr, Option.map_eq_some_iff] at ht; obtain ⟨⟨ag, k⟩, _, h2⟩ := ht; cases h2; simp [evN] at he
  | store t p y => simp only [tr, Option.map_eq_some_iff] at ht; obtain ⟨_, _, h1⟩ := ht; cases h1; simp [evN] at he
  | binOp op t y z yt =>
    simp only [tr] at ht
    split at ht
    · cases ht; simp [evN] at he
    · cases ht; simp [evN] at he
    · split at ht <;> first | (cases ht; simp [evN] at he; done) | (cases ht; done)
    · split at ht <;> first | (cases ht; simp [evN] at he; done) | (cases ht; done)
    · cases ht
  | unOp op t y => simp only [tr, Option.some.injEq, Prod.mk.injEq] at ht; obtain ⟨rfl, rfl⟩ := ht; simp [evN] at he
  | makeFunc f first cs =>
    cases f with
    | func f =>
      simp only [tr] at ht
      split at ht
      · cases ht; simp [evN] at he
      · cases ht
    | _ => simp [tr] at ht
  | slice t y lo hi mx =>
    simp only [tr] at ht
    split at ht
    · simp only [Option.map_eq_some_iff] at ht; obtain ⟨_, _, h1⟩ := ht; cases h1; simp [evN] at he
    · split at ht
      · cases ht
      · cases ht; simp [evN] at he
    · cases ht
  | fieldAddr s y f =>
    simp only [tr] at ht
    split at ht
    · split at ht
      · split at ht <;> first | (cases ht; simp [evN] at he; done) | (cases ht; done)
      · cases ht
    · cases ht
  | field t y f =>
    simp only [tr] at ht
    split at ht
    · split at ht
      · simp only [Option.map_eq_some_iff] at ht; obtain ⟨⟨ag, k⟩, _, h2⟩ := ht; cases h2; simp [evN] at he
      · cases ht
    · cases ht
  | indexAddr t y ix =>
    simp only [tr] at ht
    split at ht
    · simp only [Option.map_eq_some_iff] at ht; obtain ⟨_, _, h1⟩ := ht; cases h1; simp [evN] at he
    · simp only [Option.map_eq_some_iff] at ht; obtain ⟨_, _, h1⟩ := ht; cases h1; simp [evN] at he
    · cases ht
  | index t y ix =>
    simp only [tr] at ht
    split at ht
    · cases ht; simp [evN] at he
    · split at ht
      · split at ht
        · cases ht; simp [evN] at he
        · cases ht
      · cases ht
    · cases ht
  | extract y j => simp only [tr, Option.some.injEq, Prod.mk.injEq] at ht; obtain ⟨rfl, rfl⟩ := ht; simp [evN] at he
  | nilCheck y => simp only [tr, Option.some.injEq, Prod.mk.injEq] at ht; obtain ⟨rfl, rfl⟩ := ht; simp [evN] at he
  | call c =>
    obtain ⟨callee, cargs, argTypes⟩ := c
    cases callee with
    | value f => simp only [tr, Option.some.injEq, Prod.mk.injEq] at ht; obtain ⟨rfl, rfl⟩ := ht; simp [evN] at he
    | invoke r m => simp [tr] at ht
    | builtin b =>
      cases b with
      | len =>
        simp only [tr] at ht
        split at ht
        · split at ht <;> first | (cases ht; simp [evN] at he; done) | (cases ht; done)
        · cases ht
      | max => simp only [tr] at ht; split at ht <;> first | (cases ht; simp [evN] at he; done) | (cases ht; done)
      | min => simp only [tr] at ht; split at ht <;> first | (cases ht; simp [evN] at he; done) | (cases ht; done)
      | append =>
        simp only [tr] at ht
        split at ht
        · split at ht
          · split at ht
            · split at ht
              · cases ht; simp [evN] at he
              · cases ht
            · cases ht
          · split at ht
            · split at ht
              · cases ht; simp [evN] at he
              · cases ht
            · cases ht
          · cases ht
        · cases ht
      | copy =>
        simp only [tr] at ht
        split at ht
        · split at ht
          · simp only [Option.map_eq_some_iff] at ht; obtain ⟨_, _, h1⟩ := ht; cases h1; simp [evN] at he
          · cases ht
        · cases ht
      | _ => simp [tr] at ht
  | _ => simp [tr] at ht
end
end Go.Ev
