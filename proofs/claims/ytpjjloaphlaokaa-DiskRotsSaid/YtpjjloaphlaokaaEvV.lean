/- Code, by the evaluator's fuel. -/
import Derived.Test.YtpjjloaphlaokaaEvU
set_option linter.unusedVariables false
set_option linter.unusedSimpArgs false
set_option linter.unnecessarySimpa false
namespace Go.Ev
open Go
section
variable {P : Program} {pol : Pol} {X : Ext}

theorem frzs_none (id : Nat) (a b : List Nat) : frzOf [(id + 1000000, a), (id + 2000000, b)] id = none := by
  have h1 : Nat.beq (id + 1000000) id = false := by
    cases h : Nat.beq (id + 1000000) id with
    | false => rfl
    | true => have := Nat.eq_of_beq_eq_true h; omega
  have h2 : Nat.beq (id + 2000000) id = false := by
    cases h : Nat.beq (id + 2000000) id with
    | false => rfl
    | true => have := Nat.eq_of_beq_eq_true h; omega
  simp [frzOf, h1, h2]
theorem frzs_one (id : Nat) (a b : List Nat) : flagsOf [(id + 1000000, a), (id + 2000000, b)] (id + 1000000) = a := by
  have h1 : Nat.beq (id + 1000000) (id + 1000000) = true := Nat.beq_refl _
  simp [flagsOf, frzOf, h1]
theorem frzs_two (id : Nat) (a b : List Nat) : flagsOf [(id + 1000000, a), (id + 2000000, b)] (id + 2000000) = b := by
  have h1 : Nat.beq (id + 1000000) (id + 2000000) = false := by
    cases h : Nat.beq (id + 1000000) (id + 2000000) with
    | false => rfl
    | true => have := Nat.eq_of_beq_eq_true h; omega
  have h2 : Nat.beq (id + 2000000) (id + 2000000) = true := Nat.beq_refl _
  simp [flagsOf, frzOf, h1, h2]
theorem code_step (hm : P.follows .mixedOrders = true) {n : Nat} (ihc : CodeOk P (tabOf P pol X) n) (ihf : FnOk P (tabOf P pol X) n) (ihm : ∀ m, n = m + 1 → FnOk P (tabOf P pol X) m) (ihl : LoopOk P (tabOf P pol X) (n + 1)) : CodeOk P (tabOf P pol X) (n + 1) := by
  intro c frz ac hcomp B fr fr' h h' φ w a ex he hr hf hd
  cases c with
  | skip =>
    simp only [comp, Option.some.injEq] at hcomp
    subst hcomp
    simp only [evC, Option.some.injEq, Prod.mk.injEq] at he
    obtain ⟨rfl, rfl, rfl⟩ := he
    exact wp_skip ⟨rfl, φ, hr, Stp.refl _ _ _, hf, hd, Nat.le_refl _, fun _ _ => rfl⟩
  | region id ops draw =>
    simp only [comp] at hcomp
    split at hcomp
    · cases hcomp
    · rename_i l hl
      have reg : ∀ bl mk r, compR bl mk ops draw l = some r → evC (tabOf P pol X) (n + 1) r fr h = some (ex, fr', h') → (Code.region id ops draw).wp P (Pst B h φ w h' fr' ex) a w := by
        intro bl mk r hr1 her
        simp only [compR] at hr1
        · cases draw with
          | false =>
            simp only [Bool.false_eq_true, if_false, Option.some.injEq] at hr1
            subst hr1
            simp only [evC, Option.map_eq_some_iff, Prod.mk.injEq] at her
            obtain ⟨⟨fr1, h1⟩, he', rfl, rfl, rfl⟩ := her
            exact wp_region_list (evOps_sound (callOk_of ihf) (mkOk_of ihf _) _ l hl fr fr1 h h1 φ w a he' hr hf hd fun φ' w' a' q1 q2 q3 q4 q5 q6 => ⟨rfl, φ', q1, q2, q3, q4, q5, q6⟩)
          | true =>
            simp only [if_true] at hr1
            split at hr1
            · rename_i lp x hlast
              obtain ⟨rfl, hfull⟩ := lastOf_spec hlast
              split at hr1
              · rename_i hok
                simp only [Option.some.injEq] at hr1
                subst hr1
                rw [Bool.and_eq_true] at hok
                cases n with
                | zero => simp [evC] at her
                | succ m =>
                  simp only [evC] at her
                  split at her
                  · rename_i fr1 h1 he1
                    simp only [Option.map_eq_some_iff, Prod.mk.injEq] at he1 her
                    obtain ⟨⟨fr2, h2⟩, he1', _, rfl, rfl⟩ := he1
                    obtain ⟨⟨fr3, h3⟩, he2', rfl, rfl, rfl⟩ := her
                    exact dlast_sound hm pureC_of (callOkD_of (ihm m rfl)) (fun _ => mkOk_of (ihm m rfl) _) (callOk_of (ihm m rfl)) (mkOk_of (ihm m rfl) _) hl hfull (fun i d hd => dopsOf_get hd) (dopsOf_len _ _ _ _) hok.1 hok.2 he1' he2' hr hf hd fun φ' w' a' q1 q2 q3 q4 q5 q6 => ⟨rfl, φ', q1, q2, q3, q4, q5, q6⟩
                  · rename_i hne
                    rename_i r
                    simp only [Option.map_eq_some_iff, Prod.mk.injEq] at her
                    obtain ⟨⟨fr2, h2⟩, he1', rfl, rfl, rfl⟩ := her
                    exact absurd (by simp [he1']) (hne fr2 h2)
              · cases hr1
            · split at hr1
              · rename_i hok
                simp only [Option.some.injEq] at hr1
                subst hr1
                simp only [evC, Option.map_eq_some_iff, Prod.mk.injEq] at her
                obtain ⟨⟨fr1, h1⟩, he', rfl, rfl, rfl⟩ := her
                rw [Bool.and_eq_true] at hok
                exact dreg_sound hm pureC_of (callOkD_of ihf) (fun _ => mkOk_of ihf _) hl (fun i d hd => dopsOf_get hd) (dopsOf_len _ _ _ _) hok.1 hok.2 he' hr hf hd fun φ' w' a' q1 q2 q3 q4 q5 q6 => ⟨rfl, φ', q1, q2, q3, q4, q5, q6⟩
              · cases hr1
      split at hcomp
      · rename_i ts hts
        simp only [Option.map_eq_some_iff] at hcomp
        obtain ⟨r, hr1, rfl⟩ := hcomp
        have hr2 : comp P [(id + 1000000, flagsOf frz (id + 1000000)), (id + 2000000, flagsOf frz (id + 2000000))] (.region id ops draw) = some r := by
          simp only [comp, hl, frzs_none, frzs_one, frzs_two]
          exact hr1
        simp only [evC] at he
        cases n with
        | zero => simp [evC] at he
        | succ n =>
          cases hz : frzTs ts fr h with
          | none => simp [evC, hz] at he
          | some x =>
            obtain ⟨fr2, h2⟩ := x
            have he2 : evC (tabOf P pol X) (n + 1) r fr2 h2 = some (ex, fr', h') := by
              rw [evC, hz] at he
              exact he
            obtain ⟨z1, z2, z3, z4⟩ := frzTs_sound ts hz hr hf
            refine wp_mono (ihc (.region id ops draw) _ r hr2 B _ fr' _ h' φ w a ex he2 z1 z3 hd) fun e a' w' hp => hp.after z2 (by rw [z4]; exact Nat.le_refl _) fun _ _ => rfl
      · exact reg _ _ ac hcomp he
  | seq x y =>
    simp only [comp] at hcomp
    split at hcomp
    · rename_i ax ay hx hy
      cases hcomp
      simp only [evC] at he
      refine wp_seq ?_
      split at he
      · rename_i fr1 h1 he1
        refine wp_mono (ihc x frz ax hx B fr fr1 h h1 φ w a .normal he1 hr hf hd) fun e a' w' hp => ?_
        obtain ⟨rfl, φ1, q1, q2, q3, q4, q5, q6⟩ := hp
        exact wp_mono (ihc y frz ay hy B fr1 fr' h1 h' φ1 w' a' ex he q1 q3 q4) fun e a2 w2 hp => hp.after q2 q5 q6
      · rename_i hne
        refine wp_mono (ihc x frz ax hx B fr fr' h h' φ w a ex he hr hf hd) fun e a' w' hp => ?_
        obtain ⟨rfl, hp⟩ := hp
        cases ex with
        | normal => exact absurd he (hne _ _)
        | exit id => exact ⟨rfl, hp⟩
        | ret => exact ⟨rfl, hp⟩
    · cases hcomp
  | cond c x y =>
    simp only [comp] at hcomp
    split at hcomp
    · rename_i ax ay hx hy
      cases hcomp
      simp only [evC] at he
      have hv := opv_VR hf c
      split at he
      · rename_i hc
        rw [hc] at hv
        generalize hu : a.eval c = u at hv
        cases hv
        exact wp_cond_true hu (ihc x frz ax hx B fr fr' h h' φ w a ex he hr hf hd)
      · rename_i hc
        rw [hc] at hv
        generalize hu : a.eval c = u at hv
        cases hv
        exact wp_cond_false hu (ihc y frz ay hy B fr fr' h h' φ w a ex he hr hf hd)
      · cases he
    · cases hcomp
  | block id x =>
    simp only [comp, Option.map_eq_some_iff] at hcomp
    obtain ⟨ax, hx, rfl⟩ := hcomp
    simp only [evC] at he
    refine wp_block ?_
    split at he
    · rename_i id' fr1 h1 he1
      refine wp_mono (ihc x frz ax hx B fr fr1 h h1 φ w a (.exit id') he1 hr hf hd) fun e a' w' hp => ?_
      obtain ⟨rfl, hp⟩ := hp
      simp only [exOf, Exit.inBlock]
      split at he
      · rename_i hid
        rw [if_pos hid]
        simp only [Option.some.injEq, Prod.mk.injEq] at he
        obtain ⟨rfl, rfl, rfl⟩ := he
        exact ⟨rfl, hp⟩
      · rename_i hid
        rw [if_neg hid]
        simp only [Option.some.injEq, Prod.mk.injEq] at he
        obtain ⟨rfl, rfl, rfl⟩ := he
        exact ⟨rfl, hp⟩
    · rename_i hne
      refine wp_mono (ihc x frz ax hx B fr fr' h h' φ w a ex he hr hf hd) fun e a' w' hp => ?_
      obtain ⟨rfl, hp⟩ := hp
      cases ex with
      | normal => exact ⟨rfl, hp⟩
      | exit id => exact absurd he (hne _ _ _)
      | ret => exact ⟨rfl, hp⟩
  | loop x =>
    simp only [comp, Option.map_eq_some_iff] at hcomp
    obtain ⟨ax, hx, rfl⟩ := hcomp
    exact wp_loop_rounds (n + 1) (ihl x frz ax hx B fr fr' h h' φ w a ex he hr hf hd _ fun _ _ _ q => q)
  | exit id =>
    simp only [comp, Option.some.injEq] at hcomp
    subst hcomp
    simp only [evC, Option.some.injEq, Prod.mk.injEq] at he
    obtain ⟨rfl, rfl, rfl⟩ := he
    exact wp_exit ⟨rfl, φ, hr, Stp.refl _ _ _, hf, hd, Nat.le_refl _, fun _ _ => rfl⟩
  | scope x =>
    simp only [comp, Option.map_eq_some_iff] at hcomp
    obtain ⟨ax, hx, rfl⟩ := hcomp
    simp only [evC] at he
    refine wp_scope_straight (wp_mono (ihc x frz ax hx B fr fr' h h' φ w a ex he hr hf hd) fun e a' w' hp => ?_)
    obtain ⟨rfl, hp⟩ := hp
    cases ex <;> exact ⟨rfl, hp⟩
  | ret =>
    simp only [comp, Option.some.injEq] at hcomp
    subst hcomp
    simp only [evC, Option.some.injEq, Prod.mk.injEq] at he
    obtain ⟨rfl, rfl, rfl⟩ := he
    exact wp_ret ⟨rfl, φ, hr, Stp.refl _ _ _, hf, hd, Nat.le_refl _, fun _ _ => rfl⟩
  | _ => simp [comp] at hcomp

theorem loop_step {tab : FuncId → Option AFn} {n : Nat} (ihc : CodeOk P tab n) (ihl : LoopOk P tab n) : LoopOk P tab (n + 1) := by
  intro c frz ac hcomp B fr fr' h h' φ w a ex he hr hf hd Q hQ
  simp only [evC] at he
  rw [rounds_succ]
  split at he
  · rename_i fr1 h1 he1
    refine wp_mono (ihc c frz ac hcomp B fr fr1 h h1 φ w a .normal he1 hr hf hd) fun e a' w' hp => ?_
    obtain ⟨rfl, φ1, q1, q2, q3, q4, q5, q6⟩ := hp
    exact ihl c frz ac hcomp B fr1 fr' h1 h' φ1 w' a' ex he q1 q3 q4 Q fun e a2 w2 hp => hQ e a2 w2 (hp.after q2 q5 q6)
  · rename_i hne
    refine wp_mono (ihc c frz ac hcomp B fr fr' h h' φ w a ex he hr hf hd) fun e a' w' hp => ?_
    have hq := hQ e a' w' hp
    obtain ⟨rfl, hp⟩ := hp
    cases ex with
    | normal => exact absurd he (hne _ _)
    | exit id => exact hq
    | ret => exact hq

theorem all_ok (hX : ExtOk P X) (hm : P.follows .mixedOrders = true) : ∀ n, CodeOk P (tabOf P pol X) n ∧ LoopOk P (tabOf P pol X) n
  | 0 => ⟨fun c frz ac _ B fr fr' h h' φ w a ex he => by simp [evC] at he, fun c frz ac _ B fr fr' h h' φ w a ex he => by simp [evC] at he⟩
  | n + 1 => by
    obtain ⟨h1, h2⟩ := all_ok hX hm n
    have h3 := loop_step h1 h2
    exact ⟨code_step hm h1 (fnOk_of hX h1) (fun m e => fnOk_of hX (all_ok hX hm m).1) h3, h3⟩
termination_by n => n
decreasing_by all_goals omega

/-- What the evaluator answers, a call answers. -/
theorem evCall_sound (hX : ExtOk P X) (hm : P.follows .mixedOrders = true) {n : Nat} {f : FuncId} {B : Nat → Prop} {args : List AV} {h h' : Heap} {v : AV} (he : evCall (tabOf P pol X) n f args h = some (v, h')) {φ : Phi} {w : World} {vs : Array Value} (hr : HR B h φ w)
    (ha : ArgsR w (Own B h φ) φ args vs) : Calls P f vs w (Ret B h φ w v h') := by
  unfold evCall at he
  split at he
  · rename_i af haf
    exact ((fnOk_of hX (all_ok hX hm n).1).1 f af haf B args _ h v h' he (fun _ _ e => e) φ w vs hr ha).2
  · cases he
end
end Go.Ev
