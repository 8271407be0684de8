/- ref Might: walked. -/
import Derived.Test.YtpkgpapdmjapmaaFns1
namespace Go.Proofs.Ytpkgpapdmjapmaa.Fns
open Go.RowKit Go.Proofs.YtpkgpapdmjapmaaW.PrintWords Go.Proofs.YtpkgpapdmjapmaaW.PrintLast Go.Proofs.YtpkgpapdmjapmaaW.PrintMore
attribute [local go_sem] max2_int min2_int max_two min_two max_three min_three max_four min_four
set_option linter.unusedVariables false
set_option linter.unusedSimpArgs false

/-! ### fairleadref16_Might: function 26 -/
def fairleadref16_Might.j0 : Nat → List Int → Bool → Option (Bool)
  | 0, _, _ => none
  | k + 1, x0, x34 => if x34 = true then (some false) else (if (x0.length : Int) < 4 then (some true) else (if 2 < (x0.length : Int) then (if 3 < (x0.length : Int) then (if (wrap64 ((wrap64 ((wrap64 (rd x0 2)) * 256)) + (wrap64 (rd x0 3)))) ≥ 1 then (if (wrap64 ((wrap64 ((wrap64 (rd x0 2)) * 256)) + (wrap64 (rd x0 3)))) ≤ 512 then (some (decide ((x0.length : Int) < (wrap64 ((wrap64 ((wrap64 ((wrap64 (rd x0 2)) * 256)) + (wrap64 (rd x0 3)))) + 8))))) else (some false)) else (some false)) else (none)) else (none)))
def fairleadref16_Might.f (k : Nat) (l0 : List Int) : Option (Bool) := if (l0.length : Int) > 0 then (if 0 < (l0.length : Int) then (if (rd l0 0) = 102 then (if (l0.length : Int) > 1 then (if 1 < (l0.length : Int) then (if (rd l0 1) = 76 then (if (l0.length : Int) > 2 then (if 2 < (l0.length : Int) then (fairleadref16_Might.j0 k l0 (decide ((rd l0 2) > 2))) else (none)) else (fairleadref16_Might.j0 k l0 false)) else (fairleadref16_Might.j0 k l0 true)) else (none)) else (if (l0.length : Int) > 2 then (if 2 < (l0.length : Int) then (fairleadref16_Might.j0 k l0 (decide ((rd l0 2) > 2))) else (none)) else (fairleadref16_Might.j0 k l0 false))) else (fairleadref16_Might.j0 k l0 true)) else (none)) else (if (l0.length : Int) > 1 then (if 1 < (l0.length : Int) then (if (rd l0 1) = 76 then (if (l0.length : Int) > 2 then (if 2 < (l0.length : Int) then (fairleadref16_Might.j0 k l0 (decide ((rd l0 2) > 2))) else (none)) else (fairleadref16_Might.j0 k l0 false)) else (fairleadref16_Might.j0 k l0 true)) else (none)) else (if (l0.length : Int) > 2 then (if 2 < (l0.length : Int) then (fairleadref16_Might.j0 k l0 (decide ((rd l0 2) > 2))) else (none)) else (fairleadref16_Might.j0 k l0 false)))
theorem fairleadref16_Might.mono_l : ∀ k, (∀ y0 y1, LeO (fairleadref16_Might.j0 k y0 y1) (fairleadref16_Might.j0 (k + 1) y0 y1))
  | 0 => fun _ _ r h => by simp [fairleadref16_Might.j0] at h
  | k + 1 => by
    have ih0 := fairleadref16_Might.mono_l k
    · intro y0 y1
      unfold fairleadref16_Might.j0
      repeat' first
      | (with_reducible exact ih0 _ _)
      | (with_reducible exact LeO.refl _)
      | (with_reducible exact LeO.none _)
      | (with_reducible refine LeO.ite ?_ ?_)
      | (with_reducible refine LeO.bind ?_ (fun _ => ?_))
      | exact ih0 _ _
      | exact LeO.none _
      | refine LeO.ite ?_ ?_
      | refine LeO.bind ?_ (fun _ => ?_)
theorem fairleadref16_Might.mono : ∀ a0 k, LeO (fairleadref16_Might.f k a0) (fairleadref16_Might.f (k + 1) a0) := by
  intro a0 k
  have ih0 := fairleadref16_Might.mono_l k
  unfold fairleadref16_Might.f
  repeat' first
      | (with_reducible exact ih0 _ _)
      | (with_reducible exact LeO.refl _)
      | (with_reducible exact LeO.none _)
      | (with_reducible refine LeO.ite ?_ ?_)
      | (with_reducible refine LeO.bind ?_ (fun _ => ?_))
      | exact ih0 _ _
      | exact LeO.none _
      | refine LeO.ite ?_ ?_
      | refine LeO.bind ?_ (fun _ => ?_)
set_option maxHeartbeats 8000000 in
set_option maxRecDepth 100000 in
theorem fairleadref16_Might.calls (k : Nat) (A0 : Option Addr) (c0 : Nat) (l0 : List Int) (r : Bool) (w : World) (hr0 : Kd.C (Kd.int .u8) w A0 l0.length l0) (hc0 : l0.length ≤ c0) (h : fairleadref16_Might.f k l0 = some r) :
    Calls Try.prog 26 #[.slice A0 l0.length c0] w fun e w' => e = .returned (.bool r) ∧ Drawn0 w w' := by
  have HR0 := Aside0.mk hr0
  have HC0 := Aside0.mk hc0
  clear hr0 hc0
  have H : (if (l0.length : Int) > 0 then (if 0 < (l0.length : Int) then (if (rd l0 0) = 102 then (if (l0.length : Int) > 1 then (if 1 < (l0.length : Int) then (if (rd l0 1) = 76 then (if (l0.length : Int) > 2 then (if 2 < (l0.length : Int) then (fairleadref16_Might.j0 k l0 (decide ((rd l0 2) > 2))) else (none)) else (fairleadref16_Might.j0 k l0 false)) else (fairleadref16_Might.j0 k l0 true)) else (none)) else (if (l0.length : Int) > 2 then (if 2 < (l0.length : Int) then (fairleadref16_Might.j0 k l0 (decide ((rd l0 2) > 2))) else (none)) else (fairleadref16_Might.j0 k l0 false))) else (fairleadref16_Might.j0 k l0 true)) else (none)) else (if (l0.length : Int) > 1 then (if 1 < (l0.length : Int) then (if (rd l0 1) = 76 then (if (l0.length : Int) > 2 then (if 2 < (l0.length : Int) then (fairleadref16_Might.j0 k l0 (decide ((rd l0 2) > 2))) else (none)) else (fairleadref16_Might.j0 k l0 false)) else (fairleadref16_Might.j0 k l0 true)) else (none)) else (if (l0.length : Int) > 2 then (if 2 < (l0.length : Int) then (fairleadref16_Might.j0 k l0 (decide ((rd l0 2) > 2))) else (none)) else (fairleadref16_Might.j0 k l0 false)))) = some r := h
  clear h
  have HC2 := Aside0.mk H
  clear H
  go_enter Try.func26, Try.ntmps26
  go_upto_region 1 with (fail)
  repeat (go_quiet (fail); go_upto_region 1 with (fail))
  go_cut [34] (fun v34 wc => ∃ (kq : Nat) (x34_1 : Bool), v34 = .bool x34_1 ∧ Aside0 (fairleadref16_Might.j0 kq l0 x34_1 = some r) ∧ Aside0 (kq ≤ k) ∧ Drawn0 w wc)
  case first =>
    have H := HC2.out
    clear HC2
    by_cases c3 : (l0.length : Int) > 0
    · rw [if_pos c3] at H
      have c3b0 : decide (0 < (l0.length : Int)) = true := decide_eq_true c3
      have c3b1 : decide (0 < l0.length) = true := decide_eq_true (by omega)
      clear c3
      (first | rw [c3b0] | (simp only [i64_w, i32_w]; rw [c3b0]) | skip)
      by_cases c4 : 0 < (l0.length : Int)
      · rw [if_pos c4] at H
        have c4b0 : decide (0 < (l0.length : Int)) = true := decide_eq_true c4
        have c4b1 : decide (0 < l0.length) = true := decide_eq_true (by omega)
        clear c4
        by_cases c5 : (rd l0 0) = 102
        · rw [if_pos c5] at H
          have c5b0 : ((rd l0 0) == 102) = true := beq_iff_eq.mpr c5
          have c5b1 : ((rd l0 0) != 102) = false := bne_eq_false_iff_eq.mpr c5
          clear c5
          by_cases c6 : (l0.length : Int) > 1
          · rw [if_pos c6] at H
            have c6b0 : decide (1 < (l0.length : Int)) = true := decide_eq_true c6
            have c6b1 : decide (1 < l0.length) = true := decide_eq_true (by omega)
            clear c6
            by_cases c7 : 1 < (l0.length : Int)
            · rw [if_pos c7] at H
              have c7b0 : decide (1 < (l0.length : Int)) = true := decide_eq_true c7
              have c7b1 : decide (1 < l0.length) = true := decide_eq_true (by omega)
              clear c7
              by_cases c8 : (rd l0 1) = 76
              · rw [if_pos c8] at H
                have c8b0 : ((rd l0 1) == 76) = true := beq_iff_eq.mpr c8
                have c8b1 : ((rd l0 1) != 76) = false := bne_eq_false_iff_eq.mpr c8
                clear c8
                by_cases c9 : (l0.length : Int) > 2
                · rw [if_pos c9] at H
                  have c9b0 : decide (2 < (l0.length : Int)) = true := decide_eq_true c9
                  have c9b1 : decide (2 < l0.length) = true := decide_eq_true (by omega)
                  clear c9
                  by_cases c10 : 2 < (l0.length : Int)
                  · rw [if_pos c10] at H
                    have c10b0 : decide (2 < (l0.length : Int)) = true := decide_eq_true c10
                    have c10b1 : decide (2 < l0.length) = true := decide_eq_true (by omega)
                    clear c10
                    have H' := Aside0.mk H
                    clear H
                    have p204 : 0 ≤ (0 : Int) := (by omega)
                    have q204 : 0 < (l0.length : Int) := of_decide_eq_true (by first | (with_reducible assumption) | assumption)
                    obtain ⟨ad204, e204, hx204_0⟩ := Kd.at_int HR0.out 0 p204 q204
                    cases e204
                    have qi204 : (0 < l0.length) = True := eq_true (by omega)
                    (try rw [show ((0 : Int)).toNat = 0 from rfl] at hx204_0)
                    (try rw [Addr.add_zero'] at hx204_0)
                    replace p204 := eq_true p204
                    replace q204 := eq_true q204
                    have p205 : 0 ≤ (1 : Int) := (by omega)
                    have q205 : 1 < (l0.length : Int) := of_decide_eq_true (by first | (with_reducible assumption) | assumption)
                    obtain ⟨ad205, e205, hx205_0⟩ := Kd.at_int HR0.out 1 p205 q205
                    obtain rfl : ad204 = ad205 := (by injection e205)
                    (try simp only [show (1 : Int).toNat = 1 from rfl, Nat.reduceMul, Nat.reduceEqDiff, Go.Addr.add, ↓reduceIte] at hx205_0)
                    have qi205 : (1 < l0.length) = True := eq_true (by omega)
                    (try rw [show ((1 : Int)).toNat = 1 from rfl] at hx205_0)
                    replace p205 := eq_true p205
                    replace q205 := eq_true q205
                    have p206 : 0 ≤ (2 : Int) := (by omega)
                    have q206 : 2 < (l0.length : Int) := of_decide_eq_true (by first | (with_reducible assumption) | assumption)
                    obtain ⟨ad206, e206, hx206_0⟩ := Kd.at_int HR0.out 2 p206 q206
                    obtain rfl : ad204 = ad206 := (by injection e206)
                    (try simp only [show (2 : Int).toNat = 2 from rfl, Nat.reduceMul, Nat.reduceEqDiff, Go.Addr.add, ↓reduceIte] at hx206_0)
                    have qi206 : (2 < l0.length) = True := eq_true (by omega)
                    (try rw [show ((2 : Int)).toNat = 2 from rfl] at hx206_0)
                    replace p206 := eq_true p206
                    replace q206 := eq_true q206
                    go_wp2
                    repeat (go_quiet (fail); try go_wp2)
                    go_meet
                    case rel => exact ⟨_, (decide ((rd l0 2) > 2)), (by first | rfl | (simp; done) | (simp [*]; done)), H', ⟨by first | omega | exact Nat.le_refl _⟩, by repeat (first | exact Drawn0.refl _ | apply Drawn0.step)⟩
                  · rw [if_neg c10] at H
                    exact absurd H (by simp)
                · rw [if_neg c9] at H
                  have c9b0 : decide (2 < (l0.length : Int)) = false := decide_eq_false c9
                  have c9b1 : decide (2 < l0.length) = false := decide_eq_false (by omega)
                  clear c9
                  have H' := Aside0.mk H
                  clear H
                  have p204 : 0 ≤ (0 : Int) := (by omega)
                  have q204 : 0 < (l0.length : Int) := of_decide_eq_true (by first | (with_reducible assumption) | assumption)
                  obtain ⟨ad204, e204, hx204_0⟩ := Kd.at_int HR0.out 0 p204 q204
                  cases e204
                  have qi204 : (0 < l0.length) = True := eq_true (by omega)
                  (try rw [show ((0 : Int)).toNat = 0 from rfl] at hx204_0)
                  (try rw [Addr.add_zero'] at hx204_0)
                  replace p204 := eq_true p204
                  replace q204 := eq_true q204
                  have p205 : 0 ≤ (1 : Int) := (by omega)
                  have q205 : 1 < (l0.length : Int) := of_decide_eq_true (by first | (with_reducible assumption) | assumption)
                  obtain ⟨ad205, e205, hx205_0⟩ := Kd.at_int HR0.out 1 p205 q205
                  obtain rfl : ad204 = ad205 := (by injection e205)
                  (try simp only [show (1 : Int).toNat = 1 from rfl, Nat.reduceMul, Nat.reduceEqDiff, Go.Addr.add, ↓reduceIte] at hx205_0)
                  have qi205 : (1 < l0.length) = True := eq_true (by omega)
                  (try rw [show ((1 : Int)).toNat = 1 from rfl] at hx205_0)
                  replace p205 := eq_true p205
                  replace q205 := eq_true q205
                  go_wp2
                  repeat (go_quiet (fail); try go_wp2)
                  go_meet
                  case rel => exact ⟨_, (false), (by first | rfl | (simp; done) | (simp [*]; done)), H', ⟨by first | omega | exact Nat.le_refl _⟩, by repeat (first | exact Drawn0.refl _ | apply Drawn0.step)⟩
              · rw [if_neg c8] at H
                have c8b0 : ((rd l0 1) == 76) = false := beq_eq_false_iff_ne.mpr c8
                have c8b1 : ((rd l0 1) != 76) = true := bne_iff_ne.mpr c8
                have H' := Aside0.mk H
                clear H
                have p204 : 0 ≤ (0 : Int) := (by omega)
                have q204 : 0 < (l0.length : Int) := of_decide_eq_true (by first | (with_reducible assumption) | assumption)
                obtain ⟨ad204, e204, hx204_0⟩ := Kd.at_int HR0.out 0 p204 q204
                cases e204
                have qi204 : (0 < l0.length) = True := eq_true (by omega)
                (try rw [show ((0 : Int)).toNat = 0 from rfl] at hx204_0)
                (try rw [Addr.add_zero'] at hx204_0)
                replace p204 := eq_true p204
                replace q204 := eq_true q204
                have p205 : 0 ≤ (1 : Int) := (by omega)
                have q205 : 1 < (l0.length : Int) := of_decide_eq_true (by first | (with_reducible assumption) | assumption)
                obtain ⟨ad205, e205, hx205_0⟩ := Kd.at_int HR0.out 1 p205 q205
                obtain rfl : ad204 = ad205 := (by injection e205)
                (try simp only [show (1 : Int).toNat = 1 from rfl, Nat.reduceMul, Nat.reduceEqDiff, Go.Addr.add, ↓reduceIte] at hx205_0)
                have qi205 : (1 < l0.length) = True := eq_true (by omega)
                (try rw [show ((1 : Int)).toNat = 1 from rfl] at hx205_0)
                replace p205 := eq_true p205
                replace q205 := eq_true q205
                go_wp2
                repeat (go_quiet (fail); try go_wp2)
                go_meet
                case rel => exact ⟨_, (true), (by first | rfl | (simp; done) | (simp [*]; done)), H', ⟨by first | omega | exact Nat.le_refl _⟩, by repeat (first | exact Drawn0.refl _ | apply Drawn0.step)⟩
            · rw [if_neg c7] at H
              exact absurd H (by simp)
          · rw [if_neg c6] at H
            have c6b0 : decide (1 < (l0.length : Int)) = false := decide_eq_false c6
            have c6b1 : decide (1 < l0.length) = false := decide_eq_false (by omega)
            clear c6
            by_cases c11 : (l0.length : Int) > 2
            · rw [if_pos c11] at H
              have c11b0 : decide (2 < (l0.length : Int)) = true := decide_eq_true c11
              have c11b1 : decide (2 < l0.length) = true := decide_eq_true (by omega)
              clear c11
              by_cases c12 : 2 < (l0.length : Int)
              · rw [if_pos c12] at H
                have c12b0 : decide (2 < (l0.length : Int)) = true := decide_eq_true c12
                have c12b1 : decide (2 < l0.length) = true := decide_eq_true (by omega)
                clear c12
                have H' := Aside0.mk H
                clear H
                have p204 : 0 ≤ (0 : Int) := (by omega)
                have q204 : 0 < (l0.length : Int) := of_decide_eq_true (by first | (with_reducible assumption) | assumption)
                obtain ⟨ad204, e204, hx204_0⟩ := Kd.at_int HR0.out 0 p204 q204
                cases e204
                have qi204 : (0 < l0.length) = True := eq_true (by omega)
                (try rw [show ((0 : Int)).toNat = 0 from rfl] at hx204_0)
                (try rw [Addr.add_zero'] at hx204_0)
                replace p204 := eq_true p204
                replace q204 := eq_true q204
                have p207 : 0 ≤ (2 : Int) := (by omega)
                have q207 : 2 < (l0.length : Int) := of_decide_eq_true (by first | (with_reducible assumption) | assumption)
                obtain ⟨ad207, e207, hx207_0⟩ := Kd.at_int HR0.out 2 p207 q207
                obtain rfl : ad204 = ad207 := (by injection e207)
                (try simp only [show (2 : Int).toNat = 2 from rfl, Nat.reduceMul, Nat.reduceEqDiff, Go.Addr.add, ↓reduceIte] at hx207_0)
                have qi207 : (2 < l0.length) = True := eq_true (by omega)
                (try rw [show ((2 : Int)).toNat = 2 from rfl] at hx207_0)
                replace p207 := eq_true p207
                replace q207 := eq_true q207
                go_wp2
                repeat (go_quiet (fail); try go_wp2)
                go_meet
                case rel => exact ⟨_, (decide ((rd l0 2) > 2)), (by first | rfl | (simp; done) | (simp [*]; done)), H', ⟨by first | omega | exact Nat.le_refl _⟩, by repeat (first | exact Drawn0.refl _ | apply Drawn0.step)⟩
              · rw [if_neg c12] at H
                exact absurd H (by simp)
            · rw [if_neg c11] at H
              have c11b0 : decide (2 < (l0.length : Int)) = false := decide_eq_false c11
              have c11b1 : decide (2 < l0.length) = false := decide_eq_false (by omega)
              clear c11
              have H' := Aside0.mk H
              clear H
              have p204 : 0 ≤ (0 : Int) := (by omega)
              have q204 : 0 < (l0.length : Int) := of_decide_eq_true (by first | (with_reducible assumption) | assumption)
              obtain ⟨ad204, e204, hx204_0⟩ := Kd.at_int HR0.out 0 p204 q204
              cases e204
              have qi204 : (0 < l0.length) = True := eq_true (by omega)
              (try rw [show ((0 : Int)).toNat = 0 from rfl] at hx204_0)
              (try rw [Addr.add_zero'] at hx204_0)
              replace p204 := eq_true p204
              replace q204 := eq_true q204
              go_wp2
              repeat (go_quiet (fail); try go_wp2)
              go_meet
              case rel => exact ⟨_, (false), (by first | rfl | (simp; done) | (simp [*]; done)), H', ⟨by first | omega | exact Nat.le_refl _⟩, by repeat (first | exact Drawn0.refl _ | apply Drawn0.step)⟩
        · rw [if_neg c5] at H
          have c5b0 : ((rd l0 0) == 102) = false := beq_eq_false_iff_ne.mpr c5
          have c5b1 : ((rd l0 0) != 102) = true := bne_iff_ne.mpr c5
          have H' := Aside0.mk H
          clear H
          have p204 : 0 ≤ (0 : Int) := (by omega)
          have q204 : 0 < (l0.length : Int) := of_decide_eq_true (by first | (with_reducible assumption) | assumption)
          obtain ⟨ad204, e204, hx204_0⟩ := Kd.at_int HR0.out 0 p204 q204
          cases e204
          have qi204 : (0 < l0.length) = True := eq_true (by omega)
          (try rw [show ((0 : Int)).toNat = 0 from rfl] at hx204_0)
          (try rw [Addr.add_zero'] at hx204_0)
          replace p204 := eq_true p204
          replace q204 := eq_true q204
          go_wp2
          repeat (go_quiet (fail); try go_wp2)
          go_meet
          case rel => exact ⟨_, (true), (by first | rfl | (simp; done) | (simp [*]; done)), H', ⟨by first | omega | exact Nat.le_refl _⟩, by repeat (first | exact Drawn0.refl _ | apply Drawn0.step)⟩
      · rw [if_neg c4] at H
        exact absurd H (by simp)
    · rw [if_neg c3] at H
      have c3b0 : decide (0 < (l0.length : Int)) = false := decide_eq_false c3
      have c3b1 : decide (0 < l0.length) = false := decide_eq_false (by omega)
      clear c3
      (first | rw [c3b0] | (simp only [i64_w, i32_w]; rw [c3b0]) | skip)
      by_cases c13 : (l0.length : Int) > 1
      · rw [if_pos c13] at H
        have c13b0 : decide (1 < (l0.length : Int)) = true := decide_eq_true c13
        have c13b1 : decide (1 < l0.length) = true := decide_eq_true (by omega)
        clear c13
        by_cases c14 : 1 < (l0.length : Int)
        · rw [if_pos c14] at H
          have c14b0 : decide (1 < (l0.length : Int)) = true := decide_eq_true c14
          have c14b1 : decide (1 < l0.length) = true := decide_eq_true (by omega)
          clear c14
          by_cases c15 : (rd l0 1) = 76
          · rw [if_pos c15] at H
            have c15b0 : ((rd l0 1) == 76) = true := beq_iff_eq.mpr c15
            have c15b1 : ((rd l0 1) != 76) = false := bne_eq_false_iff_eq.mpr c15
            clear c15
            by_cases c16 : (l0.length : Int) > 2
            · rw [if_pos c16] at H
              have c16b0 : decide (2 < (l0.length : Int)) = true := decide_eq_true c16
              have c16b1 : decide (2 < l0.length) = true := decide_eq_true (by omega)
              clear c16
              by_cases c17 : 2 < (l0.length : Int)
              · rw [if_pos c17] at H
                have c17b0 : decide (2 < (l0.length : Int)) = true := decide_eq_true c17
                have c17b1 : decide (2 < l0.length) = true := decide_eq_true (by omega)
                clear c17
                have H' := Aside0.mk H
                clear H
                have p208 : 0 ≤ (1 : Int) := (by omega)
                have q208 : 1 < (l0.length : Int) := of_decide_eq_true (by first | (with_reducible assumption) | assumption)
                obtain ⟨ad208, e208, hx208_0⟩ := Kd.at_int HR0.out 1 p208 q208
                cases e208
                (try simp only [show (1 : Int).toNat = 1 from rfl, Nat.reduceMul, Nat.reduceEqDiff, Go.Addr.add, ↓reduceIte] at hx208_0)
                have qi208 : (1 < l0.length) = True := eq_true (by omega)
                (try rw [show ((1 : Int)).toNat = 1 from rfl] at hx208_0)
                replace p208 := eq_true p208
                replace q208 := eq_true q208
                have p209 : 0 ≤ (2 : Int) := (by omega)
                have q209 : 2 < (l0.length : Int) := of_decide_eq_true (by first | (with_reducible assumption) | assumption)
                obtain ⟨ad209, e209, hx209_0⟩ := Kd.at_int HR0.out 2 p209 q209
                obtain rfl : ad208 = ad209 := (by injection e209)
                (try simp only [show (2 : Int).toNat = 2 from rfl, Nat.reduceMul, Nat.reduceEqDiff, Go.Addr.add, ↓reduceIte] at hx209_0)
                have qi209 : (2 < l0.length) = True := eq_true (by omega)
                (try rw [show ((2 : Int)).toNat = 2 from rfl] at hx209_0)
                replace p209 := eq_true p209
                replace q209 := eq_true q209
                go_wp2
                repeat (go_quiet (fail); try go_wp2)
                go_meet
                case rel => exact ⟨_, (decide ((rd l0 2) > 2)), (by first | rfl | (simp; done) | (simp [*]; done)), H', ⟨by first | omega | exact Nat.le_refl _⟩, by repeat (first | exact Drawn0.refl _ | apply Drawn0.step)⟩
              · rw [if_neg c17] at H
                exact absurd H (by simp)
            · rw [if_neg c16] at H
              have c16b0 : decide (2 < (l0.length : Int)) = false := decide_eq_false c16
              have c16b1 : decide (2 < l0.length) = false := decide_eq_false (by omega)
              clear c16
              have H' := Aside0.mk H
              clear H
              have p208 : 0 ≤ (1 : Int) := (by omega)
              have q208 : 1 < (l0.length : Int) := of_decide_eq_true (by first | (with_reducible assumption) | assumption)
              obtain ⟨ad208, e208, hx208_0⟩ := Kd.at_int HR0.out 1 p208 q208
              cases e208
              (try simp only [show (1 : Int).toNat = 1 from rfl, Nat.reduceMul, Nat.reduceEqDiff, Go.Addr.add, ↓reduceIte] at hx208_0)
              have qi208 : (1 < l0.length) = True := eq_true (by omega)
              (try rw [show ((1 : Int)).toNat = 1 from rfl] at hx208_0)
              replace p208 := eq_true p208
              replace q208 := eq_true q208
              go_wp2
              repeat (go_quiet (fail); try go_wp2)
              go_meet
              case rel => exact ⟨_, (false), (by first | rfl | (simp; done) | (simp [*]; done)), H', ⟨by first | omega | exact Nat.le_refl _⟩, by repeat (first | exact Drawn0.refl _ | apply Drawn0.step)⟩
          · rw [if_neg c15] at H
            have c15b0 : ((rd l0 1) == 76) = false := beq_eq_false_iff_ne.mpr c15
            have c15b1 : ((rd l0 1) != 76) = true := bne_iff_ne.mpr c15
            have H' := Aside0.mk H
            clear H
            have p208 : 0 ≤ (1 : Int) := (by omega)
            have q208 : 1 < (l0.length : Int) := of_decide_eq_true (by first | (with_reducible assumption) | assumption)
            obtain ⟨ad208, e208, hx208_0⟩ := Kd.at_int HR0.out 1 p208 q208
            cases e208
            (try simp only [show (1 : Int).toNat = 1 from rfl, Nat.reduceMul, Nat.reduceEqDiff, Go.Addr.add, ↓reduceIte] at hx208_0)
            have qi208 : (1 < l0.length) = True := eq_true (by omega)
            (try rw [show ((1 : Int)).toNat = 1 from rfl] at hx208_0)
            replace p208 := eq_true p208
            replace q208 := eq_true q208
            go_wp2
            repeat (go_quiet (fail); try go_wp2)
            go_meet
            case rel => exact ⟨_, (true), (by first | rfl | (simp; done) | (simp [*]; done)), H', ⟨by first | omega | exact Nat.le_refl _⟩, by repeat (first | exact Drawn0.refl _ | apply Drawn0.step)⟩
        · rw [if_neg c14] at H
          exact absurd H (by simp)
      · rw [if_neg c13] at H
        have c13b0 : decide (1 < (l0.length : Int)) = false := decide_eq_false c13
        have c13b1 : decide (1 < l0.length) = false := decide_eq_false (by omega)
        clear c13
        by_cases c18 : (l0.length : Int) > 2
        · rw [if_pos c18] at H
          have c18b0 : decide (2 < (l0.length : Int)) = true := decide_eq_true c18
          have c18b1 : decide (2 < l0.length) = true := decide_eq_true (by omega)
          clear c18
          by_cases c19 : 2 < (l0.length : Int)
          · rw [if_pos c19] at H
            have c19b0 : decide (2 < (l0.length : Int)) = true := decide_eq_true c19
            have c19b1 : decide (2 < l0.length) = true := decide_eq_true (by omega)
            clear c19
            have H' := Aside0.mk H
            clear H
            have p210 : 0 ≤ (2 : Int) := (by omega)
            have q210 : 2 < (l0.length : Int) := of_decide_eq_true (by first | (with_reducible assumption) | assumption)
            obtain ⟨ad210, e210, hx210_0⟩ := Kd.at_int HR0.out 2 p210 q210
            cases e210
            (try simp only [show (2 : Int).toNat = 2 from rfl, Nat.reduceMul, Nat.reduceEqDiff, Go.Addr.add, ↓reduceIte] at hx210_0)
            have qi210 : (2 < l0.length) = True := eq_true (by omega)
            (try rw [show ((2 : Int)).toNat = 2 from rfl] at hx210_0)
            replace p210 := eq_true p210
            replace q210 := eq_true q210
            go_wp2
            repeat (go_quiet (fail); try go_wp2)
            go_meet
            case rel => exact ⟨_, (decide ((rd l0 2) > 2)), (by first | rfl | (simp; done) | (simp [*]; done)), H', ⟨by first | omega | exact Nat.le_refl _⟩, by repeat (first | exact Drawn0.refl _ | apply Drawn0.step)⟩
          · rw [if_neg c19] at H
            exact absurd H (by simp)
        · rw [if_neg c18] at H
          have c18b0 : decide (2 < (l0.length : Int)) = false := decide_eq_false c18
          have c18b1 : decide (2 < l0.length) = false := decide_eq_false (by omega)
          clear c18
          have H' := Aside0.mk H
          clear H
          go_wp2
          repeat (go_quiet (fail); try go_wp2)
          go_meet
          case rel => exact ⟨_, (false), (by first | rfl | (simp; done) | (simp [*]; done)), H', ⟨by first | omega | exact Nat.le_refl _⟩, by repeat (first | exact Drawn0.refl _ | apply Drawn0.step)⟩
  case rest =>
    clear HC2
    try clear c1
    try clear c2
    try clear p2
    try clear q2
    try clear hx2
    try clear qi2
    try clear c3
    try clear c3b0
    try clear c3b1
    try clear c4
    try clear c4b0
    try clear c4b1
    try clear c5
    try clear c5b0
    try clear c5b1
    try clear c6
    try clear c6b0
    try clear c6b1
    try clear c7
    try clear c7b0
    try clear c7b1
    try clear c8
    try clear c8b0
    try clear c8b1
    try clear c9
    try clear c9b0
    try clear c9b1
    try clear c10
    try clear c10b0
    try clear c10b1
    try clear c11
    try clear c11b0
    try clear c11b1
    try clear c12
    try clear c12b0
    try clear c12b1
    try clear c13
    try clear c13b0
    try clear c13b1
    try clear c14
    try clear c14b0
    try clear c14b1
    try clear c15
    try clear c15b0
    try clear c15b1
    try clear c16
    try clear c16b0
    try clear c16b1
    try clear c17
    try clear c17b0
    try clear c17b1
    try clear c18
    try clear c18b0
    try clear c18b1
    try clear c19
    try clear c19b0
    try clear c19b1
    try clear hx204_0
    try clear hx205_0
    try clear hx206_0
    try clear hx207_0
    try clear hx208_0
    try clear hx209_0
    try clear hx210_0
    try clear p204
    try clear p205
    try clear p206
    try clear p207
    try clear p208
    try clear p209
    try clear p210
    try clear q204
    try clear q205
    try clear q206
    try clear q207
    try clear q208
    try clear q209
    try clear q210
    obtain ⟨kq, x34_1, rfl, HA, HJ1, ⟨mc1, rfl⟩⟩ := hcut
    cases kq with
    | zero => exact absurd HA.out (by simp [fairleadref16_Might.j0])
    | succ kj1 =>
      have H := HA.out
      clear HA
      simp only [fairleadref16_Might.j0] at H
      by_cases c20 : x34_1 = true
      · subst c20
        have H1 : (some false) = some r := by rw [if_pos rfl] at H; exact H
        clear H
        have H := H1
        clear H1
        obtain rfl := Option.some.inj H
        go_wp2
        repeat (go_quiet (fail); try go_wp2)
        go_ret
        exact ⟨by first | rfl | (simp; done) | (simp [*]; done), by repeat (first | exact Drawn0.refl _ | apply Drawn0.step)⟩
      · replace c20 := Bool.eq_false_iff.mpr c20
        subst c20
        have H1 : (if (l0.length : Int) < 4 then (some true) else (if 2 < (l0.length : Int) then (if 3 < (l0.length : Int) then (if (wrap64 ((wrap64 ((wrap64 (rd l0 2)) * 256)) + (wrap64 (rd l0 3)))) ≥ 1 then (if (wrap64 ((wrap64 ((wrap64 (rd l0 2)) * 256)) + (wrap64 (rd l0 3)))) ≤ 512 then (some (decide ((l0.length : Int) < (wrap64 ((wrap64 ((wrap64 ((wrap64 (rd l0 2)) * 256)) + (wrap64 (rd l0 3)))) + 8))))) else (some false)) else (some false)) else (none)) else (none))) = some r := by rw [if_neg (show ¬ (false = true) by decide)] at H; exact H
        clear H
        have H := H1
        clear H1
        by_cases c21 : (l0.length : Int) < 4
        · rw [if_pos c21] at H
          have c21b0 : decide ((l0.length : Int) < 4) = true := decide_eq_true c21
          have c21b1 : decide (l0.length < 4) = true := decide_eq_true (by omega)
          clear c21
          obtain rfl := Option.some.inj H
          go_wp2
          repeat (go_quiet (fail); try go_wp2)
          go_ret
          exact ⟨by first | rfl | (simp; done) | (simp [*]; done), by repeat (first | exact Drawn0.refl _ | apply Drawn0.step)⟩
        · rw [if_neg c21] at H
          have c21b0 : decide ((l0.length : Int) < 4) = false := decide_eq_false c21
          have c21b1 : decide (l0.length < 4) = false := decide_eq_false (by omega)
          clear c21
          by_cases c22 : 2 < (l0.length : Int)
          · rw [if_pos c22] at H
            have c22b0 : decide (2 < (l0.length : Int)) = true := decide_eq_true c22
            have c22b1 : decide (2 < l0.length) = true := decide_eq_true (by omega)
            clear c22
            by_cases c23 : 3 < (l0.length : Int)
            · rw [if_pos c23] at H
              have c23b0 : decide (3 < (l0.length : Int)) = true := decide_eq_true c23
              have c23b1 : decide (3 < l0.length) = true := decide_eq_true (by omega)
              clear c23
              by_cases c24 : (wrap64 ((wrap64 ((wrap64 (rd l0 2)) * 256)) + (wrap64 (rd l0 3)))) ≥ 1
              · rw [if_pos c24] at H
                have c24b0 : decide (1 ≤ (wrap64 ((wrap64 ((wrap64 (rd l0 2)) * 256)) + (wrap64 (rd l0 3))))) = true := decide_eq_true c24
                clear c24
                by_cases c25 : (wrap64 ((wrap64 ((wrap64 (rd l0 2)) * 256)) + (wrap64 (rd l0 3)))) ≤ 512
                · rw [if_pos c25] at H
                  have c25b0 : decide ((wrap64 ((wrap64 ((wrap64 (rd l0 2)) * 256)) + (wrap64 (rd l0 3)))) ≤ 512) = true := decide_eq_true c25
                  clear c25
                  obtain rfl := Option.some.inj H
                  have p211 : 0 ≤ (2 : Int) := (by omega)
                  have q211 : 2 < (l0.length : Int) := of_decide_eq_true (by first | (with_reducible assumption) | assumption)
                  obtain ⟨ad211, e211, hx211_0⟩ := Kd.at_int HR0.out 2 p211 q211
                  cases e211
                  (try simp only [show (2 : Int).toNat = 2 from rfl, Nat.reduceMul, Nat.reduceEqDiff, Go.Addr.add, ↓reduceIte] at hx211_0)
                  have qi211 : (2 < l0.length) = True := eq_true (by omega)
                  (try rw [show ((2 : Int)).toNat = 2 from rfl] at hx211_0)
                  replace p211 := eq_true p211
                  replace q211 := eq_true q211
                  have p212 : 0 ≤ (3 : Int) := (by omega)
                  have q212 : 3 < (l0.length : Int) := of_decide_eq_true (by first | (with_reducible assumption) | assumption)
                  obtain ⟨ad212, e212, hx212_0⟩ := Kd.at_int HR0.out 3 p212 q212
                  obtain rfl : ad211 = ad212 := (by injection e212)
                  (try simp only [show (3 : Int).toNat = 3 from rfl, Nat.reduceMul, Nat.reduceEqDiff, Go.Addr.add, ↓reduceIte] at hx212_0)
                  have qi212 : (3 < l0.length) = True := eq_true (by omega)
                  (try rw [show ((3 : Int)).toNat = 3 from rfl] at hx212_0)
                  replace p212 := eq_true p212
                  replace q212 := eq_true q212
                  go_wp2
                  repeat (go_quiet (fail); try go_wp2)
                  go_ret
                  exact ⟨by first | rfl | (simp; done) | (simp [*]; done), by repeat (first | exact Drawn0.refl _ | apply Drawn0.step)⟩
                · rw [if_neg c25] at H
                  have c25b0 : decide ((wrap64 ((wrap64 ((wrap64 (rd l0 2)) * 256)) + (wrap64 (rd l0 3)))) ≤ 512) = false := decide_eq_false c25
                  clear c25
                  obtain rfl := Option.some.inj H
                  have p211 : 0 ≤ (2 : Int) := (by omega)
                  have q211 : 2 < (l0.length : Int) := of_decide_eq_true (by first | (with_reducible assumption) | assumption)
                  obtain ⟨ad211, e211, hx211_0⟩ := Kd.at_int HR0.out 2 p211 q211
                  cases e211
                  (try simp only [show (2 : Int).toNat = 2 from rfl, Nat.reduceMul, Nat.reduceEqDiff, Go.Addr.add, ↓reduceIte] at hx211_0)
                  have qi211 : (2 < l0.length) = True := eq_true (by omega)
                  (try rw [show ((2 : Int)).toNat = 2 from rfl] at hx211_0)
                  replace p211 := eq_true p211
                  replace q211 := eq_true q211
                  have p212 : 0 ≤ (3 : Int) := (by omega)
                  have q212 : 3 < (l0.length : Int) := of_decide_eq_true (by first | (with_reducible assumption) | assumption)
                  obtain ⟨ad212, e212, hx212_0⟩ := Kd.at_int HR0.out 3 p212 q212
                  obtain rfl : ad211 = ad212 := (by injection e212)
                  (try simp only [show (3 : Int).toNat = 3 from rfl, Nat.reduceMul, Nat.reduceEqDiff, Go.Addr.add, ↓reduceIte] at hx212_0)
                  have qi212 : (3 < l0.length) = True := eq_true (by omega)
                  (try rw [show ((3 : Int)).toNat = 3 from rfl] at hx212_0)
                  replace p212 := eq_true p212
                  replace q212 := eq_true q212
                  go_wp2
                  repeat (go_quiet (fail); try go_wp2)
                  go_ret
                  exact ⟨by first | rfl | (simp; done) | (simp [*]; done), by repeat (first | exact Drawn0.refl _ | apply Drawn0.step)⟩
              · rw [if_neg c24] at H
                have c24b0 : decide (1 ≤ (wrap64 ((wrap64 ((wrap64 (rd l0 2)) * 256)) + (wrap64 (rd l0 3))))) = false := decide_eq_false c24
                clear c24
                obtain rfl := Option.some.inj H
                have p211 : 0 ≤ (2 : Int) := (by omega)
                have q211 : 2 < (l0.length : Int) := of_decide_eq_true (by first | (with_reducible assumption) | assumption)
                obtain ⟨ad211, e211, hx211_0⟩ := Kd.at_int HR0.out 2 p211 q211
                cases e211
                (try simp only [show (2 : Int).toNat = 2 from rfl, Nat.reduceMul, Nat.reduceEqDiff, Go.Addr.add, ↓reduceIte] at hx211_0)
                have qi211 : (2 < l0.length) = True := eq_true (by omega)
                (try rw [show ((2 : Int)).toNat = 2 from rfl] at hx211_0)
                replace p211 := eq_true p211
                replace q211 := eq_true q211
                have p212 : 0 ≤ (3 : Int) := (by omega)
                have q212 : 3 < (l0.length : Int) := of_decide_eq_true (by first | (with_reducible assumption) | assumption)
                obtain ⟨ad212, e212, hx212_0⟩ := Kd.at_int HR0.out 3 p212 q212
                obtain rfl : ad211 = ad212 := (by injection e212)
                (try simp only [show (3 : Int).toNat = 3 from rfl, Nat.reduceMul, Nat.reduceEqDiff, Go.Addr.add, ↓reduceIte] at hx212_0)
                have qi212 : (3 < l0.length) = True := eq_true (by omega)
                (try rw [show ((3 : Int)).toNat = 3 from rfl] at hx212_0)
                replace p212 := eq_true p212
                replace q212 := eq_true q212
                go_wp2
                repeat (go_quiet (fail); try go_wp2)
                go_ret
                exact ⟨by first | rfl | (simp; done) | (simp [*]; done), by repeat (first | exact Drawn0.refl _ | apply Drawn0.step)⟩
            · rw [if_neg c23] at H
              exact absurd H (by simp)
          · rw [if_neg c22] at H
            exact absurd H (by simp)

-- NOT PRINTED: function 15 (fairleadref16_Reader_Next)

-- NOT PRINTED: function 4 (fairleadlaw16_FrameReads)

end Go.Proofs.Ytpkgpapdmjapmaa.Fns
