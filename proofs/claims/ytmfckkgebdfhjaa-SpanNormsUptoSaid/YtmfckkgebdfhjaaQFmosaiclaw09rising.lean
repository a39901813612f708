/- What functions of the program compute, and that they do: written by this session's program mk.py, over the kit's print. No condition. -/
import Derived.Test.YtmfckkgebdfhjaaQx0
namespace Go.Proofs.Ytmfckkgebdfhjaa.Q
open Go.RowKit Go.Proofs.YtmfckkgebdfhjaaW.PrintWords Go.Proofs.YtmfckkgebdfhjaaW.PrintLast Go.Proofs.YtmfckkgebdfhjaaW.PrintMore
attribute [local go_sem] max2_int min2_int max_two min_two max_three min_three max_four min_four   -- for this text's walks alone
set_option linter.unusedVariables false
set_option linter.unusedSimpArgs false

/-! ### mosaiclaw09_rising: function 28 -/
def mosaiclaw09_rising.l0 : Nat → List (S24) → Int → Option (Bool)
  | 0, _, _ => none
  | k + 1, x0, x3 => if x3 < (x0.length : Int) then (if 0 ≤ x3 then (if ((rd_T24 x0 x3).f0) < 0 then (some false) else (if ((rd_T24 x0 x3).f1) > 65535 then (some false) else (if ((rd_T24 x0 x3).f0) ≥ ((rd_T24 x0 x3).f1) then (some false) else (if x3 > 0 then (if 0 ≤ (wrap64 (x3 - 1)) then (if (wrap64 (x3 - 1)) < (x0.length : Int) then (if ((rd_T24 x0 x3).f0) ≤ ((rd_T24 x0 (wrap64 (x3 - 1))).f1) then (some false) else (mosaiclaw09_rising.l0 k x0 (wrap64 (x3 + 1)))) else (none)) else (none)) else (mosaiclaw09_rising.l0 k x0 (wrap64 (x3 + 1))))))) else (none)) else (some true)
def mosaiclaw09_rising.f (k : Nat) (l0 : List (S24)) : Option (Bool) := mosaiclaw09_rising.l0 k l0 0
theorem mosaiclaw09_rising.mono_l : ∀ k, (∀ y0 y1, LeO (mosaiclaw09_rising.l0 k y0 y1) (mosaiclaw09_rising.l0 (k + 1) y0 y1))
  | 0 => fun _ _ r h => by simp [mosaiclaw09_rising.l0] at h
  | k + 1 => by
    have ih0 := mosaiclaw09_rising.mono_l k
    · intro y0 y1
      unfold mosaiclaw09_rising.l0
      repeat' first
      | (with_reducible exact ih0 _ _)
      | (with_reducible exact LeO.refl _)
      | (with_reducible exact LeO.none _)
      | (with_reducible refine LeO.ite ?_ ?_)
      | (with_reducible refine LeO.bind ?_ (fun _ => ?_))
      | exact ih0 _ _
      | exact LeO.none _
      | refine LeO.ite ?_ ?_
      | refine LeO.bind ?_ (fun _ => ?_)
theorem mosaiclaw09_rising.mono : ∀ a0 k, LeO (mosaiclaw09_rising.f k a0) (mosaiclaw09_rising.f (k + 1) a0) := by
  intro a0 k
  have ih0 := mosaiclaw09_rising.mono_l k
  unfold mosaiclaw09_rising.f
  repeat' first
      | (with_reducible exact ih0 _ _)
      | (with_reducible exact LeO.refl _)
      | (with_reducible exact LeO.none _)
      | (with_reducible refine LeO.ite ?_ ?_)
      | (with_reducible refine LeO.bind ?_ (fun _ => ?_))
      | exact ih0 _ _
      | exact LeO.none _
      | refine LeO.ite ?_ ?_
      | refine LeO.bind ?_ (fun _ => ?_)
set_option maxHeartbeats 8000000 in
set_option maxRecDepth 100000 in
theorem mosaiclaw09_rising.calls (k : Nat) (A0 : Option Addr) (c0 : Nat) (l0 : List (S24)) (r : Bool) (w : World) (hr0 : Kd.C k24 w A0 l0.length l0) (hc0 : l0.length ≤ c0) (h : mosaiclaw09_rising.f k l0 = some r) :
    Calls Try.prog 28 #[.slice A0 l0.length c0] w fun e w' => e = .returned (.bool r) ∧ Drawn0 w w' := by
  have HR0 := Aside0.mk hr0
  have HC0 := Aside0.mk hc0
  clear hr0 hc0
  have H : (mosaiclaw09_rising.l0 k l0 0) = some r := h
  clear h
  have H' := Aside0.mk H
  clear H
  go_enter Try.func28, Try.ntmps28
  go_wp2
  repeat (go_quiet (fail); try go_wp2)
  go_loopg [3] k (fun kq v3 w' => ∃ (x3_1 : Int), v3 = .int .i64 x3_1 ∧ Aside0 (mosaiclaw09_rising.l0 kq l0 x3_1 = some r) ∧ Aside0 (kq ≤ k) ∧ Drawn0 w w')
  case atStart => exact ⟨(0), (by first | rfl | (simp; done) | (simp [*]; done)), H', ⟨Nat.le_refl _⟩, by repeat (first | exact Drawn0.refl _ | apply Drawn0.step)⟩
  case round =>
    clear H'
    obtain ⟨x3_1, rfl, HA, HK1, ⟨m1, rfl⟩⟩ := hrel
    cases gk with
    | zero => exact absurd HA.out (by simp [mosaiclaw09_rising.l0])
    | succ k1 =>
      have H := HA.out
      clear HA
      simp only [mosaiclaw09_rising.l0] at H
      by_cases c2 : x3_1 < (l0.length : Int)
      · rw [if_pos c2] at H
        have c2b0 : decide (x3_1 < (l0.length : Int)) = true := decide_eq_true c2
        clear c2
        by_cases c3 : 0 ≤ x3_1
        · rw [if_pos c3] at H
          have c3b0 : decide (0 ≤ x3_1) = true := decide_eq_true c3
          clear c3
          by_cases c4 : ((rd_T24 l0 x3_1).f0) < 0
          · rw [if_pos c4] at H
            have c4b0 : decide (((rd_T24 l0 x3_1).f0) < 0) = true := decide_eq_true c4
            clear c4
            obtain rfl := Option.some.inj H
            have p351 : 0 ≤ (x3_1 : Int) := of_decide_eq_true (by first | (with_reducible assumption) | assumption)
            have q351 : x3_1 < (l0.length : Int) := of_decide_eq_true (by first | (with_reducible assumption) | assumption)
            obtain ⟨ad351, e351, hx351_0, hx351_1⟩ := at_T24 HR0.out x3_1 p351 q351
            cases e351
            replace p351 := eq_true p351
            replace q351 := eq_true q351
            go_wp2
            repeat (go_quiet (fail); try go_wp2)
            go_ret
            exact ⟨by first | rfl | (simp; done) | (simp [*]; done), by repeat (first | exact Drawn0.refl _ | apply Drawn0.step)⟩
          · rw [if_neg c4] at H
            have c4b0 : decide (((rd_T24 l0 x3_1).f0) < 0) = false := decide_eq_false c4
            clear c4
            by_cases c5 : ((rd_T24 l0 x3_1).f1) > 65535
            · rw [if_pos c5] at H
              have c5b0 : decide (65535 < ((rd_T24 l0 x3_1).f1)) = true := decide_eq_true c5
              clear c5
              obtain rfl := Option.some.inj H
              have p351 : 0 ≤ (x3_1 : Int) := of_decide_eq_true (by first | (with_reducible assumption) | assumption)
              have q351 : x3_1 < (l0.length : Int) := of_decide_eq_true (by first | (with_reducible assumption) | assumption)
              obtain ⟨ad351, e351, hx351_0, hx351_1⟩ := at_T24 HR0.out x3_1 p351 q351
              cases e351
              replace p351 := eq_true p351
              replace q351 := eq_true q351
              have p352 : 0 ≤ (x3_1 : Int) := of_decide_eq_true (by first | (with_reducible assumption) | assumption)
              have q352 : x3_1 < (l0.length : Int) := of_decide_eq_true (by first | (with_reducible assumption) | assumption)
              obtain ⟨ad352, e352, hx352_0, hx352_1⟩ := at_T24 HR0.out x3_1 p352 q352
              obtain rfl : ad351 = ad352 := (by injection e352)
              replace p352 := eq_true p352
              replace q352 := eq_true q352
              go_wp2
              repeat (go_quiet (fail); try go_wp2)
              go_ret
              exact ⟨by first | rfl | (simp; done) | (simp [*]; done), by repeat (first | exact Drawn0.refl _ | apply Drawn0.step)⟩
            · rw [if_neg c5] at H
              have c5b0 : decide (65535 < ((rd_T24 l0 x3_1).f1)) = false := decide_eq_false c5
              clear c5
              by_cases c6 : ((rd_T24 l0 x3_1).f0) ≥ ((rd_T24 l0 x3_1).f1)
              · rw [if_pos c6] at H
                have c6b0 : decide (((rd_T24 l0 x3_1).f1) ≤ ((rd_T24 l0 x3_1).f0)) = true := decide_eq_true c6
                clear c6
                obtain rfl := Option.some.inj H
                have p351 : 0 ≤ (x3_1 : Int) := of_decide_eq_true (by first | (with_reducible assumption) | assumption)
                have q351 : x3_1 < (l0.length : Int) := of_decide_eq_true (by first | (with_reducible assumption) | assumption)
                obtain ⟨ad351, e351, hx351_0, hx351_1⟩ := at_T24 HR0.out x3_1 p351 q351
                cases e351
                replace p351 := eq_true p351
                replace q351 := eq_true q351
                have p352 : 0 ≤ (x3_1 : Int) := of_decide_eq_true (by first | (with_reducible assumption) | assumption)
                have q352 : x3_1 < (l0.length : Int) := of_decide_eq_true (by first | (with_reducible assumption) | assumption)
                obtain ⟨ad352, e352, hx352_0, hx352_1⟩ := at_T24 HR0.out x3_1 p352 q352
                obtain rfl : ad351 = ad352 := (by injection e352)
                replace p352 := eq_true p352
                replace q352 := eq_true q352
                have p353 : 0 ≤ (x3_1 : Int) := of_decide_eq_true (by first | (with_reducible assumption) | assumption)
                have q353 : x3_1 < (l0.length : Int) := of_decide_eq_true (by first | (with_reducible assumption) | assumption)
                obtain ⟨ad353, e353, hx353_0, hx353_1⟩ := at_T24 HR0.out x3_1 p353 q353
                obtain rfl : ad351 = ad353 := (by injection e353)
                replace p353 := eq_true p353
                replace q353 := eq_true q353
                have p354 : 0 ≤ (x3_1 : Int) := of_decide_eq_true (by first | (with_reducible assumption) | assumption)
                have q354 : x3_1 < (l0.length : Int) := of_decide_eq_true (by first | (with_reducible assumption) | assumption)
                obtain ⟨ad354, e354, hx354_0, hx354_1⟩ := at_T24 HR0.out x3_1 p354 q354
                obtain rfl : ad351 = ad354 := (by injection e354)
                replace p354 := eq_true p354
                replace q354 := eq_true q354
                go_wp2
                repeat (go_quiet (fail); try go_wp2)
                go_ret
                exact ⟨by first | rfl | (simp; done) | (simp [*]; done), by repeat (first | exact Drawn0.refl _ | apply Drawn0.step)⟩
              · rw [if_neg c6] at H
                have c6b0 : decide (((rd_T24 l0 x3_1).f1) ≤ ((rd_T24 l0 x3_1).f0)) = false := decide_eq_false c6
                clear c6
                by_cases c7 : x3_1 > 0
                · rw [if_pos c7] at H
                  have c7b0 : decide (0 < x3_1) = true := decide_eq_true c7
                  clear c7
                  obtain ⟨ji8, hji8⟩ : ∃ j_ : Int, (wrap64 (x3_1 - 1)) = j_ := ⟨_, rfl⟩
                  replace H : (if 0 ≤ (ji8) then (if (ji8) < (l0.length : Int) then (if ((rd_T24 l0 x3_1).f0) ≤ ((rd_T24 l0 (ji8)).f1) then (some false) else (mosaiclaw09_rising.l0 k1 l0 (wrap64 (x3_1 + 1)))) else (none)) else (none)) = some r := by first | (rw [hji8] at H; exact H) | (simp only [hji8] at H ⊢; exact H)
                  have hji8w : (IntKind.i64.wrap (x3_1 - 1)) = ji8 := (i64_w _).trans hji8
                  by_cases c9 : 0 ≤ (ji8)
                  · rw [if_pos c9] at H
                    have c9b0 : decide (0 ≤ (ji8)) = true := decide_eq_true c9
                    clear c9
                    by_cases c10 : (ji8) < (l0.length : Int)
                    · rw [if_pos c10] at H
                      have c10b0 : decide ((ji8) < (l0.length : Int)) = true := decide_eq_true c10
                      clear c10
                      by_cases c11 : ((rd_T24 l0 x3_1).f0) ≤ ((rd_T24 l0 (ji8)).f1)
                      · rw [if_pos c11] at H
                        have c11b0 : decide (((rd_T24 l0 x3_1).f0) ≤ ((rd_T24 l0 (ji8)).f1)) = true := decide_eq_true c11
                        clear c11
                        obtain rfl := Option.some.inj H
                        have p351 : 0 ≤ (x3_1 : Int) := of_decide_eq_true (by first | (with_reducible assumption) | assumption)
                        have q351 : x3_1 < (l0.length : Int) := of_decide_eq_true (by first | (with_reducible assumption) | assumption)
                        obtain ⟨ad351, e351, hx351_0, hx351_1⟩ := at_T24 HR0.out x3_1 p351 q351
                        cases e351
                        replace p351 := eq_true p351
                        replace q351 := eq_true q351
                        have p352 : 0 ≤ (x3_1 : Int) := of_decide_eq_true (by first | (with_reducible assumption) | assumption)
                        have q352 : x3_1 < (l0.length : Int) := of_decide_eq_true (by first | (with_reducible assumption) | assumption)
                        obtain ⟨ad352, e352, hx352_0, hx352_1⟩ := at_T24 HR0.out x3_1 p352 q352
                        obtain rfl : ad351 = ad352 := (by injection e352)
                        replace p352 := eq_true p352
                        replace q352 := eq_true q352
                        have p353 : 0 ≤ (x3_1 : Int) := of_decide_eq_true (by first | (with_reducible assumption) | assumption)
                        have q353 : x3_1 < (l0.length : Int) := of_decide_eq_true (by first | (with_reducible assumption) | assumption)
                        obtain ⟨ad353, e353, hx353_0, hx353_1⟩ := at_T24 HR0.out x3_1 p353 q353
                        obtain rfl : ad351 = ad353 := (by injection e353)
                        replace p353 := eq_true p353
                        replace q353 := eq_true q353
                        have p354 : 0 ≤ (x3_1 : Int) := of_decide_eq_true (by first | (with_reducible assumption) | assumption)
                        have q354 : x3_1 < (l0.length : Int) := of_decide_eq_true (by first | (with_reducible assumption) | assumption)
                        obtain ⟨ad354, e354, hx354_0, hx354_1⟩ := at_T24 HR0.out x3_1 p354 q354
                        obtain rfl : ad351 = ad354 := (by injection e354)
                        replace p354 := eq_true p354
                        replace q354 := eq_true q354
                        have p355 : 0 ≤ (x3_1 : Int) := of_decide_eq_true (by first | (with_reducible assumption) | assumption)
                        have q355 : x3_1 < (l0.length : Int) := of_decide_eq_true (by first | (with_reducible assumption) | assumption)
                        obtain ⟨ad355, e355, hx355_0, hx355_1⟩ := at_T24 HR0.out x3_1 p355 q355
                        obtain rfl : ad351 = ad355 := (by injection e355)
                        replace p355 := eq_true p355
                        replace q355 := eq_true q355
                        have p356 : 0 ≤ ((ji8) : Int) := of_decide_eq_true (by first | (with_reducible assumption) | assumption)
                        have q356 : (ji8) < (l0.length : Int) := of_decide_eq_true (by first | (with_reducible assumption) | assumption)
                        obtain ⟨ad356, e356, hx356_0, hx356_1⟩ := at_T24 HR0.out (ji8) p356 q356
                        obtain rfl : ad351 = ad356 := (by injection e356)
                        replace p356 := eq_true p356
                        replace q356 := eq_true q356
                        go_wp2
                        repeat (go_quiet (fail); try go_wp2)
                        go_ret
                        exact ⟨by first | rfl | (simp; done) | (simp only [← hji8] <;> (first | rfl | simp)) | (simp [*]; done), by repeat (first | exact Drawn0.refl _ | apply Drawn0.step)⟩
                      · rw [if_neg c11] at H
                        have c11b0 : decide (((rd_T24 l0 x3_1).f0) ≤ ((rd_T24 l0 (ji8)).f1)) = false := decide_eq_false c11
                        clear c11
                        have H' := Aside0.mk H
                        clear H
                        have p351 : 0 ≤ (x3_1 : Int) := of_decide_eq_true (by first | (with_reducible assumption) | assumption)
                        have q351 : x3_1 < (l0.length : Int) := of_decide_eq_true (by first | (with_reducible assumption) | assumption)
                        obtain ⟨ad351, e351, hx351_0, hx351_1⟩ := at_T24 HR0.out x3_1 p351 q351
                        cases e351
                        replace p351 := eq_true p351
                        replace q351 := eq_true q351
                        have p352 : 0 ≤ (x3_1 : Int) := of_decide_eq_true (by first | (with_reducible assumption) | assumption)
                        have q352 : x3_1 < (l0.length : Int) := of_decide_eq_true (by first | (with_reducible assumption) | assumption)
                        obtain ⟨ad352, e352, hx352_0, hx352_1⟩ := at_T24 HR0.out x3_1 p352 q352
                        obtain rfl : ad351 = ad352 := (by injection e352)
                        replace p352 := eq_true p352
                        replace q352 := eq_true q352
                        have p353 : 0 ≤ (x3_1 : Int) := of_decide_eq_true (by first | (with_reducible assumption) | assumption)
                        have q353 : x3_1 < (l0.length : Int) := of_decide_eq_true (by first | (with_reducible assumption) | assumption)
                        obtain ⟨ad353, e353, hx353_0, hx353_1⟩ := at_T24 HR0.out x3_1 p353 q353
                        obtain rfl : ad351 = ad353 := (by injection e353)
                        replace p353 := eq_true p353
                        replace q353 := eq_true q353
                        have p354 : 0 ≤ (x3_1 : Int) := of_decide_eq_true (by first | (with_reducible assumption) | assumption)
                        have q354 : x3_1 < (l0.length : Int) := of_decide_eq_true (by first | (with_reducible assumption) | assumption)
                        obtain ⟨ad354, e354, hx354_0, hx354_1⟩ := at_T24 HR0.out x3_1 p354 q354
                        obtain rfl : ad351 = ad354 := (by injection e354)
                        replace p354 := eq_true p354
                        replace q354 := eq_true q354
                        have p355 : 0 ≤ (x3_1 : Int) := of_decide_eq_true (by first | (with_reducible assumption) | assumption)
                        have q355 : x3_1 < (l0.length : Int) := of_decide_eq_true (by first | (with_reducible assumption) | assumption)
                        obtain ⟨ad355, e355, hx355_0, hx355_1⟩ := at_T24 HR0.out x3_1 p355 q355
                        obtain rfl : ad351 = ad355 := (by injection e355)
                        replace p355 := eq_true p355
                        replace q355 := eq_true q355
                        have p356 : 0 ≤ ((ji8) : Int) := of_decide_eq_true (by first | (with_reducible assumption) | assumption)
                        have q356 : (ji8) < (l0.length : Int) := of_decide_eq_true (by first | (with_reducible assumption) | assumption)
                        obtain ⟨ad356, e356, hx356_0, hx356_1⟩ := at_T24 HR0.out (ji8) p356 q356
                        obtain rfl : ad351 = ad356 := (by injection e356)
                        replace p356 := eq_true p356
                        replace q356 := eq_true q356
                        go_wp2
                        repeat (go_quiet (fail); try go_wp2)
                        go_roundg k1
                        case measure => have := HK1.out; omega
                        case rel => exact ⟨(wrap64 (x3_1 + 1)), (by first | rfl | (simp; done) | (simp [*]; done)), H', ⟨by have := HK1.out; omega⟩, by repeat (first | exact Drawn0.refl _ | apply Drawn0.step)⟩
                    · rw [if_neg c10] at H
                      exact absurd H (by simp)
                  · rw [if_neg c9] at H
                    exact absurd H (by simp)
                · rw [if_neg c7] at H
                  have c7b0 : decide (0 < x3_1) = false := decide_eq_false c7
                  clear c7
                  have H' := Aside0.mk H
                  clear H
                  have p351 : 0 ≤ (x3_1 : Int) := of_decide_eq_true (by first | (with_reducible assumption) | assumption)
                  have q351 : x3_1 < (l0.length : Int) := of_decide_eq_true (by first | (with_reducible assumption) | assumption)
                  obtain ⟨ad351, e351, hx351_0, hx351_1⟩ := at_T24 HR0.out x3_1 p351 q351
                  cases e351
                  replace p351 := eq_true p351
                  replace q351 := eq_true q351
                  have p352 : 0 ≤ (x3_1 : Int) := of_decide_eq_true (by first | (with_reducible assumption) | assumption)
                  have q352 : x3_1 < (l0.length : Int) := of_decide_eq_true (by first | (with_reducible assumption) | assumption)
                  obtain ⟨ad352, e352, hx352_0, hx352_1⟩ := at_T24 HR0.out x3_1 p352 q352
                  obtain rfl : ad351 = ad352 := (by injection e352)
                  replace p352 := eq_true p352
                  replace q352 := eq_true q352
                  have p353 : 0 ≤ (x3_1 : Int) := of_decide_eq_true (by first | (with_reducible assumption) | assumption)
                  have q353 : x3_1 < (l0.length : Int) := of_decide_eq_true (by first | (with_reducible assumption) | assumption)
                  obtain ⟨ad353, e353, hx353_0, hx353_1⟩ := at_T24 HR0.out x3_1 p353 q353
                  obtain rfl : ad351 = ad353 := (by injection e353)
                  replace p353 := eq_true p353
                  replace q353 := eq_true q353
                  have p354 : 0 ≤ (x3_1 : Int) := of_decide_eq_true (by first | (with_reducible assumption) | assumption)
                  have q354 : x3_1 < (l0.length : Int) := of_decide_eq_true (by first | (with_reducible assumption) | assumption)
                  obtain ⟨ad354, e354, hx354_0, hx354_1⟩ := at_T24 HR0.out x3_1 p354 q354
                  obtain rfl : ad351 = ad354 := (by injection e354)
                  replace p354 := eq_true p354
                  replace q354 := eq_true q354
                  go_wp2
                  repeat (go_quiet (fail); try go_wp2)
                  go_roundg k1
                  case measure => have := HK1.out; omega
                  case rel => exact ⟨(wrap64 (x3_1 + 1)), (by first | rfl | (simp; done) | (simp [*]; done)), H', ⟨by have := HK1.out; omega⟩, by repeat (first | exact Drawn0.refl _ | apply Drawn0.step)⟩
        · rw [if_neg c3] at H
          exact absurd H (by simp)
      · rw [if_neg c2] at H
        have c2b0 : decide (x3_1 < (l0.length : Int)) = false := decide_eq_false c2
        clear c2
        obtain rfl := Option.some.inj H
        go_wp2
        repeat (go_quiet (fail); try go_wp2)
        go_ret
        exact ⟨by first | rfl | (simp; done) | (simp [*]; done), by repeat (first | exact Drawn0.refl _ | apply Drawn0.step)⟩

end Go.Proofs.Ytmfckkgebdfhjaa.Q
