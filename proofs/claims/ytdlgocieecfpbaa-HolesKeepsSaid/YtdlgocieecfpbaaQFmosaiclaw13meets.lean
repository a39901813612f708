/- What functions of the program compute, and that they do: written by this session's program mk.py, over the kit's print. No condition. -/
import Derived.Test.YtdlgocieecfpbaaQx0
namespace Go.Proofs.Ytdlgocieecfpbaa.Q
open Go.RowKit Go.Proofs.YtdlgocieecfpbaaW.PrintWords Go.Proofs.YtdlgocieecfpbaaW.PrintLast Go.Proofs.YtdlgocieecfpbaaW.PrintMore
attribute [local go_sem] max2_int min2_int max_two min_two max_three min_three max_four min_four   -- for this text's walks alone
set_option linter.unusedVariables false
set_option linter.unusedSimpArgs false

/-! ### mosaiclaw13_meets: function 22 -/
mutual
def mosaiclaw13_meets.l0 : Nat → List (S50) → List (S50) → Int → Option (Bool)
  | 0, _, _, _ => none
  | k + 1, x0, x1, x5 => if x5 < (x0.length : Int) then (mosaiclaw13_meets.l1 k x0 x1 x5 0) else (some false)
def mosaiclaw13_meets.l1 : Nat → List (S50) → List (S50) → Int → Int → Option (Bool)
  | 0, _, _, _, _ => none
  | k + 1, x0, x1, x5, x6 => if x6 < (x1.length : Int) then (if 0 ≤ x5 then (if x5 < (x0.length : Int) then (if 0 ≤ x6 then (if ((rd_T50 x0 x5).f0) < ((rd_T50 x1 x6).f1) then (if ((rd_T50 x1 x6).f0) < ((rd_T50 x0 x5).f1) then (some true) else (mosaiclaw13_meets.l1 k x0 x1 x5 (wrap64 (x6 + 1)))) else (mosaiclaw13_meets.l1 k x0 x1 x5 (wrap64 (x6 + 1)))) else (none)) else (none)) else (none)) else (mosaiclaw13_meets.l0 k x0 x1 (wrap64 (x5 + 1)))
end
def mosaiclaw13_meets.f (k : Nat) (l0 : List (S50)) (l1 : List (S50)) : Option (Bool) := mosaiclaw13_meets.l0 k l0 l1 0
theorem mosaiclaw13_meets.mono_l : ∀ k, (∀ y0 y1 y2, LeO (mosaiclaw13_meets.l0 k y0 y1 y2) (mosaiclaw13_meets.l0 (k + 1) y0 y1 y2)) ∧ (∀ y0 y1 y2 y3, LeO (mosaiclaw13_meets.l1 k y0 y1 y2 y3) (mosaiclaw13_meets.l1 (k + 1) y0 y1 y2 y3))
  | 0 => ⟨fun _ _ _ r h => by simp [mosaiclaw13_meets.l0] at h, fun _ _ _ _ r h => by simp [mosaiclaw13_meets.l1] at h⟩
  | k + 1 => by
    obtain ⟨ih0, ih1⟩ := mosaiclaw13_meets.mono_l k
    refine ⟨?_, ?_⟩
    · intro y0 y1 y2
      unfold mosaiclaw13_meets.l0
      repeat' first
      | (with_reducible exact ih0 _ _ _)
      | (with_reducible exact ih1 _ _ _ _)
      | (with_reducible exact LeO.refl _)
      | (with_reducible exact LeO.none _)
      | (with_reducible refine LeO.ite ?_ ?_)
      | (with_reducible refine LeO.bind ?_ (fun _ => ?_))
      | exact ih0 _ _ _
      | exact ih1 _ _ _ _
      | exact LeO.none _
      | refine LeO.ite ?_ ?_
      | refine LeO.bind ?_ (fun _ => ?_)
    · intro y0 y1 y2 y3
      unfold mosaiclaw13_meets.l1
      repeat' first
      | (with_reducible exact ih0 _ _ _)
      | (with_reducible exact ih1 _ _ _ _)
      | (with_reducible exact LeO.refl _)
      | (with_reducible exact LeO.none _)
      | (with_reducible refine LeO.ite ?_ ?_)
      | (with_reducible refine LeO.bind ?_ (fun _ => ?_))
      | exact ih0 _ _ _
      | exact ih1 _ _ _ _
      | exact LeO.none _
      | refine LeO.ite ?_ ?_
      | refine LeO.bind ?_ (fun _ => ?_)
theorem mosaiclaw13_meets.mono : ∀ a0 a1 k, LeO (mosaiclaw13_meets.f k a0 a1) (mosaiclaw13_meets.f (k + 1) a0 a1) := by
  intro a0 a1 k
  obtain ⟨ih0, ih1⟩ := mosaiclaw13_meets.mono_l k
  unfold mosaiclaw13_meets.f
  repeat' first
      | (with_reducible exact ih0 _ _ _)
      | (with_reducible exact ih1 _ _ _ _)
      | (with_reducible exact LeO.refl _)
      | (with_reducible exact LeO.none _)
      | (with_reducible refine LeO.ite ?_ ?_)
      | (with_reducible refine LeO.bind ?_ (fun _ => ?_))
      | exact ih0 _ _ _
      | exact ih1 _ _ _ _
      | exact LeO.none _
      | refine LeO.ite ?_ ?_
      | refine LeO.bind ?_ (fun _ => ?_)
set_option maxHeartbeats 8000000 in
set_option maxRecDepth 100000 in
theorem mosaiclaw13_meets.calls (k : Nat) (A0 : Option Addr) (c0 : Nat) (l0 : List (S50)) (A1 : Option Addr) (c1 : Nat) (l1 : List (S50)) (r : Bool) (w : World) (hr0 : Kd.C k50 w A0 l0.length l0) (hc0 : l0.length ≤ c0) (hr1 : Kd.C k50 w A1 l1.length l1) (hc1 : l1.length ≤ c1) (h : mosaiclaw13_meets.f k l0 l1 = some r) :
    Calls Try.prog 22 #[.slice A0 l0.length c0, .slice A1 l1.length c1] w fun e w' => e = .returned (.bool r) ∧ Drawn0 w w' := by
  have HR0 := Aside0.mk hr0
  have HC0 := Aside0.mk hc0
  clear hr0 hc0
  have HR1 := Aside0.mk hr1
  have HC1 := Aside0.mk hc1
  clear hr1 hc1
  have H : (mosaiclaw13_meets.l0 k l0 l1 0) = some r := h
  clear h
  have H' := Aside0.mk H
  clear H
  go_enter Try.func22, Try.ntmps22
  go_wp2
  repeat (go_quiet (fail); try go_wp2)
  go_loopg [5] k (fun kq v5 w' => ∃ (x5_1 : Int), v5 = .int .i64 x5_1 ∧ Aside0 (mosaiclaw13_meets.l0 kq l0 l1 x5_1 = some r) ∧ Aside0 (kq ≤ k) ∧ Drawn0 w w')
  case atStart => exact ⟨(0), (by first | rfl | (simp; done) | (simp [*]; done)), H', ⟨Nat.le_refl _⟩, by repeat (first | exact Drawn0.refl _ | apply Drawn0.step)⟩
  case round =>
    clear H'
    try clear c1
    try clear c2
    try clear p2
    obtain ⟨x5_1, rfl, HA, HK1, ⟨m1, rfl⟩⟩ := hrel
    cases gk with
    | zero => exact absurd HA.out (by simp [mosaiclaw13_meets.l0])
    | succ k1 =>
      have H := HA.out
      clear HA
      simp only [mosaiclaw13_meets.l0] at H
      by_cases c3 : x5_1 < (l0.length : Int)
      · rw [if_pos c3] at H
        have c3b0 : decide (x5_1 < (l0.length : Int)) = true := decide_eq_true c3
        clear c3
        have H' := Aside0.mk H
        clear H
        go_wp2
        repeat (go_quiet (fail); try go_wp2)
        go_loopg [6] k1 (fun kq v6 w' => ∃ (x6_2 : Int), v6 = .int .i64 x6_2 ∧ Aside0 (mosaiclaw13_meets.l1 kq l0 l1 x5_1 x6_2 = some r) ∧ Aside0 (kq ≤ k1) ∧ Drawn0 w w')
        case atStart => exact ⟨(0), (by first | rfl | (simp; done) | (simp [*]; done)), H', ⟨Nat.le_refl _⟩, by repeat (first | exact Drawn0.refl _ | apply Drawn0.step)⟩
        case round =>
          clear H'
          try clear c1
          try clear c2
          try clear p2
          try clear c3
          try clear c3b0
          try clear p2
          obtain ⟨x6_2, rfl, HA, HK2, ⟨m2, rfl⟩⟩ := hrel
          cases gk with
          | zero => exact absurd HA.out (by simp [mosaiclaw13_meets.l1])
          | succ k2 =>
            have H := HA.out
            clear HA
            simp only [mosaiclaw13_meets.l1] at H
            by_cases c4 : x6_2 < (l1.length : Int)
            · rw [if_pos c4] at H
              have c4b0 : decide (x6_2 < (l1.length : Int)) = true := decide_eq_true c4
              clear c4
              by_cases c5 : 0 ≤ x5_1
              · rw [if_pos c5] at H
                have c5b0 : decide (0 ≤ x5_1) = true := decide_eq_true c5
                clear c5
                by_cases c6 : x5_1 < (l0.length : Int)
                · rw [if_pos c6] at H
                  have c6b0 : decide (x5_1 < (l0.length : Int)) = true := decide_eq_true c6
                  clear c6
                  by_cases c7 : 0 ≤ x6_2
                  · rw [if_pos c7] at H
                    have c7b0 : decide (0 ≤ x6_2) = true := decide_eq_true c7
                    clear c7
                    by_cases c8 : ((rd_T50 l0 x5_1).f0) < ((rd_T50 l1 x6_2).f1)
                    · rw [if_pos c8] at H
                      have c8b0 : decide (((rd_T50 l0 x5_1).f0) < ((rd_T50 l1 x6_2).f1)) = true := decide_eq_true c8
                      clear c8
                      by_cases c9 : ((rd_T50 l1 x6_2).f0) < ((rd_T50 l0 x5_1).f1)
                      · rw [if_pos c9] at H
                        have c9b0 : decide (((rd_T50 l1 x6_2).f0) < ((rd_T50 l0 x5_1).f1)) = true := decide_eq_true c9
                        clear c9
                        obtain rfl := Option.some.inj H
                        have p171 : 0 ≤ (x5_1 : Int) := of_decide_eq_true (by first | (with_reducible assumption) | assumption)
                        have q171 : x5_1 < (l0.length : Int) := of_decide_eq_true (by first | (with_reducible assumption) | assumption)
                        obtain ⟨ad171, e171, hx171_0, hx171_1⟩ := at_T50 HR0.out x5_1 p171 q171
                        cases e171
                        replace p171 := eq_true p171
                        replace q171 := eq_true q171
                        have p172 : 0 ≤ (x6_2 : Int) := of_decide_eq_true (by first | (with_reducible assumption) | assumption)
                        have q172 : x6_2 < (l1.length : Int) := of_decide_eq_true (by first | (with_reducible assumption) | assumption)
                        obtain ⟨ad172, e172, hx172_0, hx172_1⟩ := at_T50 HR1.out x6_2 p172 q172
                        cases e172
                        replace p172 := eq_true p172
                        replace q172 := eq_true q172
                        have p173 : 0 ≤ (x6_2 : Int) := of_decide_eq_true (by first | (with_reducible assumption) | assumption)
                        have q173 : x6_2 < (l1.length : Int) := of_decide_eq_true (by first | (with_reducible assumption) | assumption)
                        obtain ⟨ad173, e173, hx173_0, hx173_1⟩ := at_T50 HR1.out x6_2 p173 q173
                        obtain rfl : ad172 = ad173 := (by injection e173)
                        replace p173 := eq_true p173
                        replace q173 := eq_true q173
                        have p174 : 0 ≤ (x5_1 : Int) := of_decide_eq_true (by first | (with_reducible assumption) | assumption)
                        have q174 : x5_1 < (l0.length : Int) := of_decide_eq_true (by first | (with_reducible assumption) | assumption)
                        obtain ⟨ad174, e174, hx174_0, hx174_1⟩ := at_T50 HR0.out x5_1 p174 q174
                        obtain rfl : ad171 = ad174 := (by injection e174)
                        replace p174 := eq_true p174
                        replace q174 := eq_true q174
                        go_wp2
                        repeat (go_quiet (fail); try go_wp2)
                        go_ret
                        exact ⟨by first | rfl | (simp; done) | (simp [*]; done), by repeat (first | exact Drawn0.refl _ | apply Drawn0.step)⟩
                      · rw [if_neg c9] at H
                        have c9b0 : decide (((rd_T50 l1 x6_2).f0) < ((rd_T50 l0 x5_1).f1)) = false := decide_eq_false c9
                        clear c9
                        have H' := Aside0.mk H
                        clear H
                        have p171 : 0 ≤ (x5_1 : Int) := of_decide_eq_true (by first | (with_reducible assumption) | assumption)
                        have q171 : x5_1 < (l0.length : Int) := of_decide_eq_true (by first | (with_reducible assumption) | assumption)
                        obtain ⟨ad171, e171, hx171_0, hx171_1⟩ := at_T50 HR0.out x5_1 p171 q171
                        cases e171
                        replace p171 := eq_true p171
                        replace q171 := eq_true q171
                        have p172 : 0 ≤ (x6_2 : Int) := of_decide_eq_true (by first | (with_reducible assumption) | assumption)
                        have q172 : x6_2 < (l1.length : Int) := of_decide_eq_true (by first | (with_reducible assumption) | assumption)
                        obtain ⟨ad172, e172, hx172_0, hx172_1⟩ := at_T50 HR1.out x6_2 p172 q172
                        cases e172
                        replace p172 := eq_true p172
                        replace q172 := eq_true q172
                        have p173 : 0 ≤ (x6_2 : Int) := of_decide_eq_true (by first | (with_reducible assumption) | assumption)
                        have q173 : x6_2 < (l1.length : Int) := of_decide_eq_true (by first | (with_reducible assumption) | assumption)
                        obtain ⟨ad173, e173, hx173_0, hx173_1⟩ := at_T50 HR1.out x6_2 p173 q173
                        obtain rfl : ad172 = ad173 := (by injection e173)
                        replace p173 := eq_true p173
                        replace q173 := eq_true q173
                        have p174 : 0 ≤ (x5_1 : Int) := of_decide_eq_true (by first | (with_reducible assumption) | assumption)
                        have q174 : x5_1 < (l0.length : Int) := of_decide_eq_true (by first | (with_reducible assumption) | assumption)
                        obtain ⟨ad174, e174, hx174_0, hx174_1⟩ := at_T50 HR0.out x5_1 p174 q174
                        obtain rfl : ad171 = ad174 := (by injection e174)
                        replace p174 := eq_true p174
                        replace q174 := eq_true q174
                        go_wp2
                        repeat (go_quiet (fail); try go_wp2)
                        go_roundg k2
                        case measure => have := HK1.out; have := HK2.out; omega
                        case rel => exact ⟨(wrap64 (x6_2 + 1)), (by first | rfl | (simp; done) | (simp [*]; done)), H', ⟨by have := HK1.out; have := HK2.out; omega⟩, by repeat (first | exact Drawn0.refl _ | apply Drawn0.step)⟩
                    · rw [if_neg c8] at H
                      have c8b0 : decide (((rd_T50 l0 x5_1).f0) < ((rd_T50 l1 x6_2).f1)) = false := decide_eq_false c8
                      clear c8
                      have H' := Aside0.mk H
                      clear H
                      have p171 : 0 ≤ (x5_1 : Int) := of_decide_eq_true (by first | (with_reducible assumption) | assumption)
                      have q171 : x5_1 < (l0.length : Int) := of_decide_eq_true (by first | (with_reducible assumption) | assumption)
                      obtain ⟨ad171, e171, hx171_0, hx171_1⟩ := at_T50 HR0.out x5_1 p171 q171
                      cases e171
                      replace p171 := eq_true p171
                      replace q171 := eq_true q171
                      have p172 : 0 ≤ (x6_2 : Int) := of_decide_eq_true (by first | (with_reducible assumption) | assumption)
                      have q172 : x6_2 < (l1.length : Int) := of_decide_eq_true (by first | (with_reducible assumption) | assumption)
                      obtain ⟨ad172, e172, hx172_0, hx172_1⟩ := at_T50 HR1.out x6_2 p172 q172
                      cases e172
                      replace p172 := eq_true p172
                      replace q172 := eq_true q172
                      go_wp2
                      repeat (go_quiet (fail); try go_wp2)
                      go_roundg k2
                      case measure => have := HK1.out; have := HK2.out; omega
                      case rel => exact ⟨(wrap64 (x6_2 + 1)), (by first | rfl | (simp; done) | (simp [*]; done)), H', ⟨by have := HK1.out; have := HK2.out; omega⟩, by repeat (first | exact Drawn0.refl _ | apply Drawn0.step)⟩
                  · rw [if_neg c7] at H
                    exact absurd H (by simp)
                · rw [if_neg c6] at H
                  exact absurd H (by simp)
              · rw [if_neg c5] at H
                exact absurd H (by simp)
            · rw [if_neg c4] at H
              have c4b0 : decide (x6_2 < (l1.length : Int)) = false := decide_eq_false c4
              clear c4
              have H' := Aside0.mk H
              clear H
              go_wp2
              repeat (go_quiet (fail); try go_wp2)
              go_roundg k2
              case measure => have := HK1.out; have := HK2.out; omega
              case rel => exact ⟨(wrap64 (x5_1 + 1)), (by first | rfl | (simp; done) | (simp [*]; done)), H', ⟨by have := HK1.out; have := HK2.out; omega⟩, by repeat (first | exact Drawn0.refl _ | apply Drawn0.step)⟩
      · rw [if_neg c3] at H
        have c3b0 : decide (x5_1 < (l0.length : Int)) = false := decide_eq_false c3
        clear c3
        obtain rfl := Option.some.inj H
        go_wp2
        repeat (go_quiet (fail); try go_wp2)
        go_ret
        exact ⟨by first | rfl | (simp; done) | (simp [*]; done), by repeat (first | exact Drawn0.refl _ | apply Drawn0.step)⟩

end Go.Proofs.Ytdlgocieecfpbaa.Q
