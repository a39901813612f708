/- The walk of the statement PmtuBounds where New refuses; all cases. No condition but that the table stands in its variable. -/
import Derived.Test.YtdinkhhaomblcaaDoorGIok
import Derived.Test.YtdinkhhaomblcaaDoorGIlo
import Derived.Test.YtdinkhhaomblcaaDoorGIhi
import Derived.Test.YtdinkhhaomblcaaDoorGIno
namespace Go.Proofs.YtdinkhhaomblcaaDoor.SL
open Go.RowKit Go.Proofs.YtdinkhhaomblcaaDoorW.PrintWords Go.Proofs.YtdinkhhaomblcaaDoorW.PrintLast Go.Proofs.YtdinkhhaomblcaaDoorW.PrintMore
set_option maxHeartbeats 16000000 in
set_option maxRecDepth 100000 in
theorem bounds_no (E A : Int) (a : Ad) (first mtu now : Int) (w : World) (hT : Tab w) (hb : E < 1 ∨ 64 < E ∨ A < 1 ∨ 1099511627776 < A) :
    Calls Tryd.prog 7 (bndA E A a first mtu now) w fun e w' => e = .returned (.bool true) ∧ Below w.heap.size w w' := by
  have HS0 := Lib.hid (St.tab w hT)
  have HB := Lib.hid hb
  clear hT
  go_enter Tryd.func7, Tryd.ntmps7
  by_cases h1 : E ≥ 1
  · have e1 : decide (E ≥ 1) = true := decide_eq_true h1
    by_cases h2 : E ≤ 64
    · have e2 : decide (E ≤ 64) = true := decide_eq_true h2
      by_cases h3 : A ≥ 1
      · have e3 : decide (A ≥ 1) = true := decide_eq_true h3
        have e4 : decide (A ≤ 1099511627776) = false := decide_eq_false (by omega)
        clear hb h1 h2 h3
        go_wp2_with (first
          | (refine gate_ (.box 29 (.tmp 0)) rfl ?_; go_must (refine wpList_box_B rfl 29 (.tmp 0) rfl #[.int .i64 E, .int .i64 A] rfl _ rfl HS0.out ?_; intro w1 hz hs; clear hz; have HS1 := Lib.hid hs; clear hs HS0))
          | (refine gate_ (.box 32 (.tmp 1)) rfl ?_; go_must (refine wpList_box_B rfl 32 (.tmp 1) rfl (aV a) rfl _ rfl HS1.out ?_; intro w2 hz hs; clear hz; have HS2 := Lib.hid hs; clear hs HS1))
          | (go_at_call 9; refine (alive_calls _ (HS2.out.get 0 rfl)).mono ?_; rintro e w3 ⟨rfl, hb1⟩; have HS3 := Lib.hid (HS2.out.below hb1); have q0 := HS3.out.cellB 1 rfl 0 rfl; have q1 := HS3.out.cellB 1 rfl 1 rfl; clear hb1 HS2)
          | (go_at_call 10; refine (c_new_no HS3.out E A HB.out).mono ?_; rintro e w4 ⟨rfl, hs⟩; clear q0 q1; have HS : Hid (St w w4 [obG, obB w.heap.size #[.int .i64 E, .int .i64 A] 29, obB w1.heap.size (aV a) 32]) := Lib.hid hs; have q0 := hs.cellB 1 rfl 0 rfl; have q1 := hs.cellB 1 rfl 1 rfl; clear hs HS3))
        go_ret
        exact ⟨rfl, HS.out.bl⟩
      · have e3 : decide (A ≥ 1) = false := decide_eq_false h3
        clear hb h1 h2 h3
        go_wp2_with (first
          | (refine gate_ (.box 29 (.tmp 0)) rfl ?_; go_must (refine wpList_box_B rfl 29 (.tmp 0) rfl #[.int .i64 E, .int .i64 A] rfl _ rfl HS0.out ?_; intro w1 hz hs; clear hz; have HS1 := Lib.hid hs; clear hs HS0))
          | (refine gate_ (.box 32 (.tmp 1)) rfl ?_; go_must (refine wpList_box_B rfl 32 (.tmp 1) rfl (aV a) rfl _ rfl HS1.out ?_; intro w2 hz hs; clear hz; have HS2 := Lib.hid hs; clear hs HS1))
          | (go_at_call 9; refine (alive_calls _ (HS2.out.get 0 rfl)).mono ?_; rintro e w3 ⟨rfl, hb1⟩; have HS3 := Lib.hid (HS2.out.below hb1); have q0 := HS3.out.cellB 1 rfl 0 rfl; have q1 := HS3.out.cellB 1 rfl 1 rfl; clear hb1 HS2)
          | (go_at_call 10; refine (c_new_no HS3.out E A HB.out).mono ?_; rintro e w4 ⟨rfl, hs⟩; clear q0 q1; have HS : Hid (St w w4 [obG, obB w.heap.size #[.int .i64 E, .int .i64 A] 29, obB w1.heap.size (aV a) 32]) := Lib.hid hs; have q0 := hs.cellB 1 rfl 0 rfl; have q1 := hs.cellB 1 rfl 1 rfl; clear hs HS3))
        go_ret
        exact ⟨rfl, HS.out.bl⟩
    · have e2 : decide (E ≤ 64) = false := decide_eq_false h2
      clear hb h1 h2
      go_wp2_with (first
          | (refine gate_ (.box 29 (.tmp 0)) rfl ?_; go_must (refine wpList_box_B rfl 29 (.tmp 0) rfl #[.int .i64 E, .int .i64 A] rfl _ rfl HS0.out ?_; intro w1 hz hs; clear hz; have HS1 := Lib.hid hs; clear hs HS0))
          | (refine gate_ (.box 32 (.tmp 1)) rfl ?_; go_must (refine wpList_box_B rfl 32 (.tmp 1) rfl (aV a) rfl _ rfl HS1.out ?_; intro w2 hz hs; clear hz; have HS2 := Lib.hid hs; clear hs HS1))
          | (go_at_call 9; refine (alive_calls _ (HS2.out.get 0 rfl)).mono ?_; rintro e w3 ⟨rfl, hb1⟩; have HS3 := Lib.hid (HS2.out.below hb1); have q0 := HS3.out.cellB 1 rfl 0 rfl; have q1 := HS3.out.cellB 1 rfl 1 rfl; clear hb1 HS2)
          | (go_at_call 10; refine (c_new_no HS3.out E A HB.out).mono ?_; rintro e w4 ⟨rfl, hs⟩; clear q0 q1; have HS : Hid (St w w4 [obG, obB w.heap.size #[.int .i64 E, .int .i64 A] 29, obB w1.heap.size (aV a) 32]) := Lib.hid hs; have q0 := hs.cellB 1 rfl 0 rfl; have q1 := hs.cellB 1 rfl 1 rfl; clear hs HS3))
      go_ret
      exact ⟨rfl, HS.out.bl⟩
  · have e1 : decide (E ≥ 1) = false := decide_eq_false h1
    clear hb h1
    go_wp2_with (first
          | (refine gate_ (.box 29 (.tmp 0)) rfl ?_; go_must (refine wpList_box_B rfl 29 (.tmp 0) rfl #[.int .i64 E, .int .i64 A] rfl _ rfl HS0.out ?_; intro w1 hz hs; clear hz; have HS1 := Lib.hid hs; clear hs HS0))
          | (refine gate_ (.box 32 (.tmp 1)) rfl ?_; go_must (refine wpList_box_B rfl 32 (.tmp 1) rfl (aV a) rfl _ rfl HS1.out ?_; intro w2 hz hs; clear hz; have HS2 := Lib.hid hs; clear hs HS1))
          | (go_at_call 9; refine (alive_calls _ (HS2.out.get 0 rfl)).mono ?_; rintro e w3 ⟨rfl, hb1⟩; have HS3 := Lib.hid (HS2.out.below hb1); have q0 := HS3.out.cellB 1 rfl 0 rfl; have q1 := HS3.out.cellB 1 rfl 1 rfl; clear hb1 HS2)
          | (go_at_call 10; refine (c_new_no HS3.out E A HB.out).mono ?_; rintro e w4 ⟨rfl, hs⟩; clear q0 q1; have HS : Hid (St w w4 [obG, obB w.heap.size #[.int .i64 E, .int .i64 A] 29, obB w1.heap.size (aV a) 32]) := Lib.hid hs; have q0 := hs.cellB 1 rfl 0 rfl; have q1 := hs.cellB 1 rfl 1 rfl; clear hs HS3))
    go_ret
    exact ⟨rfl, HS.out.bl⟩
theorem bounds_all (E A : Int) (a : Ad) (first mtu now : Int) (w : World) (hT : Tab w) (hok : BOk a) :
    Calls Tryd.prog 7 (bndA E A a first mtu now) w fun e w' => e = .returned (.bool true) ∧ Below w.heap.size w w' := by
  by_cases hb : E < 1 ∨ 64 < E ∨ A < 1 ∨ 1099511627776 < A
  · exact bounds_no E A a first mtu now w hT hb
  by_cases h6 : a.v = 6
  · by_cases hfl : floorA a ≤ first
    · by_cases hmx : first ≤ 65535
      · exact bounds_six_ok E A a first mtu now w hT hok hb h6 hfl hmx
      · exact bounds_six_hi E A a first mtu now w hT hok hb h6 hfl hmx
    · exact bounds_six_lo E A a first mtu now w hT hok hb h6 hfl
  by_cases h4 : a.v = 4
  · cases hz : zq a 16 with
    | false => exact bounds_four_no E A a first mtu now w hT hok hb h4 hz
    | true =>
      by_cases hfl : floorA a ≤ first
      · by_cases hmx : first ≤ 65535
        · exact bounds_four_ok E A a first mtu now w hT hok hb h4 hz hfl hmx
        · exact bounds_four_hi E A a first mtu now w hT hok hb h4 hz hfl hmx
      · exact bounds_four_lo E A a first mtu now w hT hok hb h4 hz hfl
  exact bounds_oth E A a first mtu now w hT hok hb h6 h4
end Go.Proofs.YtdinkhhaomblcaaDoor.SL
