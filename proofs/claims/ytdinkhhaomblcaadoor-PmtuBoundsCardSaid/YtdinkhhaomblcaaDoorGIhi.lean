/- The walk of the statement PmtuBounds, an address of version 4. No condition but that the table stands in its variable. -/
import Derived.Test.YtdinkhhaomblcaaDoorGI
namespace Go.Proofs.YtdinkhhaomblcaaDoor.SL
open Go.RowKit Go.Proofs.YtdinkhhaomblcaaDoorW.PrintWords Go.Proofs.YtdinkhhaomblcaaDoorW.PrintLast Go.Proofs.YtdinkhhaomblcaaDoorW.PrintMore
set_option maxHeartbeats 16000000 in
set_option maxRecDepth 100000 in
theorem bounds_four_hi (E A : Int) (a : Ad) (first mtu now : Int) (w : World) (hT : Tab w) (hok : BOk a) (hb : ¬ (E < 1 ∨ 64 < E ∨ A < 1 ∨ 1099511627776 < A)) (h4 : a.v = 4) (hzq : zq a 16 = true) (hfl : floorA a ≤ first) (hmx : ¬ first ≤ 65535) :
    Calls Tryd.prog 7 (bndA E A a first mtu now) w fun e w' => e = .returned (.bool true) ∧ Below w.heap.size w w' := by
  have HS0 := Lib.hid (St.tab w hT)
  have e1 : decide (E ≥ 1) = true := decide_eq_true (by omega)
  have e2 : decide (E ≤ 64) = true := decide_eq_true (by omega)
  have e3 : decide (A ≥ 1) = true := decide_eq_true (by omega)
  have e4 : decide (A ≤ 1099511627776) = true := decide_eq_true (by omega)
  clear hT
  have b6 : (a.v == 6) = false := by simp [h4]
  have b4 : (a.v == 4) = true := by simpa using h4
  have hv : validA a = zq a 16 := zq_end h4
  rw [hzq] at hv
  have HZQ := Lib.hid hzq
  clear h4 hzq
  have hd2 : decide (first ≥ floorA a) = true := decide_eq_true hfl
  have hd3 : decide (first ≤ 65535) = false := decide_eq_false hmx
  have HFT : Hid (getS [] a first = (0, 1)) := Lib.hid (if_pos (.inr (.inr (by omega))))
  clear hv hfl hmx
  by_cases hck : 0 ≤ now ∧ now ≤ 1099511627776
  · have k1 : decide (now ≥ 0) = true := decide_eq_true hck.1
    have k2 : decide (now ≤ 1099511627776) = true := decide_eq_true hck.2
    by_cases hn1 : 1 ≤ now
    · have hd1 : decide (now ≥ 1) = true := decide_eq_true hn1
      obtain ⟨fl, c1, hr, hbc⟩ : ∃ (fl : Bool) (c1 : Ca), hearS ⟨E, A, [], 0, 0⟩ a first (meantS a mtu 0).1 (meantS a mtu 0).2 now = (false, 1, c1) ∧ BndC A now c1 := by
        have h1 := bnd_hear hb hok first mtu 0 now
        have h2 := bnd_err (E := E) (A := A) (a := a) (first := first) (n := (meantS a mtu 0).1) (is := (meantS a mtu 0).2) (now := now)
        have h3 := bnd_fell (E := E) (A := A) (a := a) (first := first) (n := (meantS a mtu 0).1) (is := (meantS a mtu 0).2) (now := now)
        rw [HFT.out] at h2
        generalize hearS ⟨E, A, [], 0, 0⟩ a first (meantS a mtu 0).1 (meantS a mtu 0).2 now = R at h1 h2 h3 ⊢
        obtain ⟨f, e, c1⟩ := R
        rw [if_neg (by exact fun h => absurd h.1 (by decide))] at h2
        obtain rfl : e = 1 := h2
        obtain rfl : f = false := h3 (show (1 : Int) ≠ 0 by decide)
        exact ⟨false, c1, rfl, h1⟩
      obtain ⟨c2, hc2, htl, ho2, hab2, hm2⟩ : ∃ c2 : Ca, tickS c1 above now = (0, c2) ∧ tickL c1 now = [] ∧ OkC c2 ∧ AllB c2 ∧ c2.now = now := by
        obtain ⟨h1, h2⟩ := hbc.tick1 hck
        have h3 := tick_ok hbc.ok (above := above) above_68 (now := now)
        rw [h1] at h3
        refine ⟨_, h1, h2, h3, fun x hx => ?_, rfl⟩
        obtain ⟨u, hu, hr⟩ := List.mem_filterMap.1 hx
        rw [(rise_key hr).1]
        exact hbc.ab u hu
      obtain ⟨tq, htq, hlt⟩ : ∃ tq : Int, IntKind.i64.wrap (now - 1) = tq ∧ tq < now := ⟨now - 1, by rw [IntKind.wrap_i64]; omega, by omega⟩
      obtain ⟨c3, l3, hc3, hl3⟩ : ∃ (c3 : Ca) (l3 : List Ad), tickS c2 above tq = (1, c3) ∧ tickL c2 tq = l3 := ⟨c2, _, if_pos (decide_eq_false (by rw [hm2]; omega)), rfl⟩
      have htq2 : wrap64 (now - 1) = tq := by rw [← htq, IntKind.wrap_i64]; simp only [wrap64]
      have HRR := Lib.hid hr
      have HBC := Lib.hid hbc
      have HC2 := Lib.hid hc2
      have HTL := Lib.hid htl
      have HO2 := Lib.hid (And.intro ho2 hab2)
      have HC3 := Lib.hid hc3
      have HL3 := Lib.hid hl3
      clear hr hbc hc2 htl ho2 hab2 hc3 hl3 hok hm2 hlt
      clear hn1 hck
      go_enter Tryd.func7, Tryd.ntmps7
      go_wp2_with (first
        | (refine gate_ (.box 29 (.tmp 0)) rfl ?_; go_must (refine wpList_box_B rfl 29 (.tmp 0) rfl #[.int .i64 E, .int .i64 A] rfl _ rfl HS0.out ?_; intro w1 hz hs; clear hz; have HS1 := Lib.hid hs; clear hs HS0))
        | (refine gate_ (.box 32 (.tmp 1)) rfl ?_; go_must (refine wpList_box_B rfl 32 (.tmp 1) rfl (aV a) rfl _ rfl HS1.out ?_; intro w2 hz hs; clear hz; have HS2 := Lib.hid hs; clear hs HS1))
        | (go_at_call 9; refine (alive_calls _ (HS2.out.get 0 rfl)).mono ?_; rintro e w3 ⟨rfl, hb1⟩; have HS3 := Lib.hid (HS2.out.below hb1); have q0 := HS3.out.cellB 1 rfl 0 rfl; have q1 := HS3.out.cellB 1 rfl 1 rfl; clear hb1 HS2)
        | (go_at_call 10; refine (c_new_yes HS3.out E A hb).mono ?_; rintro e w4 ⟨p, b, rfl, hs⟩; clear q0 q1; have HS : Hid (St w w4 [obG, obB w.heap.size #[.int .i64 E, .int .i64 A] 29, obB w1.heap.size (aV a) 32, obC p b ⟨E, A, [], 0, 0⟩]) := Lib.hid hs; have q0 := hs.cellB 1 rfl 0 rfl; have q1 := hs.cellB 1 rfl 1 rfl; have cV := cell_V (show w4.heap[w1.heap.size]? = some (.cells (aV a) 32 (0, 0)) from hs.get 2 rfl); clear hs HS3))
      have HSL : Hid (St w w4 [obG, obB w.heap.size #[.int .i64 E, .int .i64 A] 29, obB w1.heap.size (aV a) 32, obC p b ⟨E, A, [], 0, 0⟩]) := HS
      clear q0 q1 cV HS
      go_loopw [15, 16] (fun s15 s16 wr => ∃ k : Nat, k ≤ 16 ∧ 4 ≤ k ∧ s16 = .int .i64 k ∧ s15 = .bool (zq a k) ∧ Hid (St w wr [obG, obB w.heap.size #[.int .i64 E, .int .i64 A] 29, obB w1.heap.size (aV a) 32, obC p b ⟨E, A, [], 0, 0⟩])) (fun _ i _ => 16 - (intOf i).toNat)
      case atStart => exact ⟨4, by decide, by decide, rfl, rfl, HSL⟩
      case round =>
        obtain ⟨k, hk16, hk4, rfl, rfl, HS⟩ := hrel
        clear HSL
        by_cases hlt : k < 16
        · have hltz : (k : Int) < 16 := by omega
          have hk0 : (0 : Int) ≤ (k : Int) := by omega
          have cY := cell_Y (show wr.heap[w1.heap.size]? = some (.cells (aV a) 32 (0, 0)) from HS.out.get 2 rfl) k hlt
          have cY2 : wr.cell? ⟨w1.heap.size, 1 + k, none⟩ = some (.int .u8 (a.b.getD k 0)) := by rw [Nat.add_comm]; exact cY
          have hst := zq_step a hk4 hlt
          generalize zq a k = z at hst
          generalize a.b.getD k 0 = y at cY cY2 hst
          have HST := Lib.hid hst
          clear hst
          cases z with
          | true =>
            go_wp2_with fail
            go_roundw
            case rel => exact ⟨k + 1, by omega, by omega, by go_num, by rw [HST.out]; simp, HS⟩
            case measure => simp [intOf]; omega
          | false =>
            go_wp2_with fail
            go_roundw
            case rel => exact ⟨k + 1, by omega, by omega, by go_num, by rw [HST.out]; simp, HS⟩
            case measure => simp [intOf]; omega
        · have hltz : ¬ (k : Int) < 16 := by omega
          obtain rfl : k = 16 := by omega
          rw [HZQ.out]
          clear hlt hk16 hk4
          have q0 := HS.out.cellB 1 rfl 0 rfl
          have q1 := HS.out.cellB 1 rfl 1 rfl
          have cV := cell_V (show wr.heap[w1.heap.size]? = some (.cells (aV a) 32 (0, 0)) from HS.out.get 2 rfl)
          go_wp2_with (first
            | (refine gate_ (.load 32 (.tmp 6)) rfl ?_; first | (refine ld_A (.tmp 6) rfl rfl (range_A (HS.out.get 2 rfl)) rfl ?_) | (refine wpList_guarded (by rfl) ?_; refine ld_A (.tmp 6) rfl rfl (range_A (HS.out.get 2 rfl)) rfl ?_))
            | (go_at_call 25; refine (floor2_calls a _).mono ?_; rintro e w3 ⟨rfl, hb1⟩; replace HS := Lib.hid (HS.out.below hb1); clear hb1)
            | (go_at_call 26; refine (c_getK HS.out 3 rfl a first HFT.out).mono ?_; rintro e w3 ⟨rfl, hs⟩; replace HS := Lib.hid hs; clear hs)
            | (go_at_call 27; refine (c_hearK HS.out 3 rfl 0 rfl (okNew hb) (show (0 : Int) < 4000000000000000000 by decide) a first mtu 0 now HRR.out).mono ?_; rintro e w3 ⟨rfl, hs⟩; have HSA : Hid (St w w3 [obG, obB w.heap.size #[.int .i64 E, .int .i64 A] 29, obB w1.heap.size (aV a) 32, obC p b c1]) := Lib.hid hs; clear hs HS)
            | (go_at_call 19; refine (c_tickK HSA.out 3 rfl 0 rfl HBC.out.ok HBC.out.ab now HC2.out HTL.out).mono ?_; rintro e w4 ⟨A2, n2, rfl, hs⟩; have HSB : Hid (St w w4 [obG, obB w.heap.size #[.int .i64 E, .int .i64 A] 29, obB w1.heap.size (aV a) 32, obC p b c2, obAd (.slice A2 0 n2) []]) := Lib.hid hs; have qA := hs.cellB 1 rfl 1 rfl; clear hs HSA)
            | (go_at_call 19; refine (c_tickK HSB.out 3 rfl 0 rfl HO2.out.1 HO2.out.2 tq HC3.out HL3.out).mono ?_; rintro e w5 ⟨A3, n3, rfl, hs⟩; have HSD := Lib.hid hs; clear hs HSB))
          go_ret
          exact ⟨rfl, HSD.out.bl⟩
    · have hd1 : decide (now ≥ 1) = false := decide_eq_false hn1
      obtain ⟨fl, c1, hr, hbc⟩ : ∃ (fl : Bool) (c1 : Ca), hearS ⟨E, A, [], 0, 0⟩ a first (meantS a mtu 0).1 (meantS a mtu 0).2 now = (false, 1, c1) ∧ BndC A now c1 := by
        have h1 := bnd_hear hb hok first mtu 0 now
        have h2 := bnd_err (E := E) (A := A) (a := a) (first := first) (n := (meantS a mtu 0).1) (is := (meantS a mtu 0).2) (now := now)
        have h3 := bnd_fell (E := E) (A := A) (a := a) (first := first) (n := (meantS a mtu 0).1) (is := (meantS a mtu 0).2) (now := now)
        rw [HFT.out] at h2
        generalize hearS ⟨E, A, [], 0, 0⟩ a first (meantS a mtu 0).1 (meantS a mtu 0).2 now = R at h1 h2 h3 ⊢
        obtain ⟨f, e, c1⟩ := R
        rw [if_neg (by exact fun h => absurd h.1 (by decide))] at h2
        obtain rfl : e = 1 := h2
        obtain rfl : f = false := h3 (show (1 : Int) ≠ 0 by decide)
        exact ⟨false, c1, rfl, h1⟩
      obtain ⟨c2, hc2, htl, ho2, hab2, hm2⟩ : ∃ c2 : Ca, tickS c1 above now = (0, c2) ∧ tickL c1 now = [] ∧ OkC c2 ∧ AllB c2 ∧ c2.now = now := by
        obtain ⟨h1, h2⟩ := hbc.tick1 hck
        have h3 := tick_ok hbc.ok (above := above) above_68 (now := now)
        rw [h1] at h3
        refine ⟨_, h1, h2, h3, fun x hx => ?_, rfl⟩
        obtain ⟨u, hu, hr⟩ := List.mem_filterMap.1 hx
        rw [(rise_key hr).1]
        exact hbc.ab u hu
      obtain ⟨tq, htq⟩ : ∃ tq : Int, IntKind.i64.wrap (now - 1) = tq := ⟨_, rfl⟩
      obtain ⟨e3, c3, l3, hc3, hl3⟩ : ∃ (e3 : Int) (c3 : Ca) (l3 : List Ad), tickS c2 above tq = (e3, c3) ∧ tickL c2 tq = l3 := ⟨_, _, _, rfl, rfl⟩
      have htq2 : wrap64 (now - 1) = tq := by rw [← htq, IntKind.wrap_i64]; simp only [wrap64]
      have HRR := Lib.hid hr
      have HBC := Lib.hid hbc
      have HC2 := Lib.hid hc2
      have HTL := Lib.hid htl
      have HO2 := Lib.hid (And.intro ho2 hab2)
      have HC3 := Lib.hid hc3
      have HL3 := Lib.hid hl3
      clear hr hbc hc2 htl ho2 hab2 hc3 hl3 hok hm2
      clear hn1 hck
      go_enter Tryd.func7, Tryd.ntmps7
      go_wp2_with (first
        | (refine gate_ (.box 29 (.tmp 0)) rfl ?_; go_must (refine wpList_box_B rfl 29 (.tmp 0) rfl #[.int .i64 E, .int .i64 A] rfl _ rfl HS0.out ?_; intro w1 hz hs; clear hz; have HS1 := Lib.hid hs; clear hs HS0))
        | (refine gate_ (.box 32 (.tmp 1)) rfl ?_; go_must (refine wpList_box_B rfl 32 (.tmp 1) rfl (aV a) rfl _ rfl HS1.out ?_; intro w2 hz hs; clear hz; have HS2 := Lib.hid hs; clear hs HS1))
        | (go_at_call 9; refine (alive_calls _ (HS2.out.get 0 rfl)).mono ?_; rintro e w3 ⟨rfl, hb1⟩; have HS3 := Lib.hid (HS2.out.below hb1); have q0 := HS3.out.cellB 1 rfl 0 rfl; have q1 := HS3.out.cellB 1 rfl 1 rfl; clear hb1 HS2)
        | (go_at_call 10; refine (c_new_yes HS3.out E A hb).mono ?_; rintro e w4 ⟨p, b, rfl, hs⟩; clear q0 q1; have HS : Hid (St w w4 [obG, obB w.heap.size #[.int .i64 E, .int .i64 A] 29, obB w1.heap.size (aV a) 32, obC p b ⟨E, A, [], 0, 0⟩]) := Lib.hid hs; have q0 := hs.cellB 1 rfl 0 rfl; have q1 := hs.cellB 1 rfl 1 rfl; have cV := cell_V (show w4.heap[w1.heap.size]? = some (.cells (aV a) 32 (0, 0)) from hs.get 2 rfl); clear hs HS3))
      have HSL : Hid (St w w4 [obG, obB w.heap.size #[.int .i64 E, .int .i64 A] 29, obB w1.heap.size (aV a) 32, obC p b ⟨E, A, [], 0, 0⟩]) := HS
      clear q0 q1 cV HS
      go_loopw [15, 16] (fun s15 s16 wr => ∃ k : Nat, k ≤ 16 ∧ 4 ≤ k ∧ s16 = .int .i64 k ∧ s15 = .bool (zq a k) ∧ Hid (St w wr [obG, obB w.heap.size #[.int .i64 E, .int .i64 A] 29, obB w1.heap.size (aV a) 32, obC p b ⟨E, A, [], 0, 0⟩])) (fun _ i _ => 16 - (intOf i).toNat)
      case atStart => exact ⟨4, by decide, by decide, rfl, rfl, HSL⟩
      case round =>
        obtain ⟨k, hk16, hk4, rfl, rfl, HS⟩ := hrel
        clear HSL
        by_cases hlt : k < 16
        · have hltz : (k : Int) < 16 := by omega
          have hk0 : (0 : Int) ≤ (k : Int) := by omega
          have cY := cell_Y (show wr.heap[w1.heap.size]? = some (.cells (aV a) 32 (0, 0)) from HS.out.get 2 rfl) k hlt
          have cY2 : wr.cell? ⟨w1.heap.size, 1 + k, none⟩ = some (.int .u8 (a.b.getD k 0)) := by rw [Nat.add_comm]; exact cY
          have hst := zq_step a hk4 hlt
          generalize zq a k = z at hst
          generalize a.b.getD k 0 = y at cY cY2 hst
          have HST := Lib.hid hst
          clear hst
          cases z with
          | true =>
            go_wp2_with fail
            go_roundw
            case rel => exact ⟨k + 1, by omega, by omega, by go_num, by rw [HST.out]; simp, HS⟩
            case measure => simp [intOf]; omega
          | false =>
            go_wp2_with fail
            go_roundw
            case rel => exact ⟨k + 1, by omega, by omega, by go_num, by rw [HST.out]; simp, HS⟩
            case measure => simp [intOf]; omega
        · have hltz : ¬ (k : Int) < 16 := by omega
          obtain rfl : k = 16 := by omega
          rw [HZQ.out]
          clear hlt hk16 hk4
          have q0 := HS.out.cellB 1 rfl 0 rfl
          have q1 := HS.out.cellB 1 rfl 1 rfl
          have cV := cell_V (show wr.heap[w1.heap.size]? = some (.cells (aV a) 32 (0, 0)) from HS.out.get 2 rfl)
          go_wp2_with (first
            | (refine gate_ (.load 32 (.tmp 6)) rfl ?_; first | (refine ld_A (.tmp 6) rfl rfl (range_A (HS.out.get 2 rfl)) rfl ?_) | (refine wpList_guarded (by rfl) ?_; refine ld_A (.tmp 6) rfl rfl (range_A (HS.out.get 2 rfl)) rfl ?_))
            | (go_at_call 25; refine (floor2_calls a _).mono ?_; rintro e w3 ⟨rfl, hb1⟩; replace HS := Lib.hid (HS.out.below hb1); clear hb1)
            | (go_at_call 26; refine (c_getK HS.out 3 rfl a first HFT.out).mono ?_; rintro e w3 ⟨rfl, hs⟩; replace HS := Lib.hid hs; clear hs)
            | (go_at_call 27; refine (c_hearK HS.out 3 rfl 0 rfl (okNew hb) (show (0 : Int) < 4000000000000000000 by decide) a first mtu 0 now HRR.out).mono ?_; rintro e w3 ⟨rfl, hs⟩; have HSA : Hid (St w w3 [obG, obB w.heap.size #[.int .i64 E, .int .i64 A] 29, obB w1.heap.size (aV a) 32, obC p b c1]) := Lib.hid hs; clear hs HS)
            | (go_at_call 19; refine (c_tickK HSA.out 3 rfl 0 rfl HBC.out.ok HBC.out.ab now HC2.out HTL.out).mono ?_; rintro e w4 ⟨A2, n2, rfl, hs⟩; have HSB : Hid (St w w4 [obG, obB w.heap.size #[.int .i64 E, .int .i64 A] 29, obB w1.heap.size (aV a) 32, obC p b c2, obAd (.slice A2 0 n2) []]) := Lib.hid hs; have qA := hs.cellB 1 rfl 1 rfl; clear hs HSA)
            | (go_at_call 19; refine (c_tickK HSB.out 3 rfl 0 rfl HO2.out.1 HO2.out.2 tq HC3.out HL3.out).mono ?_; rintro e w5 ⟨A3, n3, rfl, hs⟩; have HSD := Lib.hid hs; clear hs HSB))
          go_ret
          exact ⟨rfl, HSD.out.bl⟩
  · by_cases hz0 : 0 ≤ now
    · have k1 : decide (now ≥ 0) = true := decide_eq_true hz0
      have k2 : decide (now ≤ 1099511627776) = false := decide_eq_false (fun h => hck ⟨hz0, h⟩)
      have hd1 : decide (now ≥ 1) = true := decide_eq_true (by omega)
      obtain ⟨fl, c1, hr, hbc⟩ : ∃ (fl : Bool) (c1 : Ca), hearS ⟨E, A, [], 0, 0⟩ a first (meantS a mtu 0).1 (meantS a mtu 0).2 now = (false, 1, c1) ∧ BndC A now c1 := by
        have h1 := bnd_hear hb hok first mtu 0 now
        have h2 := bnd_err (E := E) (A := A) (a := a) (first := first) (n := (meantS a mtu 0).1) (is := (meantS a mtu 0).2) (now := now)
        have h3 := bnd_fell (E := E) (A := A) (a := a) (first := first) (n := (meantS a mtu 0).1) (is := (meantS a mtu 0).2) (now := now)
        rw [HFT.out] at h2
        generalize hearS ⟨E, A, [], 0, 0⟩ a first (meantS a mtu 0).1 (meantS a mtu 0).2 now = R at h1 h2 h3 ⊢
        obtain ⟨f, e, c1⟩ := R
        rw [if_neg (by exact fun h => absurd h.1 (by decide))] at h2
        obtain rfl : e = 1 := h2
        obtain rfl : f = false := h3 (show (1 : Int) ≠ 0 by decide)
        exact ⟨false, c1, rfl, h1⟩
      obtain ⟨c2, hc2, htl, ho2, hab2⟩ : ∃ c2 : Ca, tickS c1 above now = (1, c2) ∧ tickL c1 now = [] ∧ OkC c2 ∧ AllB c2 := ⟨c1, (hbc.tick0 hck).1, (hbc.tick0 hck).2, hbc.ok, hbc.ab⟩
      obtain ⟨tq, htq⟩ : ∃ tq : Int, IntKind.i64.wrap (now - 1) = tq := ⟨_, rfl⟩
      obtain ⟨e3, c3, l3, hc3, hl3⟩ : ∃ (e3 : Int) (c3 : Ca) (l3 : List Ad), tickS c2 above tq = (e3, c3) ∧ tickL c2 tq = l3 := ⟨_, _, _, rfl, rfl⟩
      have htq2 : wrap64 (now - 1) = tq := by rw [← htq, IntKind.wrap_i64]; simp only [wrap64]
      have HRR := Lib.hid hr
      have HBC := Lib.hid hbc
      have HC2 := Lib.hid hc2
      have HTL := Lib.hid htl
      have HO2 := Lib.hid (And.intro ho2 hab2)
      have HC3 := Lib.hid hc3
      have HL3 := Lib.hid hl3
      clear hr hbc hc2 htl ho2 hab2 hc3 hl3 hok
      clear hck hz0
      go_enter Tryd.func7, Tryd.ntmps7
      go_wp2_with (first
        | (refine gate_ (.box 29 (.tmp 0)) rfl ?_; go_must (refine wpList_box_B rfl 29 (.tmp 0) rfl #[.int .i64 E, .int .i64 A] rfl _ rfl HS0.out ?_; intro w1 hz hs; clear hz; have HS1 := Lib.hid hs; clear hs HS0))
        | (refine gate_ (.box 32 (.tmp 1)) rfl ?_; go_must (refine wpList_box_B rfl 32 (.tmp 1) rfl (aV a) rfl _ rfl HS1.out ?_; intro w2 hz hs; clear hz; have HS2 := Lib.hid hs; clear hs HS1))
        | (go_at_call 9; refine (alive_calls _ (HS2.out.get 0 rfl)).mono ?_; rintro e w3 ⟨rfl, hb1⟩; have HS3 := Lib.hid (HS2.out.below hb1); have q0 := HS3.out.cellB 1 rfl 0 rfl; have q1 := HS3.out.cellB 1 rfl 1 rfl; clear hb1 HS2)
        | (go_at_call 10; refine (c_new_yes HS3.out E A hb).mono ?_; rintro e w4 ⟨p, b, rfl, hs⟩; clear q0 q1; have HS : Hid (St w w4 [obG, obB w.heap.size #[.int .i64 E, .int .i64 A] 29, obB w1.heap.size (aV a) 32, obC p b ⟨E, A, [], 0, 0⟩]) := Lib.hid hs; have q0 := hs.cellB 1 rfl 0 rfl; have q1 := hs.cellB 1 rfl 1 rfl; have cV := cell_V (show w4.heap[w1.heap.size]? = some (.cells (aV a) 32 (0, 0)) from hs.get 2 rfl); clear hs HS3))
      have HSL : Hid (St w w4 [obG, obB w.heap.size #[.int .i64 E, .int .i64 A] 29, obB w1.heap.size (aV a) 32, obC p b ⟨E, A, [], 0, 0⟩]) := HS
      clear q0 q1 cV HS
      go_loopw [15, 16] (fun s15 s16 wr => ∃ k : Nat, k ≤ 16 ∧ 4 ≤ k ∧ s16 = .int .i64 k ∧ s15 = .bool (zq a k) ∧ Hid (St w wr [obG, obB w.heap.size #[.int .i64 E, .int .i64 A] 29, obB w1.heap.size (aV a) 32, obC p b ⟨E, A, [], 0, 0⟩])) (fun _ i _ => 16 - (intOf i).toNat)
      case atStart => exact ⟨4, by decide, by decide, rfl, rfl, HSL⟩
      case round =>
        obtain ⟨k, hk16, hk4, rfl, rfl, HS⟩ := hrel
        clear HSL
        by_cases hlt : k < 16
        · have hltz : (k : Int) < 16 := by omega
          have hk0 : (0 : Int) ≤ (k : Int) := by omega
          have cY := cell_Y (show wr.heap[w1.heap.size]? = some (.cells (aV a) 32 (0, 0)) from HS.out.get 2 rfl) k hlt
          have cY2 : wr.cell? ⟨w1.heap.size, 1 + k, none⟩ = some (.int .u8 (a.b.getD k 0)) := by rw [Nat.add_comm]; exact cY
          have hst := zq_step a hk4 hlt
          generalize zq a k = z at hst
          generalize a.b.getD k 0 = y at cY cY2 hst
          have HST := Lib.hid hst
          clear hst
          cases z with
          | true =>
            go_wp2_with fail
            go_roundw
            case rel => exact ⟨k + 1, by omega, by omega, by go_num, by rw [HST.out]; simp, HS⟩
            case measure => simp [intOf]; omega
          | false =>
            go_wp2_with fail
            go_roundw
            case rel => exact ⟨k + 1, by omega, by omega, by go_num, by rw [HST.out]; simp, HS⟩
            case measure => simp [intOf]; omega
        · have hltz : ¬ (k : Int) < 16 := by omega
          obtain rfl : k = 16 := by omega
          rw [HZQ.out]
          clear hlt hk16 hk4
          have q0 := HS.out.cellB 1 rfl 0 rfl
          have q1 := HS.out.cellB 1 rfl 1 rfl
          have cV := cell_V (show wr.heap[w1.heap.size]? = some (.cells (aV a) 32 (0, 0)) from HS.out.get 2 rfl)
          go_wp2_with (first
            | (refine gate_ (.load 32 (.tmp 6)) rfl ?_; first | (refine ld_A (.tmp 6) rfl rfl (range_A (HS.out.get 2 rfl)) rfl ?_) | (refine wpList_guarded (by rfl) ?_; refine ld_A (.tmp 6) rfl rfl (range_A (HS.out.get 2 rfl)) rfl ?_))
            | (go_at_call 25; refine (floor2_calls a _).mono ?_; rintro e w3 ⟨rfl, hb1⟩; replace HS := Lib.hid (HS.out.below hb1); clear hb1)
            | (go_at_call 26; refine (c_getK HS.out 3 rfl a first HFT.out).mono ?_; rintro e w3 ⟨rfl, hs⟩; replace HS := Lib.hid hs; clear hs)
            | (go_at_call 27; refine (c_hearK HS.out 3 rfl 0 rfl (okNew hb) (show (0 : Int) < 4000000000000000000 by decide) a first mtu 0 now HRR.out).mono ?_; rintro e w3 ⟨rfl, hs⟩; have HSA : Hid (St w w3 [obG, obB w.heap.size #[.int .i64 E, .int .i64 A] 29, obB w1.heap.size (aV a) 32, obC p b c1]) := Lib.hid hs; clear hs HS)
            | (go_at_call 19; refine (c_tickK HSA.out 3 rfl 0 rfl HBC.out.ok HBC.out.ab now HC2.out HTL.out).mono ?_; rintro e w4 ⟨A2, n2, rfl, hs⟩; have HSB : Hid (St w w4 [obG, obB w.heap.size #[.int .i64 E, .int .i64 A] 29, obB w1.heap.size (aV a) 32, obC p b c2, obAd (.slice A2 0 n2) []]) := Lib.hid hs; have qA := hs.cellB 1 rfl 1 rfl; clear hs HSA)
            | (go_at_call 19; refine (c_tickK HSB.out 3 rfl 0 rfl HO2.out.1 HO2.out.2 tq HC3.out HL3.out).mono ?_; rintro e w5 ⟨A3, n3, rfl, hs⟩; have HSD := Lib.hid hs; clear hs HSB))
          go_ret
          exact ⟨rfl, HSD.out.bl⟩
    · have k1 : decide (now ≥ 0) = false := decide_eq_false hz0
      have hd1 : decide (now ≥ 1) = false := decide_eq_false (by omega)
      obtain ⟨fl, c1, hr, hbc⟩ : ∃ (fl : Bool) (c1 : Ca), hearS ⟨E, A, [], 0, 0⟩ a first (meantS a mtu 0).1 (meantS a mtu 0).2 now = (false, 1, c1) ∧ BndC A now c1 := by
        have h1 := bnd_hear hb hok first mtu 0 now
        have h2 := bnd_err (E := E) (A := A) (a := a) (first := first) (n := (meantS a mtu 0).1) (is := (meantS a mtu 0).2) (now := now)
        have h3 := bnd_fell (E := E) (A := A) (a := a) (first := first) (n := (meantS a mtu 0).1) (is := (meantS a mtu 0).2) (now := now)
        rw [HFT.out] at h2
        generalize hearS ⟨E, A, [], 0, 0⟩ a first (meantS a mtu 0).1 (meantS a mtu 0).2 now = R at h1 h2 h3 ⊢
        obtain ⟨f, e, c1⟩ := R
        rw [if_neg (by exact fun h => absurd h.1 (by decide))] at h2
        obtain rfl : e = 1 := h2
        obtain rfl : f = false := h3 (show (1 : Int) ≠ 0 by decide)
        exact ⟨false, c1, rfl, h1⟩
      obtain ⟨c2, hc2, htl, ho2, hab2⟩ : ∃ c2 : Ca, tickS c1 above now = (1, c2) ∧ tickL c1 now = [] ∧ OkC c2 ∧ AllB c2 := ⟨c1, (hbc.tick0 hck).1, (hbc.tick0 hck).2, hbc.ok, hbc.ab⟩
      obtain ⟨tq, htq⟩ : ∃ tq : Int, IntKind.i64.wrap (now - 1) = tq := ⟨_, rfl⟩
      obtain ⟨e3, c3, l3, hc3, hl3⟩ : ∃ (e3 : Int) (c3 : Ca) (l3 : List Ad), tickS c2 above tq = (e3, c3) ∧ tickL c2 tq = l3 := ⟨_, _, _, rfl, rfl⟩
      have htq2 : wrap64 (now - 1) = tq := by rw [← htq, IntKind.wrap_i64]; simp only [wrap64]
      have HRR := Lib.hid hr
      have HBC := Lib.hid hbc
      have HC2 := Lib.hid hc2
      have HTL := Lib.hid htl
      have HO2 := Lib.hid (And.intro ho2 hab2)
      have HC3 := Lib.hid hc3
      have HL3 := Lib.hid hl3
      clear hr hbc hc2 htl ho2 hab2 hc3 hl3 hok
      clear hck hz0
      go_enter Tryd.func7, Tryd.ntmps7
      go_wp2_with (first
        | (refine gate_ (.box 29 (.tmp 0)) rfl ?_; go_must (refine wpList_box_B rfl 29 (.tmp 0) rfl #[.int .i64 E, .int .i64 A] rfl _ rfl HS0.out ?_; intro w1 hz hs; clear hz; have HS1 := Lib.hid hs; clear hs HS0))
        | (refine gate_ (.box 32 (.tmp 1)) rfl ?_; go_must (refine wpList_box_B rfl 32 (.tmp 1) rfl (aV a) rfl _ rfl HS1.out ?_; intro w2 hz hs; clear hz; have HS2 := Lib.hid hs; clear hs HS1))
        | (go_at_call 9; refine (alive_calls _ (HS2.out.get 0 rfl)).mono ?_; rintro e w3 ⟨rfl, hb1⟩; have HS3 := Lib.hid (HS2.out.below hb1); have q0 := HS3.out.cellB 1 rfl 0 rfl; have q1 := HS3.out.cellB 1 rfl 1 rfl; clear hb1 HS2)
        | (go_at_call 10; refine (c_new_yes HS3.out E A hb).mono ?_; rintro e w4 ⟨p, b, rfl, hs⟩; clear q0 q1; have HS : Hid (St w w4 [obG, obB w.heap.size #[.int .i64 E, .int .i64 A] 29, obB w1.heap.size (aV a) 32, obC p b ⟨E, A, [], 0, 0⟩]) := Lib.hid hs; have q0 := hs.cellB 1 rfl 0 rfl; have q1 := hs.cellB 1 rfl 1 rfl; have cV := cell_V (show w4.heap[w1.heap.size]? = some (.cells (aV a) 32 (0, 0)) from hs.get 2 rfl); clear hs HS3))
      have HSL : Hid (St w w4 [obG, obB w.heap.size #[.int .i64 E, .int .i64 A] 29, obB w1.heap.size (aV a) 32, obC p b ⟨E, A, [], 0, 0⟩]) := HS
      clear q0 q1 cV HS
      go_loopw [15, 16] (fun s15 s16 wr => ∃ k : Nat, k ≤ 16 ∧ 4 ≤ k ∧ s16 = .int .i64 k ∧ s15 = .bool (zq a k) ∧ Hid (St w wr [obG, obB w.heap.size #[.int .i64 E, .int .i64 A] 29, obB w1.heap.size (aV a) 32, obC p b ⟨E, A, [], 0, 0⟩])) (fun _ i _ => 16 - (intOf i).toNat)
      case atStart => exact ⟨4, by decide, by decide, rfl, rfl, HSL⟩
      case round =>
        obtain ⟨k, hk16, hk4, rfl, rfl, HS⟩ := hrel
        clear HSL
        by_cases hlt : k < 16
        · have hltz : (k : Int) < 16 := by omega
          have hk0 : (0 : Int) ≤ (k : Int) := by omega
          have cY := cell_Y (show wr.heap[w1.heap.size]? = some (.cells (aV a) 32 (0, 0)) from HS.out.get 2 rfl) k hlt
          have cY2 : wr.cell? ⟨w1.heap.size, 1 + k, none⟩ = some (.int .u8 (a.b.getD k 0)) := by rw [Nat.add_comm]; exact cY
          have hst := zq_step a hk4 hlt
          generalize zq a k = z at hst
          generalize a.b.getD k 0 = y at cY cY2 hst
          have HST := Lib.hid hst
          clear hst
          cases z with
          | true =>
            go_wp2_with fail
            go_roundw
            case rel => exact ⟨k + 1, by omega, by omega, by go_num, by rw [HST.out]; simp, HS⟩
            case measure => simp [intOf]; omega
          | false =>
            go_wp2_with fail
            go_roundw
            case rel => exact ⟨k + 1, by omega, by omega, by go_num, by rw [HST.out]; simp, HS⟩
            case measure => simp [intOf]; omega
        · have hltz : ¬ (k : Int) < 16 := by omega
          obtain rfl : k = 16 := by omega
          rw [HZQ.out]
          clear hlt hk16 hk4
          have q0 := HS.out.cellB 1 rfl 0 rfl
          have q1 := HS.out.cellB 1 rfl 1 rfl
          have cV := cell_V (show wr.heap[w1.heap.size]? = some (.cells (aV a) 32 (0, 0)) from HS.out.get 2 rfl)
          go_wp2_with (first
            | (refine gate_ (.load 32 (.tmp 6)) rfl ?_; first | (refine ld_A (.tmp 6) rfl rfl (range_A (HS.out.get 2 rfl)) rfl ?_) | (refine wpList_guarded (by rfl) ?_; refine ld_A (.tmp 6) rfl rfl (range_A (HS.out.get 2 rfl)) rfl ?_))
            | (go_at_call 25; refine (floor2_calls a _).mono ?_; rintro e w3 ⟨rfl, hb1⟩; replace HS := Lib.hid (HS.out.below hb1); clear hb1)
            | (go_at_call 26; refine (c_getK HS.out 3 rfl a first HFT.out).mono ?_; rintro e w3 ⟨rfl, hs⟩; replace HS := Lib.hid hs; clear hs)
            | (go_at_call 27; refine (c_hearK HS.out 3 rfl 0 rfl (okNew hb) (show (0 : Int) < 4000000000000000000 by decide) a first mtu 0 now HRR.out).mono ?_; rintro e w3 ⟨rfl, hs⟩; have HSA : Hid (St w w3 [obG, obB w.heap.size #[.int .i64 E, .int .i64 A] 29, obB w1.heap.size (aV a) 32, obC p b c1]) := Lib.hid hs; clear hs HS)
            | (go_at_call 19; refine (c_tickK HSA.out 3 rfl 0 rfl HBC.out.ok HBC.out.ab now HC2.out HTL.out).mono ?_; rintro e w4 ⟨A2, n2, rfl, hs⟩; have HSB : Hid (St w w4 [obG, obB w.heap.size #[.int .i64 E, .int .i64 A] 29, obB w1.heap.size (aV a) 32, obC p b c2, obAd (.slice A2 0 n2) []]) := Lib.hid hs; have qA := hs.cellB 1 rfl 1 rfl; clear hs HSA)
            | (go_at_call 19; refine (c_tickK HSB.out 3 rfl 0 rfl HO2.out.1 HO2.out.2 tq HC3.out HL3.out).mono ?_; rintro e w5 ⟨A3, n3, rfl, hs⟩; have HSD := Lib.hid hs; clear hs HSB))
          go_ret
          exact ⟨rfl, HSD.out.bl⟩
end Go.Proofs.YtdinkhhaomblcaaDoor.SL
