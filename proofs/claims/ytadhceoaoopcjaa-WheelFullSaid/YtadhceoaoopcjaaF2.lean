/- The walk of the statement WheelFull. No condition. -/
import Derived.Test.YtadhceoaoopcjaaF1
namespace Go.Proofs.Ytadhceoaoopcjaa.SL
open Go.RowKit Go.Proofs.YtadhceoaoopcjaaW.PrintWords Go.Proofs.YtadhceoaoopcjaaW.PrintLast Go.Proofs.YtadhceoaoopcjaaW.PrintMore
theorem i64_and24 (n : Int) : bits .and .i64 n 16777215 = n % 16777216 := by
  have hn : (BitVec.ofInt 64 n).toNat = (n % 18446744073709551616).toNat := BitVec.toNat_ofInt ..
  have hm : (BitVec.ofInt 64 (16777215 : Int)).toNat = 2 ^ 24 - 1 := by decide
  show IntKind.i64.wrap ((BitVec.ofInt 64 n &&& BitVec.ofInt 64 16777215).toNat : Int) = _
  rw [BitVec.toNat_and, hn, hm, Nat.and_two_pow_sub_one_eq_mod, i64_wrap_small _ (by omega) (by omega)]
  omega
set_option maxHeartbeats 8000000 in
set_option maxRecDepth 100000 in
theorem full_calls (now at1 cancel : Int) (w : World) : Calls Try.prog 4 #[.int .i64 now, .int .i64 at1, .int .i64 cancel] w fun e w' => e = .returned (.bool true) ∧ Below w.heap.size w w' := by
  have hw1 := wi_rng now
  have hw2 := wi_rng at1
  have HW1 := Lib.hid fun W => within_calls now W
  have HW2 := Lib.hid fun W => within_calls at1 W
  have hc := i64_and24 cancel
  have hcr : 0 ≤ cancel % 16777216 ∧ cancel % 16777216 < 16777216 := by omega
  generalize wi now = a at *
  generalize wi at1 = b at *
  generalize cancel % 16777216 = c at *
  obtain ⟨N, hN⟩ : ∃ N : Nat, N = 4096 := ⟨_, rfl⟩
  have HN := Lib.hid hN
  clear hN
  obtain ⟨hw10, hw11⟩ := hw1
  obtain ⟨hw20, hw21⟩ := hw2
  obtain ⟨hc0, hc1⟩ := hcr
  have HFF := Lib.hid (fullF (N := N) HN.out (now := 1 + a / 2) (at1 := 1 + a / 2 + b / 2) (id := 1 + c % 4096) (by omega) (by omega) (by omega) (by omega) (by omega) (by omega))
  have HA := Lib.hid fun i (hi : i < N) => And.intro (fill_addR (now := 1 + a / 2) (by omega) (i := i) (by have := HN.out; omega)) (And.intro (fill_addE (now := 1 + a / 2) (by omega) (i := i) (by have := HN.out; omega)) (fill_addS (now := 1 + a / 2) (by omega) (i := i) (by have := HN.out; omega)))
  have hdv : a / 2 ≤ 549755813887 := by omega
  have hdv0 : 0 ≤ a / 2 := by omega
  have hbv : b / 2 ≤ 549755813887 := by omega
  have hbv0 : 0 ≤ b / 2 := by omega
  go_enter Try.func4, Try.ntmps4
  go_wp2_with (first
    | (go_at_call 9; refine (alive_calls _).mono ?_; rintro e w1 ⟨rfl, hb⟩; have HB0 := Lib.hid ((St.nil w).below hb); clear hb)
    | (go_at_call 10; refine (HW1.out _).mono ?_; rintro e w2 ⟨rfl, rfl⟩)
    | (go_at_call 11; refine (c_new HB0.out (1 + a / 2) (by omega) (by omega)).mono ?_; rintro e w3 ⟨p, x, rfl, hx, hs⟩; have HX : Hid (x.Is p (fillW (1 + a / 2) 0)) := Lib.hid hx; have HS : Hid (St w w3 [obWh x]) := Lib.hid hs; clear hx hs HB0))
  go_loopw [9] (fun s9 wr => ∃ (i : Nat) (x : WSt), i ≤ N ∧ s9 = .int .i64 i ∧ Hid (x.Is p (fillW (1 + a / 2) i)) ∧ Hid (St w wr [obWh x])) (fun s9 _ => N - (intOf s9).toNat)
  case atStart => exact ⟨0, x, Nat.zero_le _, rfl, HX, HS⟩
  case round =>
    clear HX HS
    obtain ⟨i, x, hi, rfl, HX, HS⟩ := hrel
    have hi0 : (0 : Int) ≤ (i : Int) := by omega
    by_cases hit : i < N
    · have hitz : (i : Int) < 4096 := by have := HN.out; omega
      have HAI := Lib.hid (HA.out i hit)
      have hm := Lib.hid (show ((fillW (1 + a / 2) i).last < 4000000000000000000) by show (i : Int) < _; omega)
      go_wp2_with (go_at_call 12; refine (c_add HS.out 0 rfl HX.out hm.out _ _ HAI.out.1 HAI.out.2.1 HAI.out.2.2).mono ?_; rintro e w4 ⟨x4, rfl, hx, hs⟩; have HX4 := Lib.hid hx; have HS4 : Hid (St w w4 [obWh x4]) := Lib.hid hs; clear hx hs)
      go_roundw
      case rel => exact ⟨i + 1, x4, by omega, by go_num, HX4, HS4⟩
      case measure => simp [intOf]; omega
    · obtain rfl : i = N := by omega
      have hitz : ¬ (i : Int) < 4096 := by have := HN.out; omega
      have hl : ((fillW (1 + a / 2) i).L.length : Int) = 4096 := by rw [fill_len]; have := HN.out; omega
      have HLN := Lib.hid hl
      have hm := Lib.hid (show ((fillW (1 + a / 2) i).last < 4000000000000000000) by show (i : Int) < _; have := HN.out; omega)
      have HMC := Lib.hid (show (cutW (fillW (1 + a / 2) i) (1 + c % 4096)).last < 4000000000000000000 from hm.out)
      have HMD : Hid ((addS (cutW (fillW (1 + a / 2) i) (1 + c % 4096)) (1 + a / 2 + b / 2) 2).last < 4000000000000000000) := Lib.hid (by
        have h1 := HN.out
        unfold addS
        rw [if_pos HFF.out.e4]
        show (i : Int) + 1 < _
        omega)
      have HME : Hid ((advS (addS (cutW (fillW (1 + a / 2) i) (1 + c % 4096)) (1 + a / 2 + b / 2) 2) (1 + a / 2)).last < 4000000000000000000) := Lib.hid (by
        unfold advS
        rw [if_pos HFF.out.e6]
        exact HMD.out)
      obtain ⟨n, hn⟩ : ∃ n, (dueL (addS (cutW (fillW (1 + a / 2) i) (1 + c % 4096)) (1 + a / 2 + b / 2) 2) (1 + a / 2)).length = n := ⟨_, rfl⟩
      have hn1 : (585 : Int) ≤ (n : Int) := by have := HFF.out.l6; omega
      have HNL := Lib.hid hn
      clear hl HA hi hit hn
      go_wp2_with (first
        | (go_at_call 12; refine (c_add HSg.out 1 rfl HXg.out HME.out (1 + a / 2) 4 HFF.out.r7 HFF.out.e7 rfl).mono ?_; rintro e w9 ⟨x9, rfl, hx, hs⟩; have HSh := Lib.hid hs; clear hx hs)
        | (go_at_call 14; refine (c_adv HSf.out 0 rfl HXf.out (1 + a / 2) rfl HFF.out.e6 rfl).mono ?_; rw [HNL.out]; rintro e w9 ⟨A, cp, x9, rfl, hx, hs⟩; have HXg := Lib.hid hx; have HSg := Lib.hid hs; clear hx hs HSf HXf)
        | (go_at_call 12; refine (c_add HSe.out 0 rfl HXe.out HMD.out (1 + a / 2 + b / 2) 3 HFF.out.r5 HFF.out.e5 HFF.out.s5).mono ?_; rintro e w9 ⟨x9, rfl, hx, hs⟩; have HXf := Lib.hid hx; have HSf : Hid (St w w9 [obWh x9]) := Lib.hid hs; clear hx hs HSe HXe)
        | (go_at_call 12; refine (c_add HSd.out 0 rfl HXd.out HMC.out (1 + a / 2 + b / 2) 2 HFF.out.r4 HFF.out.e4 rfl).mono ?_; rintro e w8 ⟨x8, rfl, hx, hs⟩; have HXe := Lib.hid hx; have HSe : Hid (St w w8 [obWh x8]) := Lib.hid hs; clear hx hs HSd HXd)
        | (go_at_call 16; refine (c_cancel HSc.out 0 rfl HXc.out (1 + c % 4096) HFF.out.f rfl).mono ?_; rintro e w7 ⟨x7, rfl, hx, hs⟩; have HXd := Lib.hid hx; have HSd : Hid (St w w7 [obWh x7]) := Lib.hid hs; clear hx hs HSc HXc)
        | (go_at_call 15; refine (c_len HSc.out 0 rfl HXc.out).mono ?_; rw [HLN.out]; rintro e w8 ⟨rfl, rfl⟩)
        | (go_at_call 12; refine (c_add HSb.out 0 rfl HXb.out hm.out 1099511627777 1 HFF.out.r3 HFF.out.e3 HFF.out.s3).mono ?_; rintro e w6 ⟨x6, rfl, hx, hs⟩; have HXc := Lib.hid hx; have HSc : Hid (St w w6 [obWh x6]) := Lib.hid hs; clear hx hs HXb HSb)
        | (go_at_call 12; refine (c_add HSa.out 0 rfl HXa.out hm.out (1 + a / 2 - 1) 1 HFF.out.r2 HFF.out.e2 HFF.out.s2).mono ?_; rintro e w5 ⟨x5, rfl, hx, hs⟩; have HXb := Lib.hid hx; have HSb : Hid (St w w5 [obWh x5]) := Lib.hid hs; clear hx hs HXa HSa)
        | (go_at_call 10; refine (HW2.out _).mono ?_; rintro e w2 ⟨rfl, rfl⟩)
        | (go_at_call 12; refine (c_add HS.out 0 rfl HX.out hm.out (1 + a / 2 + b / 2) 1 HFF.out.r1 HFF.out.e1 HFF.out.s1).mono ?_; rintro e w4 ⟨x4, rfl, hx, hs⟩; have HXa := Lib.hid hx; have HSa : Hid (St w w4 [obWh x4]) := Lib.hid hs; clear hx hs HX HS))
      go_ret
      exact ⟨rfl, HSh.out.bl⟩
end Go.Proofs.Ytadhceoaoopcjaa.SL
