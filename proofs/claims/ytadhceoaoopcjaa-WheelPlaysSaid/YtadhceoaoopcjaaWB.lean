/- The walks of a wheel's least functions: ring, at. No condition but that ticks are not below 0. -/
import Derived.Test.YtadhceoaoopcjaaQS
import Derived.Test.YtadhceoaoopcjaaWP
import Derived.Laws.BitsAllLaws
import Derived.WalkKit
import Derived.WalkSpells
import Derived.WalkLawsBesides
import Derived.Handy
import Derived.Lib.Hide
import Derived.IntWalk
namespace Go.Proofs.Ytadhceoaoopcjaa.SL
open Go.Shelf Go.RowKit
theorem i64_wrap_small (n : Int) (h0 : 0 ≤ n) (h1 : n ≤ 9223372036854775807) : IntKind.i64.wrap n = n := by
  simp [IntKind.wrap, IntKind.bits, IntKind.signed]; omega
theorem ofInt_i64 (a : Nat) (ha : a < 9223372036854775808) : (BitVec.ofInt 64 (a : Int)).toNat = a := by
  rw [BitVec.ofInt_natCast, BitVec.toNat_ofNat]; exact Nat.mod_eq_of_lt (by omega)
theorem i64_xor (a b : Int) (h1 : 0 ≤ a) (h2 : a < 9223372036854775808) (h3 : 0 ≤ b) (h4 : b < 9223372036854775808) : bits .xor .i64 a b = ((a.toNat ^^^ b.toNat : Nat) : Int) := by
  obtain ⟨A, rfl⟩ := Int.eq_ofNat_of_zero_le h1
  obtain ⟨B, rfl⟩ := Int.eq_ofNat_of_zero_le h3
  have hx : A ^^^ B < 2 ^ 63 := Nat.xor_lt_two_pow (by omega) (by omega)
  show IntKind.i64.wrap ((BitVec.ofInt 64 (A : Int) ^^^ BitVec.ofInt 64 (B : Int)).toNat : Int) = _
  rw [BitVec.toNat_xor, ofInt_i64 A (by omega), ofInt_i64 B (by omega)]
  simp only [Int.toNat_natCast]
  exact i64_wrap_small _ (by omega) (by omega)
theorem i64_and63 (a : Int) (h1 : 0 ≤ a) (h2 : a < 9223372036854775808) : bits .and .i64 a 63 = a % 64 := by
  obtain ⟨A, rfl⟩ := Int.eq_ofNat_of_zero_le h1
  have e : A &&& 63 = A % 64 := Nat.and_two_pow_sub_one_eq_mod A 6
  show IntKind.i64.wrap ((BitVec.ofInt 64 (A : Int) &&& BitVec.ofInt 64 ((63 : Nat) : Int)).toNat : Int) = _
  rw [BitVec.toNat_and, ofInt_i64 A (by omega), ofInt_i64 63 (by omega), e]
  rw [i64_wrap_small _ (by omega) (by omega)]
  omega
theorem len64_calls (x : Int) (w : World) (h0 : 0 ≤ x) (h1 : x ≤ 18446744073709551615) : Calls Try.prog 45 #[.int .u64 x] w fun e w' => e = .returned (.int .i64 (Lib.bitLen x.toNat)) ∧ w' = w := by
  have h := Any.bits_Len64 (P := Try.prog) (ρ := Q.sortDu_ren.viaSlsf) { (SlLaysF0.n15.bits (P := Try.prog) (ρ := Q.sortDu_ren) { Q.sortDu with }) with } x w h0 h1
  exact h
theorem ret_i (a b : Int) (h : a = b) : Ending.returned (.int .i64 a) = .returned (.int .i64 b) := by rw [h]
set_option maxHeartbeats 1000000 in
theorem ring_calls (a b : Int) (ha : 0 ≤ a ∧ a ≤ 1099511627776) (hb : 0 ≤ b ∧ b ≤ 1099511627776) (w : World) :
    Calls Try.prog 23 #[.int .i64 a, .int .i64 b] w fun e w' => e = .returned (.int .i64 (ringN a.toNat b.toNat : Nat)) ∧ w' = w := by
  have hx := i64_xor a b ha.1 (by omega) hb.1 (by omega)
  have hl : a.toNat ^^^ b.toNat < 2 ^ 42 := Nat.xor_lt_two_pow (nat42 ha.2) (nat42 hb.2)
  have hR : Hid (ringN a.toNat b.toNat = (Lib.bitLen (a.toNat ^^^ b.toNat) - 1) / 6) := Lib.hid rfl
  generalize ringN a.toNat b.toNat = R at hR ⊢
  generalize a.toNat ^^^ b.toNat = X at hx hl hR
  have h42 : (2 : Nat) ^ 42 = 4398046511104 := rfl
  rw [h42] at hl
  have hw : IntKind.u64.wrap (X : Int) = X := by simp [IntKind.wrap, IntKind.bits, IntKind.signed]; omega
  have hb64 : Lib.bitLen X ≤ 42 := Lib.bitLen_le X 42 (by decide) (by omega)
  have HL : Hid (Calls Try.prog 45 #[.int .u64 (X : Int)] w fun e w' => e = .returned (.int .i64 (Lib.bitLen X)) ∧ w' = w) := Lib.hid (by
    have := len64_calls (X : Int) w (by omega) (by omega)
    rwa [Int.toNat_natCast] at this)
  clear ha hb h42
  generalize Lib.bitLen X = B at hb64 hR HL
  go_enter Try.func23, Try.ntmps23
  go_wp2_with (go_at_call 45; refine HL.out.mono ?_; rintro e w1 ⟨rfl, rfl⟩)
  all_goals
    go_ret
    refine ⟨ret_i _ _ ?_, rfl⟩
    have := hR.out
    simp only [Int.natCast_ediv, this]
    omega
set_option maxHeartbeats 1000000 in
theorem at_calls (t : Int) (r : Nat) (ht : 0 ≤ t ∧ t ≤ 1099511627776) (hr : r ≤ 7) (w : World) :
    Calls Try.prog 25 #[.int .i64 t, .int .i64 (r : Int)] w fun e w' => e = .returned (.int .i64 (digN t.toNat r : Nat)) ∧ w' = w := by
  obtain ⟨T, rfl⟩ := Int.eq_ofNat_of_zero_le ht.1
  have hR : Hid (digN (T : Int).toNat r = T / 2 ^ (6 * r) % 64) := Lib.hid (by unfold digN; rw [pow64, Int.toNat_natCast])
  generalize digN (T : Int).toNat r = D at hR ⊢
  obtain ⟨Y, hY⟩ : ∃ Y, T / 2 ^ (6 * r) = Y := ⟨_, rfl⟩
  have hYle : Y ≤ T := by rw [← hY]; exact Nat.div_le_self _ _
  have hand := i64_and63 (Y : Int) (by omega) (by omega)
  rw [hY] at hR
  have hk : (r : Int) * 6 ≤ 64 := by omega
  have hsh : (T : Int) / 2 ^ ((r : Int) * 6).toNat = (Y : Int) := by
    rw [show ((r : Int) * 6).toNat = 6 * r by omega, ← hY]
    simp
  have hsh2 : (T : Int) / 2 ^ min ((r : Int) * 6).toNat 64 = (Y : Int) := by
    rw [show min ((r : Int) * 6).toNat 64 = 6 * r by omega, ← hY]
    simp
  clear hY
  go_enter Try.func25, Try.ntmps25
  go_wp2
  all_goals
    go_ret
    refine ⟨ret_i _ _ ?_, rfl⟩
    have := hR.out
    omega
end Go.Proofs.Ytadhceoaoopcjaa.SL
