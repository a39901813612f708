/- The walks of within and alive. No condition. -/
import Derived.Test.YtadhceoaoopcjaaV5
namespace Go.Proofs.Ytadhceoaoopcjaa.SL
open Go.RowKit Go.Proofs.YtadhceoaoopcjaaW.PrintWords Go.Proofs.YtadhceoaoopcjaaW.PrintLast Go.Proofs.YtadhceoaoopcjaaW.PrintMore
def wi (n : Int) : Int := n % 1099511627776
theorem wi_rng (n : Int) : 0 ≤ wi n ∧ wi n < 1099511627776 := by unfold wi; omega
theorem i64_and_low (n : Int) : bits .and .i64 n 1099511627775 = wi n := by
  have hn : (BitVec.ofInt 64 n).toNat = (n % 18446744073709551616).toNat := BitVec.toNat_ofInt ..
  have hm : (BitVec.ofInt 64 (1099511627775 : Int)).toNat = 2 ^ 40 - 1 := by decide
  show IntKind.i64.wrap ((BitVec.ofInt 64 n &&& BitVec.ofInt 64 1099511627775).toNat : Int) = _
  rw [BitVec.toNat_and, hn, hm, Nat.and_two_pow_sub_one_eq_mod, i64_wrap_small _ (by omega) (by omega)]
  unfold wi
  omega
theorem within_calls (n : Int) (w : World) : Calls Try.prog 10 #[.int .i64 n] w fun e w' => e = .returned (.int .i64 (wi n)) ∧ w' = w := by
  have hx := i64_and_low n
  go_enter Try.func10, Try.ntmps10
  go_wp2
  go_ret
  exact ⟨rfl, rfl⟩
def a0 : Wh := ⟨5, 0, []⟩
def a1 : Wh := ⟨5, 1, [⟨1, 9, 1⟩]⟩
def a2 : Wh := ⟨5, 2, [⟨1, 9, 1⟩, ⟨2, 7, 2⟩]⟩
def a3 : Wh := ⟨5, 3, [⟨1, 9, 1⟩, ⟨2, 7, 2⟩, ⟨3, 9, 3⟩]⟩
def a4 : Wh := ⟨5, 4, [⟨1, 9, 1⟩, ⟨2, 7, 2⟩, ⟨3, 9, 3⟩, ⟨4, 5, 4⟩]⟩
def a5 : Wh := ⟨8, 4, [⟨1, 9, 1⟩, ⟨3, 9, 3⟩]⟩
set_option maxHeartbeats 8000000 in
set_option maxRecDepth 100000 in
theorem alive_calls (w : World) : Calls Try.prog 9 #[] w fun e w' => e = .returned (.bool true) ∧ Below w.heap.size w w' := by
  have HS0 := Lib.hid (St.nil w)
  go_enter Try.func9, Try.ntmps9
  go_wp2_with (first
    | (go_at_call 15; refine (c_len HS7.out 1 rfl HX6.out).mono ?_; rintro e w8 ⟨rfl, rfl⟩)
    | (go_at_call 18; refine (c_next HS6.out 1 rfl HX6.out (r := 9) (is := true) (by kernel_rfl)).mono ?_; rintro e w7 ⟨rfl, hs⟩; have HS7 := Lib.hid hs; clear hs; obtain ⟨g, y1, -, d0, d1, d2⟩ := HS7.out.cellD 0 rfl 0 (by decide); obtain ⟨g', y2, -, e0, e1, e2⟩ := HS7.out.cellD 0 rfl 1 (by decide); rw [y1] at y2; injection y2 with y2; injection y2 with y2; subst y2; subst y1; simp only [Nat.zero_mul, Nat.one_mul, Nat.zero_add] at d0 d1 d2 e0 e1 e2)
    | (go_at_call 14; refine (c_adv HS5.out 0 rfl HX5.out 8 (l := [⟨4, 5, 4⟩, ⟨2, 7, 2⟩]) (e' := 0) (s' := a5) (by kernel_rfl) (by kernel_rfl) (by kernel_rfl)).mono ?_; rintro e w6 ⟨A, c, x6, rfl, hx, hs⟩; have HX6 := Lib.hid hx; have HS6 : Hid (St w w6 [obD (.slice A 2 c) [⟨4, 5, 4⟩, ⟨2, 7, 2⟩], obWh x6]) := Lib.hid hs; clear hx hs)
    | (go_at_call 12; refine (c_add HS4.out 0 rfl HX4.out (by decide) 5 4 (r := 4) (e' := 0) (s' := a4) (by kernel_rfl) (by kernel_rfl) (by kernel_rfl)).mono ?_; rintro e w5 ⟨x5, rfl, hx, hs⟩; have HX5 := Lib.hid hx; have HS5 : Hid (St w w5 [obWh x5]) := Lib.hid hs; clear hx hs HS4 HX4)
    | (go_at_call 12; refine (c_add HS3.out 0 rfl HX3.out (by decide) 9 3 (r := 3) (e' := 0) (s' := a3) (by kernel_rfl) (by kernel_rfl) (by kernel_rfl)).mono ?_; rintro e w4 ⟨x4, rfl, hx, hs⟩; have HX4 := Lib.hid hx; have HS4 : Hid (St w w4 [obWh x4]) := Lib.hid hs; clear hx hs HS3 HX3)
    | (go_at_call 12; refine (c_add HS2.out 0 rfl HX2.out (by decide) 7 2 (r := 2) (e' := 0) (s' := a2) (by kernel_rfl) (by kernel_rfl) (by kernel_rfl)).mono ?_; rintro e w3 ⟨x3, rfl, hx, hs⟩; have HX3 := Lib.hid hx; have HS3 : Hid (St w w3 [obWh x3]) := Lib.hid hs; clear hx hs HS2 HX2)
    | (go_at_call 12; refine (c_add HS1.out 0 rfl HX1.out (by decide) 9 1 (r := 1) (e' := 0) (s' := a1) (by kernel_rfl) (by kernel_rfl) (by kernel_rfl)).mono ?_; rintro e w2 ⟨x2, rfl, hx, hs⟩; have HX2 := Lib.hid hx; have HS2 : Hid (St w w2 [obWh x2]) := Lib.hid hs; clear hx hs HS1 HX1)
    | (go_at_call 11; refine (c_new HS0.out 5 (by decide) (by decide)).mono ?_; rintro e w1 ⟨p, x1, rfl, hx, hs⟩; have HX1 : Hid (x1.Is p a0) := Lib.hid hx; have HS1 : Hid (St w w1 [obWh x1]) := Lib.hid hs; clear hx hs HS0))
  go_ret
  exact ⟨rfl, HS7.out.bl⟩
end Go.Proofs.Ytadhceoaoopcjaa.SL
