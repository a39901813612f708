/- The walk of the document's Put where the piece may not come. No condition. -/
import Derived.Test.YtdlgocieecfpbaaR4
namespace Go.Proofs.Ytdlgocieecfpbaa.Q
open Go.RowKit Go.Proofs.YtdlgocieecfpbaaW.PrintWords Go.Proofs.YtdlgocieecfpbaaW.PrintLast Go.Proofs.YtdlgocieecfpbaaW.PrintMore Go.Proofs.Ytdlgocieecfpbaa.SL

set_option maxHeartbeats 2000000 in
set_option maxRecDepth 100000 in
theorem rput_no (q t : Nat) (bits : List Bool) (ends top off n : Int) (more : Bool) (w : World) (hR : RefAt w q t bits ends top) (he : 0 ≤ ends ∧ ends ≤ 65536) (hno : rmayA ends top off n more = false) :
    Calls Try.prog 15 #[.pointer (some ⟨q, 0, none⟩), .int .i64 off, .int .i64 n, .bool more] w fun e w' => e = .returned (.tuple #[.slice none 0 0, .int .i64 1]) ∧ w = w' := by
  have c1 := hR.c1
  have c2 := hR.c2
  obtain ⟨he0, he1⟩ := he
  clear hR
  by_cases a0 : off < 0
  · clear hno
    go_enter Try.func15, Try.ntmps15
    go_wp2
    go_ret2
    exact ⟨rfl, rfl⟩
  by_cases a1 : n < 1
  · clear hno
    go_enter Try.func15, Try.ntmps15
    go_wp2
    go_ret2
    exact ⟨rfl, rfl⟩
  by_cases a2 : 65535 < off
  · clear hno
    go_enter Try.func15, Try.ntmps15
    go_wp2
    go_ret2
    exact ⟨rfl, rfl⟩
  by_cases a3 : 65535 < n
  · clear hno
    go_enter Try.func15, Try.ntmps15
    go_wp2
    go_ret2
    exact ⟨rfl, rfl⟩
  have b0 : 0 ≤ off := by omega
  have b1 : 1 ≤ n := by omega
  have b2 : off ≤ 65535 := by omega
  have b3 : n ≤ 65535 := by omega
  by_cases a4 : 65535 < off + n
  · clear hno a0 a1 a2 a3
    go_enter Try.func15, Try.ntmps15
    go_wp2
    go_ret2
    exact ⟨rfl, rfl⟩
  have b4 : off + n ≤ 65535 := by omega
  have hk : (0 < ends ∧ more = true ∧ ends - 1 < off + n) ∨ (0 < ends ∧ more = false ∧ off + n ≠ ends - 1) ∨ (ends ≤ 0 ∧ more = false ∧ off + n < top) := by
    unfold rmayA at hno
    rw [if_neg (by omega)] at hno
    split at hno
    · cases more with
      | true => rw [if_pos rfl, decide_eq_false_iff_not] at hno; exact .inl ⟨by assumption, rfl, by omega⟩
      | false => rw [if_neg (by simp), decide_eq_false_iff_not] at hno; exact .inr (.inl ⟨by assumption, rfl, hno⟩)
    · cases more with
      | true => cases hno
      | false => rw [Bool.false_or, decide_eq_false_iff_not] at hno; exact .inr (.inr ⟨by omega, rfl, by omega⟩)
  clear hno a0 a1 a2 a3 a4
  rcases hk with ⟨k1, rfl, k2⟩ | ⟨k1, rfl, k2⟩ | ⟨k1, rfl, k2⟩
  all_goals
    first | (have k3 : (off + n != ends - 1) = true := by (rw [bne_iff_ne]; exact k2)); clear k2 | skip
    go_enter Try.func15, Try.ntmps15
    go_wp2
    go_ret2
    exact ⟨rfl, rfl⟩
end Go.Proofs.Ytdlgocieecfpbaa.Q
