/- The walks of package plateau: what Below, Above and All compute, over the table that the program lays; the reference's Below, Above and Is. No condition but that the table stands in its variable. -/
import Derived.Test.YtdinkhhaomblcaaDoorRows
import Derived.WalkKit
import Derived.WalkSpells
import Derived.WalkLawsBesides
import Derived.Handy
import Derived.Lib.Hide
namespace Go.Proofs.YtdinkhhaomblcaaDoor
open Go.RowKit

def below (n : Int) : Int := if 65535 < n then 65535 else if 32000 < n then 32000 else if 17914 < n then 17914 else if 8166 < n then 8166 else if 4352 < n then 4352 else if 2002 < n then 2002 else if 1492 < n then 1492 else if 1280 < n then 1280 else if 1006 < n then 1006 else if 508 < n then 508 else if 296 < n then 296 else 68
def above (n : Int) : Int := if n < 68 then 68 else if n < 296 then 296 else if n < 508 then 508 else if n < 1006 then 1006 else if n < 1280 then 1280 else if n < 1492 then 1492 else if n < 2002 then 2002 else if n < 4352 then 4352 else if n < 8166 then 8166 else if n < 17914 then 17914 else if n < 32000 then 32000 else 65535
theorem below_0 (n : Int) (h1 : 65535 < n) : below n = 65535 := by unfold below; rw [if_pos (by omega)]
theorem below_1 (n : Int) (h0 : n ≤ 65535) (h1 : 32000 < n) : below n = 32000 := by unfold below; rw [if_neg (by omega), if_pos (by omega)]
theorem below_2 (n : Int) (h0 : n ≤ 32000) (h1 : 17914 < n) : below n = 17914 := by unfold below; rw [if_neg (by omega), if_neg (by omega), if_pos (by omega)]
theorem below_3 (n : Int) (h0 : n ≤ 17914) (h1 : 8166 < n) : below n = 8166 := by unfold below; rw [if_neg (by omega), if_neg (by omega), if_neg (by omega), if_pos (by omega)]
theorem below_4 (n : Int) (h0 : n ≤ 8166) (h1 : 4352 < n) : below n = 4352 := by unfold below; rw [if_neg (by omega), if_neg (by omega), if_neg (by omega), if_neg (by omega), if_pos (by omega)]
theorem below_5 (n : Int) (h0 : n ≤ 4352) (h1 : 2002 < n) : below n = 2002 := by unfold below; rw [if_neg (by omega), if_neg (by omega), if_neg (by omega), if_neg (by omega), if_neg (by omega), if_pos (by omega)]
theorem below_6 (n : Int) (h0 : n ≤ 2002) (h1 : 1492 < n) : below n = 1492 := by unfold below; rw [if_neg (by omega), if_neg (by omega), if_neg (by omega), if_neg (by omega), if_neg (by omega), if_neg (by omega), if_pos (by omega)]
theorem below_7 (n : Int) (h0 : n ≤ 1492) (h1 : 1280 < n) : below n = 1280 := by unfold below; rw [if_neg (by omega), if_neg (by omega), if_neg (by omega), if_neg (by omega), if_neg (by omega), if_neg (by omega), if_neg (by omega), if_pos (by omega)]
theorem below_8 (n : Int) (h0 : n ≤ 1280) (h1 : 1006 < n) : below n = 1006 := by unfold below; rw [if_neg (by omega), if_neg (by omega), if_neg (by omega), if_neg (by omega), if_neg (by omega), if_neg (by omega), if_neg (by omega), if_neg (by omega), if_pos (by omega)]
theorem below_9 (n : Int) (h0 : n ≤ 1006) (h1 : 508 < n) : below n = 508 := by unfold below; rw [if_neg (by omega), if_neg (by omega), if_neg (by omega), if_neg (by omega), if_neg (by omega), if_neg (by omega), if_neg (by omega), if_neg (by omega), if_neg (by omega), if_pos (by omega)]
theorem below_10 (n : Int) (h0 : n ≤ 508) (h1 : 296 < n) : below n = 296 := by unfold below; rw [if_neg (by omega), if_neg (by omega), if_neg (by omega), if_neg (by omega), if_neg (by omega), if_neg (by omega), if_neg (by omega), if_neg (by omega), if_neg (by omega), if_neg (by omega), if_pos (by omega)]
theorem below_11 (n : Int) (h0 : n ≤ 296) (h1 : 68 < n) : below n = 68 := by unfold below; rw [if_neg (by omega), if_neg (by omega), if_neg (by omega), if_neg (by omega), if_neg (by omega), if_neg (by omega), if_neg (by omega), if_neg (by omega), if_neg (by omega), if_neg (by omega), if_neg (by omega)]
theorem below_12 (n : Int) (h0 : n ≤ 68) : below n = 68 := by unfold below; rw [if_neg (by omega), if_neg (by omega), if_neg (by omega), if_neg (by omega), if_neg (by omega), if_neg (by omega), if_neg (by omega), if_neg (by omega), if_neg (by omega), if_neg (by omega), if_neg (by omega)]
theorem above_0 (n : Int) (h1 : n < 68) : above n = 68 := by unfold above; rw [if_pos (by omega)]
theorem above_1 (n : Int) (h0 : 68 ≤ n) (h1 : n < 296) : above n = 296 := by unfold above; rw [if_neg (by omega), if_pos (by omega)]
theorem above_2 (n : Int) (h0 : 296 ≤ n) (h1 : n < 508) : above n = 508 := by unfold above; rw [if_neg (by omega), if_neg (by omega), if_pos (by omega)]
theorem above_3 (n : Int) (h0 : 508 ≤ n) (h1 : n < 1006) : above n = 1006 := by unfold above; rw [if_neg (by omega), if_neg (by omega), if_neg (by omega), if_pos (by omega)]
theorem above_4 (n : Int) (h0 : 1006 ≤ n) (h1 : n < 1280) : above n = 1280 := by unfold above; rw [if_neg (by omega), if_neg (by omega), if_neg (by omega), if_neg (by omega), if_pos (by omega)]
theorem above_5 (n : Int) (h0 : 1280 ≤ n) (h1 : n < 1492) : above n = 1492 := by unfold above; rw [if_neg (by omega), if_neg (by omega), if_neg (by omega), if_neg (by omega), if_neg (by omega), if_pos (by omega)]
theorem above_6 (n : Int) (h0 : 1492 ≤ n) (h1 : n < 2002) : above n = 2002 := by unfold above; rw [if_neg (by omega), if_neg (by omega), if_neg (by omega), if_neg (by omega), if_neg (by omega), if_neg (by omega), if_pos (by omega)]
theorem above_7 (n : Int) (h0 : 2002 ≤ n) (h1 : n < 4352) : above n = 4352 := by unfold above; rw [if_neg (by omega), if_neg (by omega), if_neg (by omega), if_neg (by omega), if_neg (by omega), if_neg (by omega), if_neg (by omega), if_pos (by omega)]
theorem above_8 (n : Int) (h0 : 4352 ≤ n) (h1 : n < 8166) : above n = 8166 := by unfold above; rw [if_neg (by omega), if_neg (by omega), if_neg (by omega), if_neg (by omega), if_neg (by omega), if_neg (by omega), if_neg (by omega), if_neg (by omega), if_pos (by omega)]
theorem above_9 (n : Int) (h0 : 8166 ≤ n) (h1 : n < 17914) : above n = 17914 := by unfold above; rw [if_neg (by omega), if_neg (by omega), if_neg (by omega), if_neg (by omega), if_neg (by omega), if_neg (by omega), if_neg (by omega), if_neg (by omega), if_neg (by omega), if_pos (by omega)]
theorem above_10 (n : Int) (h0 : 17914 ≤ n) (h1 : n < 32000) : above n = 32000 := by unfold above; rw [if_neg (by omega), if_neg (by omega), if_neg (by omega), if_neg (by omega), if_neg (by omega), if_neg (by omega), if_neg (by omega), if_neg (by omega), if_neg (by omega), if_neg (by omega), if_pos (by omega)]
theorem above_11 (n : Int) (h0 : 32000 ≤ n) (h1 : n < 65535) : above n = 65535 := by unfold above; rw [if_neg (by omega), if_neg (by omega), if_neg (by omega), if_neg (by omega), if_neg (by omega), if_neg (by omega), if_neg (by omega), if_neg (by omega), if_neg (by omega), if_neg (by omega), if_neg (by omega)]
theorem above_12 (n : Int) (h0 : 65535 ≤ n) : above n = 65535 := by unfold above; rw [if_neg (by omega), if_neg (by omega), if_neg (by omega), if_neg (by omega), if_neg (by omega), if_neg (by omega), if_neg (by omega), if_neg (by omega), if_neg (by omega), if_neg (by omega), if_neg (by omega)]
/-- The table as the walk reads it: cell by cell. -/
def Tab (w : World) : Prop :=
  w.cell? ⟨0, 0, none⟩ = some (.int .i64 65535) ∧
  w.cell? ⟨0, 1, none⟩ = some (.int .i64 32000) ∧
  w.cell? ⟨0, 2, none⟩ = some (.int .i64 17914) ∧
  w.cell? ⟨0, 3, none⟩ = some (.int .i64 8166) ∧
  w.cell? ⟨0, 4, none⟩ = some (.int .i64 4352) ∧
  w.cell? ⟨0, 5, none⟩ = some (.int .i64 2002) ∧
  w.cell? ⟨0, 6, none⟩ = some (.int .i64 1492) ∧
  w.cell? ⟨0, 7, none⟩ = some (.int .i64 1280) ∧
  w.cell? ⟨0, 8, none⟩ = some (.int .i64 1006) ∧
  w.cell? ⟨0, 9, none⟩ = some (.int .i64 508) ∧
  w.cell? ⟨0, 10, none⟩ = some (.int .i64 296) ∧
  w.cell? ⟨0, 11, none⟩ = some (.int .i64 68)
theorem ix0 : ∀ w, (Instr.index 49 (.agg #[.int .i64 65535, .int .i64 32000, .int .i64 17914, .int .i64 8166, .int .i64 4352, .int .i64 2002, .int .i64 1492, .int .i64 1280, .int .i64 1006, .int .i64 508, .int .i64 296, .int .i64 68]) (.int .i64 0)).run Tryd.prog w = .ok (.int .i64 65535) w := fun _ => by kernel_rfl
theorem ix1 : ∀ w, (Instr.index 49 (.agg #[.int .i64 65535, .int .i64 32000, .int .i64 17914, .int .i64 8166, .int .i64 4352, .int .i64 2002, .int .i64 1492, .int .i64 1280, .int .i64 1006, .int .i64 508, .int .i64 296, .int .i64 68]) (.int .i64 1)).run Tryd.prog w = .ok (.int .i64 32000) w := fun _ => by kernel_rfl
theorem ix2 : ∀ w, (Instr.index 49 (.agg #[.int .i64 65535, .int .i64 32000, .int .i64 17914, .int .i64 8166, .int .i64 4352, .int .i64 2002, .int .i64 1492, .int .i64 1280, .int .i64 1006, .int .i64 508, .int .i64 296, .int .i64 68]) (.int .i64 2)).run Tryd.prog w = .ok (.int .i64 17914) w := fun _ => by kernel_rfl
theorem ix3 : ∀ w, (Instr.index 49 (.agg #[.int .i64 65535, .int .i64 32000, .int .i64 17914, .int .i64 8166, .int .i64 4352, .int .i64 2002, .int .i64 1492, .int .i64 1280, .int .i64 1006, .int .i64 508, .int .i64 296, .int .i64 68]) (.int .i64 3)).run Tryd.prog w = .ok (.int .i64 8166) w := fun _ => by kernel_rfl
theorem ix4 : ∀ w, (Instr.index 49 (.agg #[.int .i64 65535, .int .i64 32000, .int .i64 17914, .int .i64 8166, .int .i64 4352, .int .i64 2002, .int .i64 1492, .int .i64 1280, .int .i64 1006, .int .i64 508, .int .i64 296, .int .i64 68]) (.int .i64 4)).run Tryd.prog w = .ok (.int .i64 4352) w := fun _ => by kernel_rfl
theorem ix5 : ∀ w, (Instr.index 49 (.agg #[.int .i64 65535, .int .i64 32000, .int .i64 17914, .int .i64 8166, .int .i64 4352, .int .i64 2002, .int .i64 1492, .int .i64 1280, .int .i64 1006, .int .i64 508, .int .i64 296, .int .i64 68]) (.int .i64 5)).run Tryd.prog w = .ok (.int .i64 2002) w := fun _ => by kernel_rfl
theorem ix6 : ∀ w, (Instr.index 49 (.agg #[.int .i64 65535, .int .i64 32000, .int .i64 17914, .int .i64 8166, .int .i64 4352, .int .i64 2002, .int .i64 1492, .int .i64 1280, .int .i64 1006, .int .i64 508, .int .i64 296, .int .i64 68]) (.int .i64 6)).run Tryd.prog w = .ok (.int .i64 1492) w := fun _ => by kernel_rfl
theorem ix7 : ∀ w, (Instr.index 49 (.agg #[.int .i64 65535, .int .i64 32000, .int .i64 17914, .int .i64 8166, .int .i64 4352, .int .i64 2002, .int .i64 1492, .int .i64 1280, .int .i64 1006, .int .i64 508, .int .i64 296, .int .i64 68]) (.int .i64 7)).run Tryd.prog w = .ok (.int .i64 1280) w := fun _ => by kernel_rfl
theorem ix8 : ∀ w, (Instr.index 49 (.agg #[.int .i64 65535, .int .i64 32000, .int .i64 17914, .int .i64 8166, .int .i64 4352, .int .i64 2002, .int .i64 1492, .int .i64 1280, .int .i64 1006, .int .i64 508, .int .i64 296, .int .i64 68]) (.int .i64 8)).run Tryd.prog w = .ok (.int .i64 1006) w := fun _ => by kernel_rfl
theorem ix9 : ∀ w, (Instr.index 49 (.agg #[.int .i64 65535, .int .i64 32000, .int .i64 17914, .int .i64 8166, .int .i64 4352, .int .i64 2002, .int .i64 1492, .int .i64 1280, .int .i64 1006, .int .i64 508, .int .i64 296, .int .i64 68]) (.int .i64 9)).run Tryd.prog w = .ok (.int .i64 508) w := fun _ => by kernel_rfl
theorem ix10 : ∀ w, (Instr.index 49 (.agg #[.int .i64 65535, .int .i64 32000, .int .i64 17914, .int .i64 8166, .int .i64 4352, .int .i64 2002, .int .i64 1492, .int .i64 1280, .int .i64 1006, .int .i64 508, .int .i64 296, .int .i64 68]) (.int .i64 10)).run Tryd.prog w = .ok (.int .i64 296) w := fun _ => by kernel_rfl
theorem ix11 : ∀ w, (Instr.index 49 (.agg #[.int .i64 65535, .int .i64 32000, .int .i64 17914, .int .i64 8166, .int .i64 4352, .int .i64 2002, .int .i64 1492, .int .i64 1280, .int .i64 1006, .int .i64 508, .int .i64 296, .int .i64 68]) (.int .i64 11)).run Tryd.prog w = .ok (.int .i64 68) w := fun _ => by kernel_rfl
theorem ret_val (v u : Int) (h : v = u) : Ending.returned (.int .i64 v) = .returned (.int .i64 u) := by rw [h]

set_option maxHeartbeats 1600000 in
theorem below_any (n : Int) (w : World) (hT : Tab w) :
    Calls Tryd.prog 52 #[.int .i64 n] w fun e w' => e = .returned (.int .i64 (below n)) ∧ w = w' := by
  obtain ⟨h0, h1, h2, h3, h4, h5, h6, h7, h8, h9, h10, h11⟩ := hT
  have ix0 := ix0
  have ix1 := ix1
  have ix2 := ix2
  have ix3 := ix3
  have ix4 := ix4
  have ix5 := ix5
  have ix6 := ix6
  have ix7 := ix7
  have ix8 := ix8
  have ix9 := ix9
  have ix10 := ix10
  have ix11 := ix11
  go_enter Tryd.func52, Tryd.ntmps52
  go_wp2
  refine wp_loop_rounds 13 ?_
  repeat any_goals (rw [rounds_succ]; go_wp2)
  all_goals (go_ret; refine ⟨ret_val _ _ ?_, rfl⟩; symm; first | exact below_0 n (by omega) | exact below_1 n (by omega) (by omega) | exact below_2 n (by omega) (by omega) | exact below_3 n (by omega) (by omega) | exact below_4 n (by omega) (by omega) | exact below_5 n (by omega) (by omega) | exact below_6 n (by omega) (by omega) | exact below_7 n (by omega) (by omega) | exact below_8 n (by omega) (by omega) | exact below_9 n (by omega) (by omega) | exact below_10 n (by omega) (by omega) | exact below_11 n (by omega) (by omega) | exact below_12 n (by omega))

set_option maxHeartbeats 1600000 in
theorem above_any (n : Int) (w : World) (hT : Tab w) :
    Calls Tryd.prog 35 #[.int .i64 n] w fun e w' => e = .returned (.int .i64 (above n)) ∧ w = w' := by
  obtain ⟨h0, h1, h2, h3, h4, h5, h6, h7, h8, h9, h10, h11⟩ := hT
  go_enter Tryd.func35, Tryd.ntmps35
  go_wp2
  refine wp_loop_rounds 13 ?_
  repeat any_goals (rw [rounds_succ]; go_wp2)
  all_goals (go_ret; refine ⟨ret_val _ _ ?_, rfl⟩; symm; first | exact above_0 n (by omega) | exact above_1 n (by omega) (by omega) | exact above_2 n (by omega) (by omega) | exact above_3 n (by omega) (by omega) | exact above_4 n (by omega) (by omega) | exact above_5 n (by omega) (by omega) | exact above_6 n (by omega) (by omega) | exact above_7 n (by omega) (by omega) | exact above_8 n (by omega) (by omega) | exact above_9 n (by omega) (by omega) | exact above_10 n (by omega) (by omega) | exact above_11 n (by omega) (by omega) | exact above_12 n (by omega))

def isP (n : Int) : Bool := n == 65535 || (n == 32000 || (n == 17914 || (n == 8166 || (n == 4352 || (n == 2002 || (n == 1492 || (n == 1280 || (n == 1006 || (n == 508 || (n == 296 || n == 68))))))))))
theorem isP_iff (n : Int) : isP n = true ↔ n = 65535 ∨ n = 32000 ∨ n = 17914 ∨ n = 8166 ∨ n = 4352 ∨ n = 2002 ∨ n = 1492 ∨ n = 1280 ∨ n = 1006 ∨ n = 508 ∨ n = 296 ∨ n = 68 := by simp [isP]
theorem isP_not (n : Int) : isP n = false ↔ n ≠ 65535 ∧ n ≠ 32000 ∧ n ≠ 17914 ∧ n ≠ 8166 ∧ n ≠ 4352 ∧ n ≠ 2002 ∧ n ≠ 1492 ∧ n ≠ 1280 ∧ n ≠ 1006 ∧ n ≠ 508 ∧ n ≠ 296 ∧ n ≠ 68 := by simp [isP]
theorem ret_bool (v u : Bool) (h : v = u) : Ending.returned (.bool v) = .returned (.bool u) := by rw [h]
set_option maxHeartbeats 1600000 in
theorem is_any (n : Int) (w : World) : Calls Tryd.prog 54 #[.int .i64 n] w fun e w' => e = .returned (.bool (isP n)) ∧ w = w' := by
  go_enter Tryd.func54, Tryd.ntmps54
  go_wp2
  all_goals (go_ret; refine ⟨ret_bool _ _ ?_, rfl⟩; simp_all [isP])

/-- What has been gone through holds no plateau; a definition: the walk does not look into it. -/
def NoP (a b : Int) : Prop := ∀ q, a < q → q < b → isP q = false
theorem NoP.down {k n : Int} (h : NoP k n) (hk : isP k = false) : NoP (k - 1) n := fun q h1 h2 => by
  by_cases e : q = k
  · rw [e]; exact hk
  · exact h q (by omega) h2
theorem NoP.up {k n : Int} (h : NoP n k) (hk : isP k = false) : NoP n (k + 1) := fun q h1 h2 => by
  by_cases e : q = k
  · rw [e]; exact hk
  · exact h q h1 (by omega)
theorem NoP.far (k : Int) (h : 65535 ≤ k) (n : Int) : NoP k n := fun q h1 _ => by rw [isP_not]; omega
theorem NoP.low (k n : Int) (h : k ≤ 68) : NoP n k := fun q _ h1 => by rw [isP_not]; omega

theorem below_spec (n : Int) : 68 ≤ below n ∧ (below n = 68 ∨ isP (below n) = true) ∧ NoP (below n) n ∧ (68 < n → below n < n) := by
  by_cases c0 : 65535 < n
  · rw [below_0 n (by omega)]; refine ⟨by omega, Or.inr rfl, fun q h1 h2 => by rw [isP_not]; omega, fun _ => by omega⟩
  by_cases c1 : 32000 < n
  · rw [below_1 n (by omega) (by omega)]; refine ⟨by omega, Or.inr rfl, fun q h1 h2 => by rw [isP_not]; omega, fun _ => by omega⟩
  by_cases c2 : 17914 < n
  · rw [below_2 n (by omega) (by omega)]; refine ⟨by omega, Or.inr rfl, fun q h1 h2 => by rw [isP_not]; omega, fun _ => by omega⟩
  by_cases c3 : 8166 < n
  · rw [below_3 n (by omega) (by omega)]; refine ⟨by omega, Or.inr rfl, fun q h1 h2 => by rw [isP_not]; omega, fun _ => by omega⟩
  by_cases c4 : 4352 < n
  · rw [below_4 n (by omega) (by omega)]; refine ⟨by omega, Or.inr rfl, fun q h1 h2 => by rw [isP_not]; omega, fun _ => by omega⟩
  by_cases c5 : 2002 < n
  · rw [below_5 n (by omega) (by omega)]; refine ⟨by omega, Or.inr rfl, fun q h1 h2 => by rw [isP_not]; omega, fun _ => by omega⟩
  by_cases c6 : 1492 < n
  · rw [below_6 n (by omega) (by omega)]; refine ⟨by omega, Or.inr rfl, fun q h1 h2 => by rw [isP_not]; omega, fun _ => by omega⟩
  by_cases c7 : 1280 < n
  · rw [below_7 n (by omega) (by omega)]; refine ⟨by omega, Or.inr rfl, fun q h1 h2 => by rw [isP_not]; omega, fun _ => by omega⟩
  by_cases c8 : 1006 < n
  · rw [below_8 n (by omega) (by omega)]; refine ⟨by omega, Or.inr rfl, fun q h1 h2 => by rw [isP_not]; omega, fun _ => by omega⟩
  by_cases c9 : 508 < n
  · rw [below_9 n (by omega) (by omega)]; refine ⟨by omega, Or.inr rfl, fun q h1 h2 => by rw [isP_not]; omega, fun _ => by omega⟩
  by_cases c10 : 296 < n
  · rw [below_10 n (by omega) (by omega)]; refine ⟨by omega, Or.inr rfl, fun q h1 h2 => by rw [isP_not]; omega, fun _ => by omega⟩
  by_cases c11 : 68 < n
  · rw [below_11 n (by omega) (by omega)]; refine ⟨by omega, Or.inr rfl, fun q h1 h2 => by rw [isP_not]; omega, fun _ => by omega⟩
  rw [below_12 n (by omega)]; refine ⟨by omega, Or.inr rfl, fun q h1 h2 => by rw [isP_not]; omega, fun _ => by omega⟩
theorem above_spec (n : Int) : (n < 65535 → n < above n) ∧ isP (above n) = true ∧ NoP n (above n) := by
  by_cases c0 : n < 68
  · rw [above_0 n (by omega)]; refine ⟨fun _ => by omega, rfl, fun q h1 h2 => by rw [isP_not]; omega⟩
  by_cases c1 : n < 296
  · rw [above_1 n (by omega) (by omega)]; refine ⟨fun _ => by omega, rfl, fun q h1 h2 => by rw [isP_not]; omega⟩
  by_cases c2 : n < 508
  · rw [above_2 n (by omega) (by omega)]; refine ⟨fun _ => by omega, rfl, fun q h1 h2 => by rw [isP_not]; omega⟩
  by_cases c3 : n < 1006
  · rw [above_3 n (by omega) (by omega)]; refine ⟨fun _ => by omega, rfl, fun q h1 h2 => by rw [isP_not]; omega⟩
  by_cases c4 : n < 1280
  · rw [above_4 n (by omega) (by omega)]; refine ⟨fun _ => by omega, rfl, fun q h1 h2 => by rw [isP_not]; omega⟩
  by_cases c5 : n < 1492
  · rw [above_5 n (by omega) (by omega)]; refine ⟨fun _ => by omega, rfl, fun q h1 h2 => by rw [isP_not]; omega⟩
  by_cases c6 : n < 2002
  · rw [above_6 n (by omega) (by omega)]; refine ⟨fun _ => by omega, rfl, fun q h1 h2 => by rw [isP_not]; omega⟩
  by_cases c7 : n < 4352
  · rw [above_7 n (by omega) (by omega)]; refine ⟨fun _ => by omega, rfl, fun q h1 h2 => by rw [isP_not]; omega⟩
  by_cases c8 : n < 8166
  · rw [above_8 n (by omega) (by omega)]; refine ⟨fun _ => by omega, rfl, fun q h1 h2 => by rw [isP_not]; omega⟩
  by_cases c9 : n < 17914
  · rw [above_9 n (by omega) (by omega)]; refine ⟨fun _ => by omega, rfl, fun q h1 h2 => by rw [isP_not]; omega⟩
  by_cases c10 : n < 32000
  · rw [above_10 n (by omega) (by omega)]; refine ⟨fun _ => by omega, rfl, fun q h1 h2 => by rw [isP_not]; omega⟩
  by_cases c11 : n < 65535
  · rw [above_11 n (by omega) (by omega)]; refine ⟨fun _ => by omega, rfl, fun q h1 h2 => by rw [isP_not]; omega⟩
  rw [above_12 n (by omega)]; refine ⟨fun _ => by omega, rfl, fun q h1 h2 => by rw [isP_not]; omega⟩
theorem below_of (n k : Int) (h68 : 68 ≤ k) (hn : k < n) (hs : k = 68 ∨ isP k = true) (hp : NoP k n) : below n = k := by
  obtain ⟨b1, b2, b3, b4⟩ := below_spec n
  generalize below n = b at *
  by_cases h1 : k < b
  · have h2 := hp b h1 (b4 (by omega))
    rcases b2 with h3 | h3
    · omega
    · rw [h2] at h3; cases h3
  · by_cases h2 : b < k
    · have h3 := b3 k h2 hn
      rcases hs with hs | hs
      · omega
      · rw [h3] at hs; cases hs
    · omega
theorem above_of (n k : Int) (h0 : n < 65535) (hn : n < k) (hs : isP k = true) (hp : NoP n k) : above n = k := by
  obtain ⟨b1, b2, b3⟩ := above_spec n
  generalize above n = b at *
  by_cases h1 : b < k
  · have h2 := hp b (b1 h0) h1
    rw [b2] at h2; cases h2
  · by_cases h2 : k < b
    · have h3 := b3 k hn h2
      rw [hs] at h3; cases h3
    · omega

set_option maxHeartbeats 1600000 in
theorem rbelow_any (n : Int) (w : World) : Calls Tryd.prog 53 #[.int .i64 n] w fun e w' => e = .returned (.int .i64 (below n)) ∧ w = w' := by
  by_cases h69 : n ≤ 69
  · have hv : below n = 68 := by
      by_cases h : 68 < n
      · exact below_11 n (by omega) (by omega)
      · exact below_12 n (by omega)
    have HV := Lib.hid hv
    clear hv
    go_enter Tryd.func53, Tryd.ntmps53
    go_wp2
    go_ret; exact ⟨ret_val _ _ HV.out.symm, rfl⟩
  · have hcase : (n ≤ 65536 ∧ 69 < n) ∨ (65536 < n) := by omega
    have HN : Hid (NoP (min n 65536 - 1) n) := Lib.hid (by
      by_cases h : n ≤ 65536
      · intro q h1 h2; omega
      · exact NoP.far _ (by omega) _)
    rcases hcase with ⟨hb, hb2⟩ | hb
    all_goals
      go_enter Tryd.func53, Tryd.ntmps53
      go_wp2_with fail
      go_loop [3] (fun t => ∃ k : Int, 68 ≤ k ∧ k < n ∧ k ≤ 65535 ∧ Hid (NoP k n) ∧ t = .int .i64 k) (fun t => (intOf t).toNat)
      case atStart => exact ⟨_, by omega, by omega, by omega, Lib.hid (by have := HN.out; first | (rw [show min n 65536 = n by omega] at this; exact this) | (rw [show min n 65536 = 65536 by omega] at this; exact this)), rfl⟩
      case round =>
        obtain ⟨k, k1, k2, k3, HK, rfl⟩ := hrel
        by_cases hk : 68 < k
        · cases hp : isP k with
          | false =>
            go_wp2_with (go_at_call 54; refine (is_any _ _).mono ?_; rintro e w' ⟨rfl, rfl⟩)
            go_round
            case rel => exact ⟨k - 1, by omega, by omega, by omega, Lib.hid (HK.out.down hp), by go_num⟩
            case measure => simp [intOf]; omega
          | true =>
            have HV := Lib.hid (below_of n k k1 k2 (.inr hp) HK.out)
            go_wp2_with (go_at_call 54; refine (is_any _ _).mono ?_; rintro e w' ⟨rfl, rfl⟩)
            go_ret; exact ⟨ret_val _ _ HV.out.symm, rfl⟩
        · have hk' : k = 68 := by omega
          subst hk'
          have HV := Lib.hid (below_of n 68 k1 k2 (.inl rfl) HK.out)
          go_wp2_with fail
          go_ret; exact ⟨ret_val _ _ HV.out.symm, rfl⟩

set_option maxHeartbeats 1600000 in
theorem rabove_any (n : Int) (w : World) : Calls Tryd.prog 46 #[.int .i64 n] w fun e w' => e = .returned (.int .i64 (above n)) ∧ w = w' := by
  by_cases h69 : 65535 ≤ n
  · have HV := Lib.hid (above_12 n h69)
    go_enter Tryd.func46, Tryd.ntmps46
    go_wp2
    go_ret; exact ⟨ret_val _ _ HV.out.symm, rfl⟩
  · have hcase : n < 0 ∨ (0 ≤ n ∧ n < 65535) := by omega
    rcases hcase with hb | ⟨hb, hb2⟩
    all_goals
      go_enter Tryd.func46, Tryd.ntmps46
      go_wp2_with fail
      go_loop [3] (fun t => ∃ k : Int, 0 ≤ k ∧ n < k ∧ k ≤ 65535 ∧ Hid (NoP n k) ∧ t = .int .i64 k) (fun t => (65535 - intOf t).toNat)
      case atStart => first | exact ⟨1, by omega, by omega, by omega, Lib.hid (fun q h1 h2 => by rw [isP_not]; omega), by go_num⟩ | exact ⟨n + 1, by omega, by omega, by omega, Lib.hid (fun q h1 h2 => by rw [isP_not]; omega), by go_num⟩
      case round =>
        obtain ⟨k, k1, k2, k3, HK, rfl⟩ := hrel
        cases hp : isP k with
        | false =>
          have hne : k < 65535 := by
            by_cases e : k = 65535
            · subst e; exact absurd hp (by decide)
            · omega
          go_wp2_with (go_at_call 54; refine (is_any _ _).mono ?_; rintro e w' ⟨rfl, rfl⟩)
          go_round
          case rel => exact ⟨k + 1, by omega, by omega, by omega, Lib.hid (HK.out.up hp), by go_num⟩
          case measure => simp [intOf]; omega
        | true =>
          have HV := Lib.hid (above_of n k (by omega) k2 hp HK.out)
          go_wp2_with (go_at_call 54; refine (is_any _ _).mono ?_; rintro e w' ⟨rfl, rfl⟩)
          go_ret; exact ⟨ret_val _ _ HV.out.symm, rfl⟩
end Go.Proofs.YtdinkhhaomblcaaDoor
