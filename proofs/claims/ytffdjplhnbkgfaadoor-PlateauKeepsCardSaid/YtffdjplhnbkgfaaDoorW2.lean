/- The walks of All and of the statements' known and PlateauAsks, PlateauEnds, over the table that the program lays. -/
import Derived.Test.YtffdjplhnbkgfaaDoorW1
namespace Go.Proofs.YtffdjplhnbkgfaaDoor
open Go.RowKit

def cells12 : Array Value := #[.int .i64 65535, .int .i64 32000, .int .i64 17914, .int .i64 8166, .int .i64 4352, .int .i64 2002, .int .i64 1492, .int .i64 1280, .int .i64 1006, .int .i64 508, .int .i64 296, .int .i64 68]
theorem Tab.cells {w : World} (h : Tab w) (i : Nat) (hi : i < 12) : ∃ v, w.cell? ⟨0, i, none⟩ = some v := by
  obtain ⟨h0, h1, h2, h3, h4, h5, h6, h7, h8, h9, h10, h11⟩ := h
  match i, hi with
  | 0, _ => exact ⟨_, h0⟩
  | 1, _ => exact ⟨_, h1⟩
  | 2, _ => exact ⟨_, h2⟩
  | 3, _ => exact ⟨_, h3⟩
  | 4, _ => exact ⟨_, h4⟩
  | 5, _ => exact ⟨_, h5⟩
  | 6, _ => exact ⟨_, h6⟩
  | 7, _ => exact ⟨_, h7⟩
  | 8, _ => exact ⟨_, h8⟩
  | 9, _ => exact ⟨_, h9⟩
  | 10, _ => exact ⟨_, h10⟩
  | 11, _ => exact ⟨_, h11⟩
theorem Tab.lt {w : World} (h : Tab w) : 0 < w.heap.size := by
  obtain ⟨v, hv⟩ := h.cells 0 (by omega)
  exact World.block_lt_of_cell? w _ hv
theorem Tab.below {w w' : World} (h : Tab w) (hb : Below w.heap.size w w') : Tab w' := by
  have hl := h.lt
  have hc : ∀ i, w'.cell? ⟨0, i, none⟩ = w.cell? ⟨0, i, none⟩ := fun i => hb.cell (p := ⟨0, i, none⟩) hl
  unfold Tab at *
  simp only [hc]
  exact h

theorem made12 : ∀ w : World, (Instr.makeSlice 25 (.int .i64 12) (.int .i64 12)).run Tryd.prog w = .ok (.slice (some ⟨w.heap.size, 0, none⟩) 12 12) (w.alloc (.cells #[.int .i64 0, .int .i64 0, .int .i64 0, .int .i64 0, .int .i64 0, .int .i64 0, .int .i64 0, .int .i64 0, .int .i64 0, .int .i64 0, .int .i64 0, .int .i64 0] 3)) := fun _ => by kernel_rfl
set_option maxHeartbeats 1600000 in
theorem all_any (w : World) (hT : Tab w) :
    Calls Tryd.prog 12 #[] w fun e w' => e = .returned (.slice (some ⟨w.heap.size, 0, none⟩) 12 12) ∧ w' = w.alloc (.cells cells12 3) := by
  have hsz := hT.lt
  obtain ⟨h0, h1, h2, h3, h4, h5, h6, h7, h8, h9, h10, h11⟩ := hT
  have ix0 := ix0
  have ix1 := ix1
  have ix2 := ix2
  have ix3 := ix3
  have ix4 := ix4
  have ix5 := ix5
  have ix6 := ix6
  have ix7 := ix7
  have ix8 := ix8
  have ix9 := ix9
  have ix10 := ix10
  have ix11 := ix11
  have mk := made12
  go_enter Tryd.func12, Tryd.ntmps12
  go_wp2
  refine wp_loop_rounds 13 ?_
  repeat any_goals (rw [rounds_succ]; go_wp2)
  go_ret
  exact ⟨rfl, rfl⟩

theorem b1500 : below 1500 = 1492 := by decide
theorem a1500 : above 1500 = 2002 := by decide
set_option maxHeartbeats 1600000 in
theorem known_any (w : World) (hT : Tab w) :
    Calls Tryd.prog 7 #[] w fun e w' => e = .returned (.bool true) ∧ w' = w.alloc (.cells cells12 3) := by
  have b := b1500
  have a := a1500
  go_enter Tryd.func7, Tryd.ntmps7
  go_wp2_with (first | (go_at_call 8; refine (below_any _ _ hT).mono ?_; rintro e w' ⟨rfl, rfl⟩) | (go_at_call 10; refine (above_any _ _ hT).mono ?_; rintro e w' ⟨rfl, rfl⟩) | (go_at_call 12; refine (all_any _ hT).mono ?_; rintro e w' ⟨rfl, rfl⟩))
  go_ret
  exact ⟨rfl, rfl⟩

set_option maxHeartbeats 1600000 in
theorem asks_any (n : Int) (w : World) (hT : Tab w) :
    Calls Tryd.prog 3 #[.int .i64 n] w fun e w' => e = .returned (.bool true) ∧ Below w.heap.size w w' := by
  have hb1 : Below w.heap.size w (w.alloc (.cells cells12 3)) := (Below.refl _ _).alloc (Nat.le_refl _) _
  have hT1 := hT.below hb1
  have hi1 : (below n == below n) = true := by simp
  have hi2 : (above n == above n) = true := by simp
  go_enter Tryd.func3, Tryd.ntmps3
  go_wp2_with (first | (go_at_call 7; refine (known_any _ hT).mono ?_; rintro e w' ⟨rfl, rfl⟩) | (go_at_call 8; refine (below_any _ _ hT1).mono ?_; rintro e w' ⟨rfl, rfl⟩) | (go_at_call 10; refine (above_any _ _ hT1).mono ?_; rintro e w' ⟨rfl, rfl⟩) | (go_at_call 9; refine (rbelow_any _ _).mono ?_; rintro e w' ⟨rfl, rfl⟩) | (go_at_call 11; refine (rabove_any _ _).mono ?_; rintro e w' ⟨rfl, rfl⟩))
  go_ret
  exact ⟨rfl, hb1⟩

/-- k steps down, up. -/
def down : Nat → Int → Int
  | 0, n => n
  | k + 1, n => below (down k n)
def up : Nat → Int → Int
  | 0, n => n
  | k + 1, n => above (up k n)
set_option maxHeartbeats 1600000 in
theorem ends_any (n : Int) (w : World) (hT : Tab w) (hd : below (down 12 n) = 68 ∧ down 12 n = 68) (hu : above (up 12 n) = 65535 ∧ up 12 n = 65535) :
    Calls Tryd.prog 5 #[.int .i64 n] w fun e w' => e = .returned (.bool true) ∧ Below w.heap.size w w' := by
  have hb1 : Below w.heap.size w (w.alloc (.cells cells12 3)) := (Below.refl _ _).alloc (Nat.le_refl _) _
  have hT1 := hT.below hb1
  have HD := Lib.hid hd
  have HU := Lib.hid hu
  clear hd hu
  go_enter Tryd.func5, Tryd.ntmps5
  go_wp2_with fail
  go_loop [3, 4, 5] (fun a b i => ∃ k : Nat, k ≤ 12 ∧ i = .int .i64 k ∧ a = .int .i64 (down k n) ∧ b = .int .i64 (up k n)) (fun _ _ i => (12 - intOf i).toNat)
  case atStart => exact ⟨0, by omega, rfl, rfl, rfl⟩
  case round =>
    obtain ⟨k, hk, rfl, rfl, rfl⟩ := hrel
    by_cases hlt : k < 12
    · go_wp2_with (first | (go_at_call 8; refine (below_any _ _ hT).mono ?_; rintro e w' ⟨rfl, rfl⟩) | (go_at_call 10; refine (above_any _ _ hT).mono ?_; rintro e w' ⟨rfl, rfl⟩))
      go_round
      case rel => exact ⟨k + 1, by omega, by go_num, rfl, rfl⟩
      case measure => simp [intOf]; omega
    · obtain rfl : k = 12 := by omega
      obtain ⟨g1, g2⟩ := HD.out
      obtain ⟨g3, g4⟩ := HU.out
      rw [g2] at *
      rw [g4] at *
      go_wp2_with (first | (go_at_call 7; refine (known_any _ hT).mono ?_; rintro e w' ⟨rfl, rfl⟩) | (go_at_call 8; refine (below_any _ _ hT1).mono ?_; rintro e w' ⟨rfl, rfl⟩) | (go_at_call 10; refine (above_any _ _ hT1).mono ?_; rintro e w' ⟨rfl, rfl⟩))
      go_ret
      exact ⟨rfl, hb1⟩
end Go.Proofs.YtffdjplhnbkgfaaDoor
