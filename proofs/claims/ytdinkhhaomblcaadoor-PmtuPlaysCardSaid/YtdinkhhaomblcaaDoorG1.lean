/- The walks of floor, may. No condition. -/
import Derived.Test.YtdinkhhaomblcaaDoorOb
namespace Go.Proofs.YtdinkhhaomblcaaDoor.SL
open Go.RowKit Go.Proofs.YtdinkhhaomblcaaDoorW.PrintWords Go.Proofs.YtdinkhhaomblcaaDoorW.PrintLast Go.Proofs.YtdinkhhaomblcaaDoorW.PrintMore
theorem floor_calls (a : Ad) (w : World) : Calls Tryd.prog 38 #[.agg (aV a)] w fun e w' => e = .returned (.int .i64 (floorA a)) ∧ Below w.heap.size w w' := by
  have HB : Hid (Below w.heap.size w (w.alloc (.cells (aV a) 32))) := Lib.hid ((Touch.refl [] w).alloc _).below
  have cV := cell_V (heap_alloc_new w (.cells (aV a) 32))
  go_enter Tryd.func38, Tryd.ntmps38
  by_cases h6 : a.v = 6
  · have b6 : (a.v == 6) = true := by simpa using h6
    have HF := Lib.hid (show floorA a = 1280 from if_pos h6)
    clear h6
    go_wp2_with fail
    go_ret
    exact ⟨by rw [HF.out]; rfl, HB.out⟩
  · have b6 : (a.v == 6) = false := by simpa using h6
    have HF := Lib.hid (show floorA a = 68 from if_neg h6)
    clear h6
    go_wp2_with fail
    go_ret
    exact ⟨by rw [HF.out]; rfl, HB.out⟩
theorem may_calls (p b : Nat) (c : Ca) (now : Int) (w : World) (h : CaAt w p b c) : Calls Tryd.prog 34 #[.pointer (some ⟨p, 0, none⟩), .int .i64 now] w fun e w' => e = .returned (.bool (mayS c now)) ∧ Below w.heap.size w w' := by
  have c3 := h.cells.2.2.2.1
  have HB : Hid (Below w.heap.size w w) := Lib.hid (Below.refl _ _)
  clear h
  go_enter Tryd.func34, Tryd.ntmps34
  by_cases h1 : c.now ≤ now
  · have b1 : decide (now ≥ c.now) = true := by simpa using h1
    by_cases h2 : now ≤ 1099511627776
    · have HM : Hid (mayS c now = true) := Lib.hid (decide_eq_true ⟨h1, h2⟩)
      have b2 : decide (now ≤ 1099511627776) = true := decide_eq_true h2
      clear h1 h2
      go_wp2_with fail
      go_ret
      exact ⟨by rw [HM.out]; rfl, HB.out⟩
    · have HM : Hid (mayS c now = false) := Lib.hid (decide_eq_false fun e => h2 e.2)
      have b2 : decide (now ≤ 1099511627776) = false := decide_eq_false h2
      clear h1 h2
      go_wp2_with fail
      go_ret
      exact ⟨by rw [HM.out]; rfl, HB.out⟩
  · have b1 : decide (now ≥ c.now) = false := by simpa using h1
    have HM : Hid (mayS c now = false) := Lib.hid (decide_eq_false fun e => h1 e.1)
    clear h1
    go_wp2_with fail
    go_ret
    exact ⟨by rw [HM.out]; rfl, HB.out⟩
end Go.Proofs.YtdinkhhaomblcaaDoor.SL
