/- The walks of cmp's functions and of the closures that Advance, Next and Cancel hand on. No condition. -/
import Derived.Test.YtadhceoaoopcjaaWF
namespace Go.Proofs.Ytadhceoaoopcjaa.SL
open Go.RowKit Go.Proofs.YtadhceoaoopcjaaW.PrintWords Go.Proofs.YtadhceoaoopcjaaW.PrintLast Go.Proofs.YtadhceoaoopcjaaW.PrintMore
def cmpI (a b : Int) : Int := if a < b then -1 else if b < a then 1 else 0
theorem isnan64_calls (a : Int) (w : World) : Calls Try.prog 48 #[.int .i64 a] w fun e w' => e = .returned (.bool false) ∧ w' = w := by
  go_enter Try.func48, Try.ntmps48
  go_wp2
  go_ret
  exact ⟨by simp, rfl⟩
theorem isnan_calls (a : Int) (w : World) : Calls Try.prog 49 #[.int .i64 a] w fun e w' => e = .returned (.bool false) ∧ w' = w := by
  go_enter Try.func49, Try.ntmps49
  go_wp2
  go_ret
  exact ⟨by simp, rfl⟩
theorem compare64_calls (a b : Int) (w : World) : Calls Try.prog 29 #[.int .i64 a, .int .i64 b] w fun e w' => e = .returned (.int .i64 (cmpI a b)) ∧ w' = w := by
  by_cases h1 : a < b
  · have HR := Lib.hid (show cmpI a b = -1 from if_pos h1)
    go_enter Try.func29, Try.ntmps29
    go_wp2_with (go_at_call 48; refine (isnan64_calls _ _).mono ?_; rintro e w1 ⟨rfl, rfl⟩)
    go_ret
    exact ⟨by rw [HR.out]; rfl, rfl⟩
  · by_cases h2 : b < a
    · have HR := Lib.hid (show cmpI a b = 1 from (if_neg h1).trans (if_pos h2))
      go_enter Try.func29, Try.ntmps29
      go_wp2_with (go_at_call 48; refine (isnan64_calls _ _).mono ?_; rintro e w1 ⟨rfl, rfl⟩)
      go_ret
      exact ⟨by rw [HR.out]; rfl, rfl⟩
    · have HR := Lib.hid (show cmpI a b = 0 from (if_neg h1).trans (if_neg h2))
      go_enter Try.func29, Try.ntmps29
      go_wp2_with (go_at_call 48; refine (isnan64_calls _ _).mono ?_; rintro e w1 ⟨rfl, rfl⟩)
      go_ret
      exact ⟨by rw [HR.out]; rfl, rfl⟩
theorem compare_calls (a b : Int) (w : World) : Calls Try.prog 30 #[.int .i64 a, .int .i64 b] w fun e w' => e = .returned (.int .i64 (cmpI a b)) ∧ w' = w := by
  by_cases h1 : a < b
  · have HR := Lib.hid (show cmpI a b = -1 from if_pos h1)
    go_enter Try.func30, Try.ntmps30
    go_wp2_with (go_at_call 49; refine (isnan_calls _ _).mono ?_; rintro e w1 ⟨rfl, rfl⟩)
    go_ret
    exact ⟨by rw [HR.out]; rfl, rfl⟩
  · by_cases h2 : b < a
    · have HR := Lib.hid (show cmpI a b = 1 from (if_neg h1).trans (if_pos h2))
      go_enter Try.func30, Try.ntmps30
      go_wp2_with (go_at_call 49; refine (isnan_calls _ _).mono ?_; rintro e w1 ⟨rfl, rfl⟩)
      go_ret
      exact ⟨by rw [HR.out]; rfl, rfl⟩
    · have HR := Lib.hid (show cmpI a b = 0 from (if_neg h1).trans (if_neg h2))
      go_enter Try.func30, Try.ntmps30
      go_wp2_with (go_at_call 49; refine (isnan_calls _ _).mono ?_; rintro e w1 ⟨rfl, rfl⟩)
      go_ret
      exact ⟨by rw [HR.out]; rfl, rfl⟩
theorem cmpI_range (a b : Int) : -1 ≤ cmpI a b ∧ cmpI a b ≤ 1 := by unfold cmpI; split <;> (try split) <;> omega
def orI (a b : Int) : Int := if a = 0 then b else a
/-- cmp.Or of two. -/
theorem or_calls (a b : Int) (B : Nat) (w : World) (h : w.heap[B]? = some (.cells #[.int .i64 a, .int .i64 b] 3 (0, 0))) :
    Calls Try.prog 28 #[.slice (some ⟨B, 0, none⟩) 2 2] w fun e w' => e = .returned (.int .i64 (orI a b)) ∧ w' = w := by
  have c0 : w.cell? ⟨B, 0, none⟩ = some (.int .i64 a) := cell_of_row _ _ 0 _ _ _ h
  have c1 : w.cell? ⟨B, 1, none⟩ = some (.int .i64 b) := cell_of_row _ _ 1 _ _ _ h
  clear h
  by_cases h1 : a = 0
  · subst h1
    have HR := Lib.hid (show orI 0 b = b from if_pos rfl)
    by_cases h2 : b = 0
    · subst h2
      go_enter Try.func28, Try.ntmps28
      go_wp2
      refine wp_loop_rounds 3 ?_
      rw [rounds_succ]
      go_wp2
      rw [rounds_succ]
      go_wp2
      rw [rounds_succ]
      go_wp2
      go_ret
      exact ⟨by rw [HR.out]; rfl, rfl⟩
    · have h3 : (b == 0) = false := by simpa using h2
      go_enter Try.func28, Try.ntmps28
      go_wp2
      refine wp_loop_rounds 3 ?_
      rw [rounds_succ]
      go_wp2
      rw [rounds_succ]
      go_wp2
      go_ret
      exact ⟨by rw [HR.out]; rfl, rfl⟩
  · have h3 : (a == 0) = false := by simpa using h1
    have HR := Lib.hid (show orI a b = a from if_neg h1)
    go_enter Try.func28, Try.ntmps28
    go_wp2
    refine wp_loop_rounds 3 ?_
    rw [rounds_succ]
    go_wp2
    go_ret
    exact ⟨by rw [HR.out]; rfl, rfl⟩
/-- Next's closure. -/
theorem nextC_calls (x y : Du) (w : World) : Calls Try.prog 35 #[.agg (dV x), .agg (dV y)] w fun e w' => e = .returned (.int .i64 (cmpI x.t y.t)) ∧ Below w.heap.size w w' := by
  have HB := Lib.hid (((Touch.refl [] w).alloc (.cells (dV x) 36)).alloc (.cells (dV y) 36)).below
  go_enter Try.func35, Try.ntmps35
  go_wp2_with (go_at_call 29; refine (compare64_calls _ _ _).mono ?_; rintro e w1 ⟨rfl, rfl⟩)
  go_ret
  exact ⟨rfl, HB.out⟩
/-- Cancel's closure: the id lies in a box. -/
theorem cancelC_calls (x : Du) (B : Nat) (id : Int) (w : World) (h : w.cell? ⟨B, 0, none⟩ = some (.int .i64 id)) : Calls Try.prog 33 #[.agg (dV x), .pointer (some ⟨B, 0, none⟩)] w fun e w' => e = .returned (.bool (x.id == id)) ∧ w' = w.alloc (.cells (dV x) 36) := by
  have hb := World.block_lt_of_cell? w _ h
  have c1 : (w.alloc (.cells (dV x) 36)).cell? ⟨B, 0, none⟩ = some (.int .i64 id) := by
    rw [World.cell?_of_block (w := w) (heap_alloc_old w _ hb)]; exact h
  clear h hb
  go_enter Try.func33, Try.ntmps33
  go_wp2
  go_ret
  exact ⟨rfl, rfl⟩
end Go.Proofs.Ytadhceoaoopcjaa.SL
