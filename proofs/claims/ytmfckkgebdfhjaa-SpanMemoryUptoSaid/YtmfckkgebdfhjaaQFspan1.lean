/- What functions of the program compute, and that they do: written by this session's program mk.py, over the kit's print. No condition. -/
import Derived.Test.YtmfckkgebdfhjaaQx0
import Derived.Test.YtmfckkgebdfhjaaQG1
namespace Go.Proofs.Ytmfckkgebdfhjaa.Q
open Go.RowKit Go.Proofs.YtmfckkgebdfhjaaW.PrintWords Go.Proofs.YtmfckkgebdfhjaaW.PrintLast Go.Proofs.YtmfckkgebdfhjaaW.PrintMore
attribute [local go_sem] max2_int min2_int max_two min_two max_three min_three max_four min_four   -- for this text's walks alone
set_option linter.unusedVariables false
set_option linter.unusedSimpArgs false

/-! ### given: mosaic/span.Has (function 23) -/
def span_Has.f (l0 : List (S24)) (a1_0 : Int) (a1_1 : Int) : Option (Bool) := some (rightB l0 && goodB ⟨a1_0, a1_1⟩ && l0.any fun x => decide (x.f0 ≤ a1_0) && decide (a1_1 ≤ x.f1))
theorem span_Has.calls (A0 : Option Addr) (c0 : Nat) (l0 : List (S24)) (a1_0 : Int) (a1_1 : Int) (r : Bool) (w : World) (hr0 : Kd.C k24 w A0 l0.length l0) (hc0 : l0.length ≤ c0) (h : span_Has.f l0 a1_0 a1_1 = some r) :
    Calls Try.prog 23 #[.slice A0 l0.length c0, .agg #[.int .i64 a1_0, .int .i64 a1_1]] w fun e w' => e = .returned (.bool r) ∧ Below w.heap.size w w' := by
  injection h with h
  subst h
  exact has_core A0 c0 l0 a1_0 a1_1 w hr0 hc0

/-! ### given: mosaic/span.Meets (function 25) -/
def span_Meets.f (l0 : List (S24)) (a1_0 : Int) (a1_1 : Int) : Option (Bool) := some (rightB l0 && goodB ⟨a1_0, a1_1⟩ && l0.any fun x => decide (x.f0 < a1_1) && decide (a1_0 < x.f1))
theorem span_Meets.calls (A0 : Option Addr) (c0 : Nat) (l0 : List (S24)) (a1_0 : Int) (a1_1 : Int) (r : Bool) (w : World) (hr0 : Kd.C k24 w A0 l0.length l0) (hc0 : l0.length ≤ c0) (h : span_Meets.f l0 a1_0 a1_1 = some r) :
    Calls Try.prog 25 #[.slice A0 l0.length c0, .agg #[.int .i64 a1_0, .int .i64 a1_1]] w fun e w' => e = .returned (.bool r) ∧ Below w.heap.size w w' := by
  injection h with h
  subst h
  exact meets_core A0 c0 l0 a1_0 a1_1 w hr0 hc0
end Go.Proofs.Ytmfckkgebdfhjaa.Q
