/- What functions of the program compute, and that they do: written by this session's program mk.py, over the kit's print. No condition. -/
import Derived.Test.YtmfckkgebdfhjaaQx0
import Derived.Test.YtmfckkgebdfhjaaQFspanjoined
import Derived.Test.YtmfckkgebdfhjaaQG4
namespace Go.Proofs.Ytmfckkgebdfhjaa.Q
open Go.RowKit Go.Proofs.YtmfckkgebdfhjaaW.PrintWords Go.Proofs.YtmfckkgebdfhjaaW.PrintLast Go.Proofs.YtmfckkgebdfhjaaW.PrintMore
attribute [local go_sem] max2_int min2_int max_two min_two max_three min_three max_four min_four   -- for this text's walks alone
set_option linter.unusedVariables false
set_option linter.unusedSimpArgs false

/-! ### given: mosaic/span.Add (function 17) -/
def span_Add.f (k : Nat) (l0 : List (S24)) (a1_0 : Int) (a1_1 : Int) : Option ((List (S24)) × Int) := if rightB l0 = true then (if goodB ⟨a1_0, a1_1⟩ = true then (if l0.length + 1 < 8796093022208 then some (joinS (l0 ++ [⟨a1_0, a1_1⟩]), 0) else none) else some ([], 1)) else some ([], 1)
theorem span_Add.mono : ∀ a0 a1 a2 k, LeO (span_Add.f k a0 a1 a2) (span_Add.f (k + 1) a0 a1 a2) := fun _ _ _ _ => LeO.refl _
theorem span_Add.calls (k : Nat) (A0 : Option Addr) (c0 : Nat) (l0 : List (S24)) (a1_0 : Int) (a1_1 : Int) (r1 : List (S24)) (r2 : Int) (w : World) (hr0 : Kd.C k24 w A0 l0.length l0) (hc0 : l0.length ≤ c0) (h : span_Add.f k l0 a1_0 a1_1 = some (r1, r2)) :
    Calls Try.prog 17 #[.slice A0 l0.length c0, .agg #[.int .i64 a1_0, .int .i64 a1_1]] w fun e w' => ∃ v0_ : Value, e = .returned (.tuple #[v0_, .int .i64 r2]) ∧ Kd.R k24 24 w' w.heap.size (fun _ => True) v0_ r1 ∧ Below w.heap.size w w' := by
  unfold span_Add.f at h
  by_cases hR : rightB l0 = true
  · rw [if_pos hR] at h
    by_cases hG : goodB ⟨a1_0, a1_1⟩ = true
    · rw [if_pos hG] at h
      split at h
      · rename_i h1
        injection h with h
        injection h with e1 e2
        subst e1
        subst e2
        exact add_taken A0 c0 l0 a1_0 a1_1 w hr0 hc0 hR hG h1
      · cases h
    · rw [if_neg hG] at h
      injection h with h
      injection h with e1 e2
      subst e1
      subst e2
      refine (add_refused A0 c0 l0 a1_0 a1_1 w hr0 hc0 (by simp [hR, hG])).mono ?_
      rintro e w' ⟨rfl, hb⟩
      exact ⟨_, rfl, Kd.R_nil _ _ _ _ _, hb⟩
  · rw [if_neg hR] at h
    injection h with h
    injection h with e1 e2
    subst e1
    subst e2
    refine (add_refused A0 c0 l0 a1_0 a1_1 w hr0 hc0 (by simp [hR])).mono ?_
    rintro e w' ⟨rfl, hb⟩
    exact ⟨_, rfl, Kd.R_nil _ _ _ _ _, hb⟩
end Go.Proofs.Ytmfckkgebdfhjaa.Q
