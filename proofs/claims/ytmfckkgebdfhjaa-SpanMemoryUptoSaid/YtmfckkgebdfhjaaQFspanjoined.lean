/- What functions of the program compute, and that they do: written by this session's program mk.py, over the kit's print. No condition. -/
import Derived.Test.YtmfckkgebdfhjaaQx0
import Derived.Test.YtmfckkgebdfhjaaQG3
namespace Go.Proofs.Ytmfckkgebdfhjaa.Q
open Go.RowKit Go.Proofs.YtmfckkgebdfhjaaW.PrintWords Go.Proofs.YtmfckkgebdfhjaaW.PrintLast Go.Proofs.YtmfckkgebdfhjaaW.PrintMore
attribute [local go_sem] max2_int min2_int max_two min_two max_three min_three max_four min_four   -- for this text's walks alone
set_option linter.unusedVariables false
set_option linter.unusedSimpArgs false

/-! ### given: mosaic/span.joined (function 33) -/
def span_joined.f (k : Nat) (l0 : List S24) : Option (List S24) := if l0.length < 8796093022208 then (if l0.all goodB = true then some (joinS l0) else none) else none
theorem span_joined.mono : ∀ a0 k, LeO (span_joined.f k a0) (span_joined.f (k + 1) a0) := fun _ _ => LeO.refl _
theorem span_joined.calls (k : Nat) (A0 : Option Addr) (c0 : Nat) (l0 : List (S24)) (r : List (S24)) (w : World) (hr0 : Kd.C k24 w A0 l0.length l0) (hc0 : l0.length ≤ c0) (h : span_joined.f k l0 = some r) :
    Calls Try.prog 33 #[.slice A0 l0.length c0] w fun e w' => ∃ v0_ : Value, e = .returned (v0_) ∧ Kd.R k24 24 w' w.heap.size (fun _ => True) v0_ r ∧ Below w.heap.size w w' := by
  unfold span_joined.f at h
  split at h
  · rename_i h1
    split at h
    · rename_i h2
      injection h with h
      subst h
      exact joined_calls A0 c0 l0 w hr0 h1 (fun s hs => List.all_eq_true.1 h2 s hs)
    · cases h
  · cases h
end Go.Proofs.Ytmfckkgebdfhjaa.Q
