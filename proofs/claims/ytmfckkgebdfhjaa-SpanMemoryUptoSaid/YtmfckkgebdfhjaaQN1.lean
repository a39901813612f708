/- Each answer of the program over spans: a plain list or number. No condition. -/
import Derived.Test.YtmfckkgebdfhjaaQS2
namespace Go.Proofs.Ytmfckkgebdfhjaa.Q
open Go.RowKit Go.Proofs.YtmfckkgebdfhjaaW.PrintWords Go.Proofs.YtmfckkgebdfhjaaW.PrintLast Go.Proofs.YtmfckkgebdfhjaaW.PrintMore
def addA (l : List Sp) (s : Sp) : List Sp × Int := if (rightB l && goodB s) = true then (joinS (l ++ [s]), 0) else ([], 1)
def cutA (l : List Sp) (s : Sp) : List Sp × Int := if (rightB l && goodB s) = true then (cutS l s, 0) else ([], 1)
def holesB (l : List Sp) (en : Int) : List Sp × Int := if (rightB l && (decide (0 ≤ en) && decide (en ≤ 65535))) = true then (holesA 0 l en, 0) else ([], 1)
def sizeA (l : List Sp) : Int := if rightB l = true then sizeS l else 0
def hasA (l : List Sp) (s : Sp) : Bool := rightB l && goodB s && l.any fun x => decide (x.f0 ≤ s.f0) && decide (s.f1 ≤ x.f1)
def meetsA (l : List Sp) (s : Sp) : Bool := rightB l && goodB s && l.any fun x => decide (x.f0 < s.f1) && decide (s.f0 < x.f1)
/-! ### the program's -/
theorem add_evalA (l : List Sp) (hl : l.length ≤ 5000000) (a b : Int) (k : Nat) : span_Add.f k l a b = some (addA l ⟨a, b⟩) := by
  unfold span_Add.f addA
  cases rightB l <;> cases goodB ⟨a, b⟩ <;> simp
  omega
theorem cut_evalA (l : List Sp) (hl : l.length ≤ 5000000) (a b : Int) (k : Nat) (hk : l.length + 1 < k) : span_Cut.f k l a b = some (cutA l ⟨a, b⟩) := by
  unfold cutA
  cases h1 : rightB l with
  | false =>
    unfold span_Cut.f
    rw [right_eval l (by omega) k (by omega), h1]
    obtain ⟨k, rfl⟩ : ∃ m, k = m + 1 := ⟨k - 1, by omega⟩
    simp [span_Cut.j0]
  | true =>
    cases h2 : goodB ⟨a, b⟩ with
    | false =>
      unfold span_Cut.f
      rw [right_eval l (by omega) k (by omega), h1]
      obtain ⟨k, rfl⟩ : ∃ m, k = m + 1 := ⟨k - 1, by omega⟩
      rw [good_eval, h2]
      simp [span_Cut.j0]
    | true =>
      rw [cut_eval l h1 a b h2 k hk]
      rfl
theorem holes_evalA (l : List Sp) (hl : l.length ≤ 5000000) (en : Int) (k : Nat) (hk : l.length + 1 < k) : span_Holes.f k l en = some (holesB l en) := by
  unfold holesB
  cases h1 : rightB l with
  | false =>
    unfold span_Holes.f
    rw [right_eval l (by omega) k (by omega), h1]
    obtain ⟨k, rfl⟩ : ∃ m, k = m + 1 := ⟨k - 1, by omega⟩
    simp [span_Holes.j0]
  | true =>
    by_cases c : 0 ≤ en ∧ en ≤ 65535
    · rw [holes_eval l h1 en c.1 c.2 k hk, decide_eq_true c.1, decide_eq_true c.2]
      rfl
    · rw [holes_refused l h1 en (by omega) k hk]
      have : (decide (0 ≤ en) && decide (en ≤ 65535)) = false := by
        rw [Bool.eq_false_iff]; simp; omega
      rw [this]
      rfl
theorem size_evalA (l : List Sp) (hl : l.length ≤ 5000000) (k : Nat) (hk : l.length < k) : span_Size.f k l = some (sizeA l) := by
  unfold sizeA
  cases h1 : rightB l with
  | false =>
    unfold span_Size.f
    rw [right_eval l (by omega) k hk, h1]
    rfl
  | true => rw [size_eval l h1 k hk]; rfl
theorem all_one {s : Sp} (h : goodB s = true) : ∀ x ∈ [s], goodB x = true := fun x hx => by rw [List.mem_singleton.1 hx]; exact h
/-- What a right list covers whole stands in one span of it. -/
theorem one_holds : ∀ (l : List Sp) (c a b : Int), rightFrom c l = true → a < b → (∀ n, a ≤ n → n < b → inS l n) → ∃ x, x ∈ l ∧ x.f0 ≤ a ∧ b ≤ x.f1
  | [], _, a, b, _, h, hc => absurd (hc a (by omega) h) (inS_nil _)
  | x :: l, c, a, b, hr, h, hc => by
    rw [rightFrom_cons] at hr
    obtain ⟨h1, h2, h3⟩ := hr
    rcases (inS_cons _ _ _).1 (hc a (by omega) h) with i | i
    · rcases Int.lt_or_le x.f1 b with c1 | c1
      · exfalso
        rcases (inS_cons _ _ _).1 (hc x.f1 (by omega) c1) with j | j
        · omega
        · have := rightFrom_lt h3 j; omega
      · exact ⟨x, List.mem_cons_self, i.1, c1⟩
    · have hlt := rightFrom_lt h3 i
      obtain ⟨y, hy, e⟩ := one_holds l x.f1 a b h3 h (fun n n1 n2 => by
        rcases (inS_cons _ _ _).1 (hc n n1 n2) with j | j
        · omega
        · exact j)
      exact ⟨y, List.mem_cons_of_mem _ hy, e⟩
end Go.Proofs.Ytmfckkgebdfhjaa.Q
