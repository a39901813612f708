/- Plain facts: numbers rise along the list; what Bind tells, case by case; the last place of a number. No program in sight. -/
import Derived.Test.YtgcafklieblldaaW1
import Derived.Test.YtgcafklieblldaaP3
namespace Go.Proofs.Ytgcafklieblldaa.SL
open Go.RowKit Go.Proofs.YtgcafklieblldaaW.PrintWords Go.Proofs.YtgcafklieblldaaW.PrintLast Go.Proofs.YtgcafklieblldaaW.PrintMore
def Srt (l : List Bd) : Prop := l.Pairwise fun a b => a.n < b.n
theorem Srt.snoc {l : List Bd} {g : Int} (h : Srt l) (hw : WF l g) (x : Pl) : Srt (l ++ [⟨g + 1, x⟩]) := by
  unfold Srt
  rw [List.pairwise_append]
  refine ⟨h, List.pairwise_singleton _ _, fun a ha b hb => ?_⟩
  obtain rfl := List.mem_singleton.1 hb
  have := hw.2 a ha
  show a.n < g + 1
  omega
theorem Srt.close {l : List Bd} (h : Srt l) (n : Int) : Srt (closeL l n) := by
  unfold closeL
  split
  · exact h.sublist (List.eraseIdx_sublist _ _)
  · exact h
theorem Srt.lt {l : List Bd} (h : Srt l) {i j : Nat} {x y : Bd} (hi : l[i]? = some x) (hj : l[j]? = some y) (hij : i < j) : x.n < y.n := by
  obtain ⟨h1, h2⟩ := List.getElem?_eq_some_iff.1 hi
  obtain ⟨h3, h4⟩ := List.getElem?_eq_some_iff.1 hj
  have := List.pairwise_iff_getElem.1 h i j h1 h3 hij
  rw [h2, h4] at this
  exact this
theorem Srt.one {l : List Bd} (h : Srt l) {i j : Nat} {x y : Bd} (hi : l[i]? = some x) (hj : l[j]? = some y) (e : x.n = y.n) : i = j := by
  rcases Nat.lt_trichotomy i j with hlt | heq | hgt
  · have := h.lt hi hj hlt; omega
  · exact heq
  · have := h.lt hj hi hgt; omega
/-- The last of the first k places that bears the number; -1: none. -/
def lastI (l : List Bd) (n : Int) : Nat → Int
  | 0 => -1
  | k + 1 => if (l.getD k zB).n = n then (k : Int) else lastI l n k
theorem lastI_spec (l : List Bd) (n : Int) : ∀ k, k ≤ l.length → (lastI l n k = -1 ∧ ∀ j (hj : j < l.length), j < k → l[j].n ≠ n) ∨ ∃ j, ∃ hj : j < l.length, lastI l n k = (j : Int) ∧ l[j].n = n
  | 0, _ => .inl ⟨rfl, fun j _ hjk => absurd hjk (Nat.not_lt_zero _)⟩
  | k + 1, hk => by
    have hg : l.getD k zB = l[k] := by rw [List.getD_eq_getElem?_getD, List.getElem?_eq_getElem (by omega)]; rfl
    unfold lastI
    rw [hg]
    by_cases h : l[k].n = n
    · rw [if_pos h]; exact .inr ⟨k, by omega, rfl, h⟩
    · rw [if_neg h]
      rcases lastI_spec l n k (by omega) with ⟨h1, h2⟩ | h1
      · refine .inl ⟨h1, fun j hj hjk => ?_⟩
        by_cases e : j = k
        · subst e; exact h
        · exact h2 j hj (by omega)
      · exact .inr h1
theorem lastI_all {l : List Bd} (h : Srt l) (n : Int) : lastI l n l.length = idxB l n := by
  rcases lastI_spec l n l.length (Nat.le_refl _) with ⟨h1, h2⟩ | ⟨j, hj, h1, h2⟩
  · rw [h1]
    exact (idxI_miss fun j hj => decide_eq_false (h2 j hj hj)).symm
  · rw [h1]
    refine (idxI_hit hj (decide_eq_true h2) fun i hi hij => decide_eq_false fun e => ?_).symm
    have := h.lt (List.getElem?_eq_getElem hi) (List.getElem?_eq_getElem hj) hij
    omega
theorem at_num {l : List Bd} (h : Srt l) {k : Nat} {x : Bd} (hk : l[k]? = some x) : atB l x.n = (x.p.a, x.p.port, 0) := by
  obtain ⟨hlt, hx⟩ := List.getElem?_eq_some_iff.1 hk
  unfold atB
  have : l.find? (fun s => decide (s.n = x.n)) = some x := List.find?_eq_some_iff_getElem.2 ⟨decide_eq_true rfl, k, hlt, hx, fun j hj => by
    have := h.lt (List.getElem?_eq_getElem (show j < l.length by omega)) hk hj
    simp only [Bool.not_eq_true', decide_eq_false_iff_not]
    omega⟩
  rw [this]
section
variable {most g : Int} {l : List Bd} {a : Ad} {port : Int}
theorem bS1 (h : ¬ (kindA a = 1 ∨ kindA a = 5) ∨ port < 0 ∨ 65535 < port) : bindS most g l a port = ⟨0, 0, 1, g, l⟩ := by unfold bindS; rw [if_pos h]
theorem bS2 (h1 : kindA a = 1 ∨ kindA a = 5) (h2 : port ≤ 65535) (h3 : 0 < port) (h4 : 0 < findB l ⟨a, port⟩) : bindS most g l a port = ⟨0, 0, 200, g, l⟩ := by
  unfold bindS
  rw [if_neg (fun h => by rcases h with h | h | h; exact h h1; omega; omega), if_pos ⟨h3, h4⟩]
theorem bS3 (h1 : kindA a = 1 ∨ kindA a = 5) (h2 : port ≤ 65535) (h3 : 0 ≤ port) (h4 : 0 < port → ¬ 0 < findB l ⟨a, port⟩) (h5 : most ≤ (l.length : Int)) : bindS most g l a port = ⟨0, 0, 201, g, l⟩ := by
  unfold bindS
  rw [if_neg (fun h => by rcases h with h | h | h; exact h h1; omega; omega), if_neg (fun h => h4 h.1 h.2), if_pos h5]
theorem bS4 (h1 : kindA a = 1 ∨ kindA a = 5) (h2 : port = 0) (h5 : ¬ most ≤ (l.length : Int)) (h6 : l.length ≤ 32) : bindS most g l a port = ⟨g + 1, freeB l a, 0, g + 1, l ++ [⟨g + 1, ⟨a, freeB l a⟩⟩]⟩ := by
  unfold bindS
  rw [if_neg (fun h => by rcases h with h | h | h; exact h h1; omega; omega), if_neg (fun h => by omega), if_neg h5, if_pos h2, if_neg (free_ne a h6)]
theorem bS5 (h1 : kindA a = 1 ∨ kindA a = 5) (h2 : port ≤ 65535) (h3 : 0 < port) (h4 : ¬ 0 < findB l ⟨a, port⟩) (h5 : ¬ most ≤ (l.length : Int)) : bindS most g l a port = ⟨g + 1, port, 0, g + 1, l ++ [⟨g + 1, ⟨a, port⟩⟩]⟩ := by
  unfold bindS
  rw [if_neg (fun h => by rcases h with h | h | h; exact h h1; omega; omega), if_neg (fun h => h4 h.2), if_neg h5, if_neg (by omega)]
end
end Go.Proofs.Ytgcafklieblldaa.SL
