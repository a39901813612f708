/- What the statements' own words over spans come to: plain facts on lists and numbers. No condition. -/
import Derived.Test.YtmfckkgebdfhjaaQFlaw1
import Derived.Test.YtmfckkgebdfhjaaQE
namespace Go.Proofs.Ytmfckkgebdfhjaa.Q
open Go.RowKit Go.Proofs.YtmfckkgebdfhjaaW.PrintWords Go.Proofs.YtmfckkgebdfhjaaW.PrintLast Go.Proofs.YtmfckkgebdfhjaaW.PrintMore
theorem in_l0 (l : List Sp) (hb : l.length < 4611686018427387904) (n : Int) : ∀ (d i k : Nat), i + d = l.length → d < k → mosaiclaw09_in.l0 k l n (i : Int) = some (inB (l.drop i) n) := by
  intro d
  induction d with
  | zero =>
    intro i k hi hk
    obtain ⟨k, rfl⟩ : ∃ m, k = m + 1 := ⟨k - 1, by omega⟩
    rw [drop_nil l i (by omega)]
    simp only [mosaiclaw09_in.l0]
    rw [if_neg (by omega)]; rfl
  | succ d ih =>
    intro i k hi hk
    obtain ⟨k, rfl⟩ : ∃ m, k = m + 1 := ⟨k - 1, by omega⟩
    have hlt : i < l.length := by omega
    simp only [mosaiclaw09_in.l0]
    rw [if_pos (by omega), if_pos (by omega), rdT l i hlt, wr1 i (by omega), ih (i + 1) k (by omega) (by omega), dropc l i hlt]
    unfold inB
    rw [List.any_cons]
    by_cases h1 : l[i].f0 ≤ n
    · rw [if_pos h1]
      by_cases h2 : n < l[i].f1
      · rw [if_pos h2]; simp [h1, h2]
      · rw [if_neg h2]; simp [h2]
    · rw [if_neg h1]; simp [h1]
theorem in_eval (l : List Sp) (hb : l.length < 4611686018427387904) (n : Int) (k : Nat) (hk : l.length < k) : mosaiclaw09_in.f k l n = some (inB l n) := by
  have := in_l0 l hb n l.length 0 k (by omega) hk
  unfold mosaiclaw09_in.f
  rw [show (0 : Int) = ((0 : Nat) : Int) from rfl, this]; rfl
theorem rising_l0 (l : List Sp) (hb : l.length < 4611686018427387904) : ∀ (d i k : Nat), i + d = l.length → d < k → mosaiclaw09_rising.l0 k l (i : Int) = some (rightFrom (prevTo l i) (l.drop i)) := by
  intro d
  induction d with
  | zero =>
    intro i k hi hk
    obtain ⟨k, rfl⟩ : ∃ m, k = m + 1 := ⟨k - 1, by omega⟩
    rw [drop_nil l i (by omega)]
    simp only [mosaiclaw09_rising.l0]
    rw [if_neg (by omega)]; rfl
  | succ d ih =>
    intro i k hi hk
    obtain ⟨k, rfl⟩ : ∃ m, k = m + 1 := ⟨k - 1, by omega⟩
    have hlt : i < l.length := by omega
    have hn := ih (i + 1) k (by omega) (by omega)
    have hp1 : prevTo l (i + 1) = l[i].f1 := by simp [prevTo, List.getD_eq_getElem?_getD, List.getElem?_eq_getElem hlt]
    rw [hp1] at hn
    simp only [mosaiclaw09_rising.l0]
    rw [if_pos (by omega), if_pos (by omega), rdT l i hlt, wr1 i (by omega), hn, dropc l i hlt]
    simp only [rightFrom]
    by_cases h1 : l[i].f0 < 0
    · rw [if_pos h1]
      have : goodB l[i] = false := by rw [Bool.eq_false_iff, ne_eq, goodB_iff]; omega
      simp [this]
    · rw [if_neg h1]
      by_cases h2 : l[i].f1 > 65535
      · rw [if_pos h2]
        have : goodB l[i] = false := by rw [Bool.eq_false_iff, ne_eq, goodB_iff]; omega
        simp [this]
      · rw [if_neg h2]
        by_cases h3 : l[i].f0 ≥ l[i].f1
        · rw [if_pos h3]
          have : goodB l[i] = false := by rw [Bool.eq_false_iff, ne_eq, goodB_iff]; omega
          simp [this]
        · rw [if_neg h3]
          have hg : goodB l[i] = true := by rw [goodB_iff]; omega
          rw [hg, Bool.and_true]
          by_cases h0 : i = 0
          · subst h0
            rw [if_neg (by omega)]
            have : decide (prevTo l 0 < l[0].f0) = true := by simp [prevTo]; omega
            rw [this, Bool.true_and]
          · have hw2 : wrap64 ((i : Int) - 1) = ((i - 1 : Nat) : Int) := by unfold wrap64; omega
            have hr2 : rd_T24 l ((i - 1 : Nat) : Int) = l.getD (i - 1) z24 := by simp [rd_T24]
            rw [if_pos (by omega), hw2, if_pos (by omega), if_pos (by omega), hr2]
            have hpp : prevTo l i = (l.getD (i - 1) z24).f1 := by simp [prevTo, h0]
            rw [hpp]
            by_cases hle : l[i].f0 ≤ (l.getD (i - 1) z24).f1
            · rw [if_pos hle]
              have : decide ((l.getD (i - 1) z24).f1 < l[i].f0) = false := by simp only [decide_eq_false_iff_not]; omega
              rw [this]; rfl
            · rw [if_neg hle]
              have : decide ((l.getD (i - 1) z24).f1 < l[i].f0) = true := by simp only [decide_eq_true_eq]; omega
              rw [this, Bool.true_and]
theorem rising_eval (l : List Sp) (hb : l.length < 4611686018427387904) (k : Nat) (hk : l.length < k) : mosaiclaw09_rising.f k l = some (rightB l) := by
  have := rising_l0 l hb l.length 0 k (by omega) hk
  unfold mosaiclaw09_rising.f
  rw [show (0 : Int) = ((0 : Nat) : Int) from rfl, this]; rfl
theorem near_l0 (l : List Sp) : ∀ (d i k : Nat) (out : List Int), 200 ≤ i + d → d < k → out.length + 4 * d ≤ 100000 → ∃ L, mosaiclaw09_near.l0 k l out (i : Int) = some L ∧ L.length ≤ out.length + 4 * d := by
  intro d
  induction d with
  | zero =>
    intro i k out hi hk h0
    obtain ⟨k, rfl⟩ : ∃ m, k = m + 1 := ⟨k - 1, by omega⟩
    refine ⟨out, ?_, by omega⟩
    simp only [mosaiclaw09_near.l0]
    split
    · rw [if_neg (by omega)]
    · rfl
  | succ d ih =>
    intro i k out hi hk h0
    obtain ⟨k, rfl⟩ : ∃ m, k = m + 1 := ⟨k - 1, by omega⟩
    by_cases hlt : i < l.length ∧ i < 200
    · obtain ⟨L, e, hL⟩ := ih (i + 1) k (out ++ [(rd_T24 l (i : Int)).f0, wrap64 ((rd_T24 l (i : Int)).f0 - 1), (rd_T24 l (i : Int)).f1, wrap64 ((rd_T24 l (i : Int)).f1 - 1)]) (by omega) (by omega) (by simp; omega)
      refine ⟨L, ?_, by simp at hL; omega⟩
      simp only [mosaiclaw09_near.l0]
      rw [if_pos (by omega), if_pos (by omega), if_pos (by omega)]
      simp only [Option.bind_some]
      rw [if_pos (by simp; omega), wr1 i (by omega)]
      exact e
    · refine ⟨out, ?_, by omega⟩
      simp only [mosaiclaw09_near.l0]
      split
      · rw [if_neg (by omega)]
      · rfl
theorem near_eval (l : List Sp) (a b n : Int) (k : Nat) (hk : 200 < k) : ∃ L, mosaiclaw09_near.f k l a b n = some L ∧ L.length ≤ 805 := by
  obtain ⟨L, e, hL⟩ := near_l0 l 200 0 k [n, a, wrap64 (a - 1), b, wrap64 (b - 1)] (by omega) hk (by simp)
  refine ⟨L, ?_, by simp at hL; omega⟩
  unfold mosaiclaw09_near.f
  exact e
end Go.Proofs.Ytmfckkgebdfhjaa.Q
