/- The plain theory of cutting and of holes: what they cover, that they are right, how large they are. No condition. -/
import Derived.Test.YtmfckkgebdfhjaaQE
namespace Go.Proofs.Ytmfckkgebdfhjaa.Q
open Go.RowKit Go.Proofs.YtmfckkgebdfhjaaW.PrintWords Go.Proofs.YtmfckkgebdfhjaaW.PrintLast Go.Proofs.YtmfckkgebdfhjaaW.PrintMore

theorem mn_cases (a b : Int) : (b < a ∧ mn a b = b) ∨ (a ≤ b ∧ mn a b = a) := by unfold mn; split <;> omega
theorem sizeS_append (a b : List Sp) : sizeS (a ++ b) = sizeS a + sizeS b := by
  induction a with
  | nil => simp [sizeS]
  | cons x a ih => rw [List.cons_append]; simp only [sizeS, ih]; omega
theorem holesA_spec (en : Int) (he : en ≤ 65535) : ∀ (l : List Sp) (a : Int), 0 ≤ a → rightFrom (a - 1) l = true →
    rightFrom (a - 1) (holesA a l en) = true ∧ ∀ n, inS (holesA a l en) n ↔ (a ≤ n ∧ n < en) ∧ ¬ inS l n
  | [], a, ha, _ => by
    unfold holesA
    by_cases h : a < en
    · rw [if_pos h]
      refine ⟨by rw [rightFrom_cons, goodB_iff]; simp only; exact ⟨by omega, by omega, rfl⟩, fun n => ?_⟩
      rw [inS_cons]
      simp only [inS_nil, or_false, not_false_eq_true, and_true]
    · rw [if_neg h]
      refine ⟨rfl, fun n => ?_⟩
      simp only [inS_nil, false_iff, not_false_eq_true, and_true]
      omega
  | s :: l, a, ha, hr => by
    rw [rightFrom_cons] at hr
    obtain ⟨h1, h2, h3⟩ := hr
    have hg := (goodB_iff s).1 h2
    obtain ⟨i1, i2⟩ := holesA_spec en he l s.f1 (by omega) (rightFrom_mono (by omega) h3)
    unfold holesA
    have hm := mn_cases s.f0 en
    by_cases h : a < mn s.f0 en
    · rw [if_pos h]
      refine ⟨?_, fun n => ?_⟩
      · rw [List.singleton_append, rightFrom_cons, goodB_iff]
        simp only
        exact ⟨by omega, by omega, rightFrom_mono (by omega) i1⟩
      · rw [List.singleton_append, inS_cons, i2 n, inS_cons]
        simp only
        by_cases hp : inS l n
        · have := rightFrom_lt h3 hp
          simp only [hp, or_true, not_true_eq_false, and_false, iff_false, or_false]
          omega
        · simp only [hp, or_false, not_false_eq_true, and_true]
          omega
    · rw [if_neg h]
      refine ⟨?_, fun n => ?_⟩
      · rw [List.nil_append]; exact rightFrom_mono (by omega) i1
      · rw [List.nil_append, i2 n, inS_cons]
        by_cases hp : inS l n
        · simp only [hp, or_true, not_true_eq_false, and_false]
        · simp only [hp, or_false, not_false_eq_true, and_true]
          omega
theorem cutS_spec (s : Sp) (hs : s.f0 < s.f1) : ∀ (l : List Sp) (a : Int), rightFrom a l = true → rightFrom a (cutS l s) = true ∧ ∀ n, inS (cutS l s) n ↔ inS l n ∧ ¬ (s.f0 ≤ n ∧ n < s.f1)
  | [], a, _ => ⟨rfl, fun n => by simp [cutS, inS_nil]⟩
  | x :: l, a, hr => by
    rw [rightFrom_cons] at hr
    obtain ⟨h1, h2, h3⟩ := hr
    have hg := (goodB_iff x).1 h2
    obtain ⟨i1, i2⟩ := cutS_spec s hs l x.f1 h3
    have e : cutS (x :: l) s = cutF s x ++ cutS l s := rfl
    rw [e]
    unfold cutF
    have hm := mn_cases x.f1 s.f0
    have hM := mx_cases x.f0 s.f1
    by_cases c1 : x.f0 < mn x.f1 s.f0
    · rw [if_pos c1]
      by_cases c2 : mx x.f0 s.f1 < x.f1
      · rw [if_pos c2]
        refine ⟨?_, fun n => ?_⟩
        · simp only [List.cons_append, List.nil_append, rightFrom_cons, goodB_iff]
          exact ⟨by omega, by omega, by omega, by omega, i1⟩
        · simp only [List.cons_append, List.nil_append, inS_cons, i2 n]
          by_cases hp : inS l n
          · have := rightFrom_lt h3 hp
            simp only [hp, or_true, true_and]
            omega
          · simp only [hp, or_false, false_and]
            omega
      · rw [if_neg c2]
        refine ⟨?_, fun n => ?_⟩
        · simp only [List.cons_append, List.nil_append, rightFrom_cons, goodB_iff]
          exact ⟨by omega, by omega, rightFrom_mono (by omega) i1⟩
        · simp only [List.cons_append, List.nil_append, inS_cons, i2 n]
          by_cases hp : inS l n
          · have := rightFrom_lt h3 hp
            simp only [hp, or_true, true_and]
            omega
          · simp only [hp, or_false, false_and]
            omega
    · rw [if_neg c1]
      by_cases c2 : mx x.f0 s.f1 < x.f1
      · rw [if_pos c2]
        refine ⟨?_, fun n => ?_⟩
        · simp only [List.cons_append, List.nil_append, rightFrom_cons, goodB_iff]
          exact ⟨by omega, by omega, i1⟩
        · simp only [List.cons_append, List.nil_append, inS_cons, i2 n]
          by_cases hp : inS l n
          · have := rightFrom_lt h3 hp
            simp only [hp, or_true, true_and]
            omega
          · simp only [hp, or_false, false_and]
            omega
      · rw [if_neg c2]
        refine ⟨?_, fun n => ?_⟩
        · simp only [List.nil_append]
          exact rightFrom_mono (by omega) i1
        · simp only [List.nil_append, inS_cons, i2 n]
          by_cases hp : inS l n
          · have := rightFrom_lt h3 hp
            simp only [hp, or_true, true_and]
          · simp only [hp, or_false, false_and, false_iff]
            omega
/-- A right list, cut from its upper end on: nothing goes. -/
theorem cutS_top : ∀ (l : List Sp) (a : Int), rightFrom a l = true → cutS l ⟨65535, 65535⟩ = l
  | [], _, _ => rfl
  | x :: l, a, hr => by
    rw [rightFrom_cons] at hr
    have hg := (goodB_iff x).1 hr.2.1
    have e : cutS (x :: l) ⟨65535, 65535⟩ = cutF ⟨65535, 65535⟩ x ++ cutS l ⟨65535, 65535⟩ := rfl
    rw [e, cutS_top l _ hr.2.2]
    unfold cutF
    have hm := mn_cases x.f1 65535
    have hM := mx_cases x.f0 65535
    simp only
    rw [if_pos (by omega), if_neg (by omega)]
    have : mn x.f1 65535 = x.f1 := by omega
    rw [this]
    rfl
/-- What is held below an end and what is missing there part the numbers. -/
theorem holes_size (en : Int) (h0 : 0 ≤ en) (he : en ≤ 65535) : ∀ (l : List Sp) (a : Int), 0 ≤ a → rightFrom (a - 1) l = true →
    sizeS (holesA a l en) + sizeS (cutS l ⟨en, 65535⟩) = if a < en then en - a else 0
  | [], a, ha, _ => by
    unfold holesA
    split <;> simp [sizeS, cutS]
  | s :: l, a, ha, hr => by
    rw [rightFrom_cons] at hr
    obtain ⟨h1, h2, h3⟩ := hr
    have hg := (goodB_iff s).1 h2
    have ih := holes_size en h0 he l s.f1 (by omega) (rightFrom_mono (by omega) h3)
    have e : cutS (s :: l) ⟨en, 65535⟩ = cutF ⟨en, 65535⟩ s ++ cutS l ⟨en, 65535⟩ := rfl
    rw [e, sizeS_append]
    unfold holesA
    rw [sizeS_append]
    unfold cutF
    have hm := mn_cases s.f0 en
    have hm2 := mn_cases s.f1 en
    have hM := mx_cases s.f0 65535
    simp only
    rw [if_neg (show ¬ mx s.f0 65535 < s.f1 by omega), List.append_nil]
    by_cases c1 : a < mn s.f0 en
    · rw [if_pos c1]
      by_cases c2 : s.f0 < mn s.f1 en
      · rw [if_pos c2]
        simp only [sizeS]
        split at ih <;> split <;> omega
      · rw [if_neg c2]
        simp only [sizeS]
        split at ih <;> split <;> omega
    · rw [if_neg c1]
      by_cases c2 : s.f0 < mn s.f1 en
      · rw [if_pos c2]
        simp only [sizeS]
        split at ih <;> split <;> omega
      · rw [if_neg c2]
        simp only [sizeS]
        split at ih <;> split <;> omega
end Go.Proofs.Ytmfckkgebdfhjaa.Q
