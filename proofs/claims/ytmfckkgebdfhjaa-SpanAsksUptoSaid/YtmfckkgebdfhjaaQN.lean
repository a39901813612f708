/- Each answer of the program over spans, and the document's: the same plain list or number. No condition. -/
import Derived.Test.YtmfckkgebdfhjaaQM
namespace Go.Proofs.Ytmfckkgebdfhjaa.Q
open Go.RowKit Go.Proofs.YtmfckkgebdfhjaaW.PrintWords Go.Proofs.YtmfckkgebdfhjaaW.PrintLast Go.Proofs.YtmfckkgebdfhjaaW.PrintMore
def addA (l : List Sp) (s : Sp) : List Sp × Int := if (rightB l && goodB s) = true then (joinS (l ++ [s]), 0) else ([], 1)
def cutA (l : List Sp) (s : Sp) : List Sp × Int := if (rightB l && goodB s) = true then (cutS l s, 0) else ([], 1)
def holesB (l : List Sp) (en : Int) : List Sp × Int := if (rightB l && (decide (0 ≤ en) && decide (en ≤ 65535))) = true then (holesA 0 l en, 0) else ([], 1)
def sizeA (l : List Sp) : Int := if rightB l = true then sizeS l else 0
def hasA (l : List Sp) (s : Sp) : Bool := rightB l && goodB s && l.any fun x => decide (x.f0 ≤ s.f0) && decide (s.f1 ≤ x.f1)
def meetsA (l : List Sp) (s : Sp) : Bool := rightB l && goodB s && l.any fun x => decide (x.f0 < s.f1) && decide (s.f0 < x.f1)
/-! ### the program's -/
theorem add_evalA (l : List Sp) (hl : l.length ≤ 5000000) (a b : Int) (k : Nat) : span_Add.f k l a b = some (addA l ⟨a, b⟩) := by
  unfold span_Add.f addA
  cases rightB l <;> cases goodB ⟨a, b⟩ <;> simp
  omega
theorem cut_evalA (l : List Sp) (hl : l.length ≤ 5000000) (a b : Int) (k : Nat) (hk : l.length + 1 < k) : span_Cut.f k l a b = some (cutA l ⟨a, b⟩) := by
  unfold cutA
  cases h1 : rightB l with
  | false =>
    unfold span_Cut.f
    rw [right_eval l (by omega) k (by omega), h1]
    obtain ⟨k, rfl⟩ : ∃ m, k = m + 1 := ⟨k - 1, by omega⟩
    simp [span_Cut.j0]
  | true =>
    cases h2 : goodB ⟨a, b⟩ with
    | false =>
      unfold span_Cut.f
      rw [right_eval l (by omega) k (by omega), h1]
      obtain ⟨k, rfl⟩ : ∃ m, k = m + 1 := ⟨k - 1, by omega⟩
      rw [good_eval, h2]
      simp [span_Cut.j0]
    | true =>
      rw [cut_eval l h1 a b h2 k hk]
      rfl
theorem holes_evalA (l : List Sp) (hl : l.length ≤ 5000000) (en : Int) (k : Nat) (hk : l.length + 1 < k) : span_Holes.f k l en = some (holesB l en) := by
  unfold holesB
  cases h1 : rightB l with
  | false =>
    unfold span_Holes.f
    rw [right_eval l (by omega) k (by omega), h1]
    obtain ⟨k, rfl⟩ : ∃ m, k = m + 1 := ⟨k - 1, by omega⟩
    simp [span_Holes.j0]
  | true =>
    by_cases c : 0 ≤ en ∧ en ≤ 65535
    · rw [holes_eval l h1 en c.1 c.2 k hk, decide_eq_true c.1, decide_eq_true c.2]
      rfl
    · rw [holes_refused l h1 en (by omega) k hk]
      have : (decide (0 ≤ en) && decide (en ≤ 65535)) = false := by
        rw [Bool.eq_false_iff]; simp; omega
      rw [this]
      rfl
theorem size_evalA (l : List Sp) (hl : l.length ≤ 5000000) (k : Nat) (hk : l.length < k) : span_Size.f k l = some (sizeA l) := by
  unfold sizeA
  cases h1 : rightB l with
  | false =>
    unfold span_Size.f
    rw [right_eval l (by omega) k hk, h1]
    rfl
  | true => rw [size_eval l h1 k hk]; rfl
/-! ### the document's -/
theorem is_eval (a b : Int) : mosaicref09_is.f a b = some (goodB ⟨a, b⟩) := by
  unfold mosaicref09_is.f goodB
  by_cases h1 : a ≥ 0
  · rw [if_pos h1]
    by_cases h2 : a < b
    · rw [if_pos h2]; simp [h1, h2]
    · rw [if_neg h2]; simp [h2]
  · rw [if_neg h1]; simp [h1]
theorem refright_l0 (l : List Sp) (hb : l.length < 4611686018427387904) : ∀ (d i k : Nat), i + d = l.length → d < k → mosaicref09_Right.l0 k l (i : Int) = some (rightFrom (prevTo l i) (l.drop i)) := by
  intro d
  induction d with
  | zero =>
    intro i k hi hk
    obtain ⟨k, rfl⟩ : ∃ m, k = m + 1 := ⟨k - 1, by omega⟩
    rw [drop_nil l i (by omega)]
    simp only [mosaicref09_Right.l0]
    rw [if_neg (by omega)]; rfl
  | succ d ih =>
    intro i k hi hk
    obtain ⟨k, rfl⟩ : ∃ m, k = m + 1 := ⟨k - 1, by omega⟩
    have hlt : i < l.length := by omega
    have hn := ih (i + 1) k (by omega) (by omega)
    have hp1 : prevTo l (i + 1) = l[i].f1 := by simp [prevTo, List.getD_eq_getElem?_getD, List.getElem?_eq_getElem hlt]
    rw [hp1] at hn
    simp only [mosaicref09_Right.l0]
    rw [if_pos (by omega), if_pos (by omega), rdT l i hlt, is_eval, wr1 i (by omega), hn, dropc l i hlt]
    simp only [rightFrom, Option.bind_some]
    cases hg : goodB l[i] with
    | false => rw [if_neg (by simp)]; simp
    | true =>
      have g := (goodB_iff _).1 hg
      rw [if_pos rfl, Bool.and_true]
      by_cases h0 : i = 0
      · subst h0
        rw [if_neg (by omega)]
        have : decide (prevTo l 0 < l[0].f0) = true := by simp [prevTo]; omega
        rw [this, Bool.true_and]
      · have hw2 : wrap64 ((i : Int) - 1) = ((i - 1 : Nat) : Int) := by unfold wrap64; omega
        have hr2 : rd_T24 l ((i - 1 : Nat) : Int) = l.getD (i - 1) z24 := by simp [rd_T24]
        rw [if_pos (by omega), hw2, if_pos (by omega), if_pos (by omega), hr2]
        have hpp : prevTo l i = (l.getD (i - 1) z24).f1 := by simp [prevTo, h0]
        rw [hpp]
        by_cases hle : l[i].f0 ≤ (l.getD (i - 1) z24).f1
        · rw [if_pos hle]
          have : decide ((l.getD (i - 1) z24).f1 < l[i].f0) = false := by simp only [decide_eq_false_iff_not]; omega
          rw [this]; rfl
        · rw [if_neg hle]
          have : decide ((l.getD (i - 1) z24).f1 < l[i].f0) = true := by simp only [decide_eq_true_eq]; omega
          rw [this, Bool.true_and]
theorem refright_eval (l : List Sp) (hb : l.length < 4611686018427387904) (k : Nat) (hk : l.length < k) : mosaicref09_Right.f k l = some (rightB l) := by
  have := refright_l0 l hb l.length 0 k (by omega) hk
  unfold mosaicref09_Right.f
  rw [show (0 : Int) = ((0 : Nat) : Int) from rfl, this]; rfl
theorem refsize_l0 (l : List Sp) (hb : l.length ≤ 65536) (hg : ∀ s ∈ l, goodB s = true) : ∀ (d i k : Nat) (acc : Int), i + d = l.length → d < k → 0 ≤ acc → acc + 65536 * (d : Int) ≤ 4611686018427387904 → mosaicref09_Size.l0 k l true acc (i : Int) = some (acc + sizeS (l.drop i)) := by
  intro d
  induction d with
  | zero =>
    intro i k acc hi hk h0 h1
    obtain ⟨k, rfl⟩ : ∃ m, k = m + 1 := ⟨k - 1, by omega⟩
    rw [drop_nil l i (by omega)]
    simp only [mosaicref09_Size.l0]
    rw [if_neg (by omega)]
    simp [sizeS]
  | succ d ih =>
    intro i k acc hi hk h0 h1
    obtain ⟨k, rfl⟩ : ∃ m, k = m + 1 := ⟨k - 1, by omega⟩
    have hlt : i < l.length := by omega
    have g := (goodB_iff _).1 (hg l[i] (List.getElem_mem hlt))
    simp only [mosaicref09_Size.l0, if_true]
    rw [if_pos (by omega), if_pos (by omega), rdT l i hlt, wr1 i (by omega)]
    have e1 : wrap64 (wrap64 (acc + l[i].f1) - l[i].f0) = acc + (l[i].f1 - l[i].f0) := by unfold wrap64; omega
    rw [e1, ih (i + 1) k _ (by omega) (by omega) (by omega) (by omega), dropc l i hlt]
    simp only [sizeS]
    congr 1; omega
theorem refsize_eval (l : List Sp) (hl : l.length ≤ 5000000) (k : Nat) (hk : l.length < k) : mosaicref09_Size.f k l = some (sizeA l) := by
  unfold mosaicref09_Size.f sizeA
  rw [refright_eval l (by omega) k hk]
  simp only [Option.bind_some]
  cases h : rightB l with
  | true =>
    have := refsize_l0 l (rightB_len h) (fun s hs => right_good h s hs) l.length 0 k 0 (by omega) hk (by omega) (by have := rightB_len h; omega)
    rw [show ((0 : Nat) : Int) = (0 : Int) from rfl] at this
    rw [this]; simp
  | false =>
    obtain ⟨k, rfl⟩ : ∃ m, k = m + 1 := ⟨k - 1, by omega⟩
    simp only [mosaicref09_Size.l0]
    split <;> simp
theorem refnorm_l0 (l : List Sp) (hl : l.length ≤ 5000000) : ∀ (d i k : Nat), i + d = l.length → d + 200000001 < k → (∀ s ∈ l.take i, goodB s = true) → mosaicref09_Norm.l0 k l (i : Int) = some (normS l) := by
  intro d
  induction d with
  | zero =>
    intro i k hi hk hp
    obtain ⟨k, rfl⟩ : ∃ m, k = m + 1 := ⟨k - 1, by omega⟩
    rw [List.take_of_length_le (by omega)] at hp
    simp only [mosaicref09_Norm.l0]
    rw [if_neg (by omega)]
    obtain ⟨r, er, r1, r2⟩ := list_eval l [] hl (by simp) hp (fun s hs => by cases hs) k (by omega)
    rw [er]
    unfold normS
    rw [if_pos (List.all_eq_true.2 hp)]
    obtain ⟨q1, q2⟩ := joinS_right l hp
    rw [right_unique r1 q1 (fun n => by rw [r2, q2]; simp [inS_nil])]
    rfl
  | succ d ih =>
    intro i k hi hk hp
    obtain ⟨k, rfl⟩ : ∃ m, k = m + 1 := ⟨k - 1, by omega⟩
    have hlt : i < l.length := by omega
    simp only [mosaicref09_Norm.l0]
    rw [if_pos (by omega), if_pos (by omega), rdT l i hlt, is_eval]
    simp only [Option.bind_some]
    cases hg : goodB l[i] with
    | true =>
      rw [if_pos rfl, wr1 i (by omega)]
      refine ih (i + 1) k (by omega) (by omega) (fun s hs => ?_)
      rw [List.take_succ_eq_append_getElem hlt] at hs
      rcases List.mem_append.1 hs with hs | hs
      · exact hp s hs
      · rw [List.mem_singleton.1 hs]; exact hg
    | false =>
      rw [if_neg (by simp)]
      unfold normS
      rw [if_neg]
      intro h
      have := List.all_eq_true.1 h l[i] (List.getElem_mem hlt)
      rw [hg] at this; cases this
theorem refnorm_eval (l : List Sp) (hl : l.length ≤ 5000000) (k : Nat) (hk : l.length + 200000001 < k) : mosaicref09_Norm.f k l = some (normS l) := by
  have := refnorm_l0 l hl l.length 0 k (by omega) hk (fun s hs => by simp at hs)
  unfold mosaicref09_Norm.f
  rw [show (0 : Int) = ((0 : Nat) : Int) from rfl, this]
theorem may_eval (l : List Sp) (hl : l.length ≤ 5000000) (a b : Int) (k : Nat) (hk : l.length < k) : mosaicref09_may.f k l a b = some (rightB l && goodB ⟨a, b⟩) := by
  unfold mosaicref09_may.f
  rw [refright_eval l (by omega) k hk, is_eval]
  simp only [Option.bind_some]
  cases rightB l <;> simp
theorem all_one {s : Sp} (h : goodB s = true) : ∀ x ∈ [s], goodB x = true := fun x hx => by rw [List.mem_singleton.1 hx]; exact h
theorem refadd_eval (l : List Sp) (hl : l.length ≤ 4000000) (a b : Int) (k : Nat) (hk : 200000000 < k) : mosaicref09_Add.f k l a b = some (addA l ⟨a, b⟩) := by
  unfold mosaicref09_Add.f addA
  rw [may_eval l (by omega) a b k (by omega)]
  simp only [Option.bind_some]
  by_cases h : (rightB l && goodB ⟨a, b⟩) = true
  · rw [if_pos h, if_pos h, if_pos (by simp; omega)]
    simp only [List.nil_append]
    rw [if_pos (by omega)]
    rw [Bool.and_eq_true] at h
    have hg : ∀ s ∈ l ++ [(⟨a, b⟩ : Sp)], goodB s = true := fun s hs => by
      rcases List.mem_append.1 hs with hs | hs
      · exact right_good h.1 s hs
      · exact all_one h.2 s hs
    obtain ⟨r, er, r1, r2⟩ := list_eval (l ++ [⟨a, b⟩]) [] (by simp; omega) (by simp) hg (fun s hs => by cases hs) k hk
    rw [er]
    obtain ⟨q1, q2⟩ := joinS_right _ hg
    rw [right_unique r1 q1 (fun n => by rw [r2, q2]; simp [inS_nil])]
    rfl
  · rw [if_neg h, if_neg h]
theorem refcut_eval (l : List Sp) (hl : l.length ≤ 4000000) (a b : Int) (k : Nat) (hk : 200000000 < k) : mosaicref09_Cut.f k l a b = some (cutA l ⟨a, b⟩) := by
  unfold mosaicref09_Cut.f cutA
  rw [may_eval l (by omega) a b k (by omega)]
  simp only [Option.bind_some]
  by_cases h : (rightB l && goodB ⟨a, b⟩) = true
  · rw [if_pos h, if_pos h]
    rw [Bool.and_eq_true] at h
    have hg := (goodB_iff _).1 h.2
    obtain ⟨r, er, r1, r2⟩ := list_eval l [⟨a, b⟩] (by omega) (by simp) (right_good h.1) (all_one h.2) k hk
    rw [er]
    obtain ⟨q1, q2⟩ := cutS_spec ⟨a, b⟩ hg.2.1 l (-1) h.1
    rw [right_unique r1 q1 (fun n => by rw [r2, q2, inS_cons]; simp [inS_nil])]
    rfl
  · rw [if_neg h, if_neg h]
theorem refholes_eval (l : List Sp) (hl : l.length ≤ 4000000) (en : Int) (k : Nat) (hk : 300000000 < k) : mosaicref09_Holes.f k l en = some (holesB l en) := by
  unfold mosaicref09_Holes.f holesB
  rw [refright_eval l (by omega) k (by omega)]
  simp only [Option.bind_some]
  obtain ⟨k, rfl⟩ : ∃ m, k = m + 1 := ⟨k - 1, by omega⟩
  cases h : rightB l with
  | false => simp [mosaicref09_Holes.j0]
  | true =>
    rw [if_pos rfl]
    by_cases c : 0 ≤ en ∧ en ≤ 65535
    · rw [if_neg (by omega), decide_eq_false (by omega), decide_eq_true c.1, decide_eq_true c.2]
      simp only [mosaicref09_Holes.j0, Bool.false_eq_true, if_false, Bool.and_self, if_true]
      obtain ⟨q1, q2⟩ := holesA_spec en c.2 l 0 (by omega) h
      by_cases c0 : en = 0
      · rw [if_pos c0]
        have : ([] : List Sp) = holesA 0 l en := right_unique (a := 0 - 1) rfl q1 (fun n => by
          rw [q2, c0]
          simp only [inS_nil, false_iff]
          rintro ⟨⟨a, b⟩, _⟩; omega)
        rw [← this]
      · rw [if_neg c0]
        have hg : goodB ⟨0, en⟩ = true := by rw [goodB_iff]; simp only; omega
        obtain ⟨r, er, r1, r2⟩ := list_eval [⟨0, en⟩] l (by simp) (by omega) (all_one hg) (right_good h) k (by omega)
        rw [er]
        rw [right_unique r1 q1 (fun n => by rw [r2, q2, inS_cons]; simp [inS_nil])]
        rfl
    · have e : (if en < 0 then mosaicref09_Holes.j0 (k + 1) l en true else mosaicref09_Holes.j0 (k + 1) l en (decide (en > 65535))) = mosaicref09_Holes.j0 (k + 1) l en true := by
        split
        · rfl
        · rw [decide_eq_true (show en > 65535 by omega)]
      have : (decide (0 ≤ en) && decide (en ≤ 65535)) = false := by
        rw [Bool.eq_false_iff]; simp; omega
      rw [e, this]
      simp [mosaicref09_Holes.j0]
/-- What a right list covers whole stands in one span of it. -/
theorem one_holds : ∀ (l : List Sp) (c a b : Int), rightFrom c l = true → a < b → (∀ n, a ≤ n → n < b → inS l n) → ∃ x, x ∈ l ∧ x.f0 ≤ a ∧ b ≤ x.f1
  | [], _, a, b, _, h, hc => absurd (hc a (by omega) h) (inS_nil _)
  | x :: l, c, a, b, hr, h, hc => by
    rw [rightFrom_cons] at hr
    obtain ⟨h1, h2, h3⟩ := hr
    rcases (inS_cons _ _ _).1 (hc a (by omega) h) with i | i
    · rcases Int.lt_or_le x.f1 b with c1 | c1
      · exfalso
        rcases (inS_cons _ _ _).1 (hc x.f1 (by omega) c1) with j | j
        · omega
        · have := rightFrom_lt h3 j; omega
      · exact ⟨x, List.mem_cons_self, i.1, c1⟩
    · have hlt := rightFrom_lt h3 i
      obtain ⟨y, hy, e⟩ := one_holds l x.f1 a b h3 h (fun n n1 n2 => by
        rcases (inS_cons _ _ _).1 (hc n n1 n2) with j | j
        · omega
        · exact j)
      exact ⟨y, List.mem_cons_of_mem _ hy, e⟩
theorem refhas_eval (l : List Sp) (hl : l.length ≤ 4000000) (a b : Int) (k : Nat) (hk : 200000000 < k) : mosaicref09_Has.f k l a b = some (hasA l ⟨a, b⟩) := by
  unfold mosaicref09_Has.f hasA
  rw [may_eval l (by omega) a b k (by omega)]
  simp only [Option.bind_some]
  cases h : (rightB l && goodB ⟨a, b⟩) with
  | false => rfl
  | true =>
    rw [if_pos rfl]
    rw [Bool.and_eq_true] at h
    have hg := (goodB_iff _).1 h.2
    obtain ⟨r, er, r1, r2⟩ := list_eval [⟨a, b⟩] l (by simp) (by omega) (all_one h.2) (right_good h.1) k hk
    rw [er]
    simp only [Option.bind_some, Bool.true_and]
    congr 1
    rw [Bool.eq_iff_iff, beq_iff_eq, List.any_eq_true]
    simp only [Bool.and_eq_true, decide_eq_true_eq]
    constructor
    · intro h0
      have : r = [] := List.length_eq_zero_iff.1 (by omega)
      subst this
      refine one_holds l (-1) a b h.1 hg.2.1 (fun n n1 n2 => ?_)
      have := (r2 n).2
      by_cases hi : inS l n
      · exact hi
      · exact absurd (this ⟨(inS_cons _ _ _).2 (.inl ⟨n1, n2⟩), hi⟩) (inS_nil _)
    · rintro ⟨x, hx, h1, h2⟩
      cases r with
      | nil => rfl
      | cons t r =>
        have ht := (goodB_iff t).1 (right_good r1 t List.mem_cons_self)
        obtain ⟨u, v⟩ := (r2 t.f0).1 ((inS_cons _ _ _).2 (.inl ⟨by omega, by omega⟩))
        rcases (inS_cons _ _ _).1 u with u | u
        · exact absurd ⟨x, hx, by simp only at u; omega, by simp only at u; omega⟩ v
        · exact absurd u (inS_nil _)
theorem size_le : ∀ (r : List Sp) (c b : Int), rightFrom (c - 1) r = true → (∀ n, inS r n → n < b) → c ≤ b → sizeS r ≤ b - c ∧ ∀ n0, c ≤ n0 → n0 < b → ¬ inS r n0 → sizeS r ≤ b - c - 1
  | [], c, b, _, _, h => ⟨by simp only [sizeS]; omega, fun n0 h1 h2 _ => by simp only [sizeS]; omega⟩
  | x :: r, c, b, hr, hb, h => by
    rw [rightFrom_cons] at hr
    obtain ⟨h1, h2, h3⟩ := hr
    have hg := (goodB_iff x).1 h2
    have hx := hb (x.f1 - 1) ((inS_cons _ _ _).2 (.inl ⟨by omega, by omega⟩))
    obtain ⟨i1, i2⟩ := size_le r x.f1 b (rightFrom_mono (by omega) h3) (fun n hn => hb n ((inS_cons _ _ _).2 (.inr hn))) (by omega)
    simp only [sizeS]
    refine ⟨by omega, fun n0 n1 n2 hn => ?_⟩
    rcases Int.lt_or_le n0 x.f0 with c1 | c1
    · omega
    · rcases Int.lt_or_le n0 x.f1 with c2 | c2
      · exact absurd ((inS_cons _ _ _).2 (.inl ⟨c1, c2⟩)) hn
      · have := i2 n0 c2 n2 (fun hi => hn ((inS_cons _ _ _).2 (.inr hi)))
        omega
theorem refmeets_eval (l : List Sp) (hl : l.length ≤ 4000000) (a b : Int) (k : Nat) (hk : 200000000 < k) : mosaicref09_Meets.f k l a b = some (meetsA l ⟨a, b⟩) := by
  unfold mosaicref09_Meets.f meetsA
  rw [may_eval l (by omega) a b k (by omega)]
  simp only [Option.bind_some]
  cases h : (rightB l && goodB ⟨a, b⟩) with
  | false => rfl
  | true =>
    rw [if_pos rfl]
    rw [Bool.and_eq_true] at h
    have hg := (goodB_iff _).1 h.2
    simp only at hg
    obtain ⟨r, er, r1, r2⟩ := list_eval [⟨a, b⟩] l (by simp) (by omega) (all_one h.2) (right_good h.1) k hk
    have hrl := rightB_len r1
    rw [er]
    simp only [Option.bind_some, Bool.true_and]
    rw [refsize_eval r (by omega) k (by omega)]
    simp only [Option.bind_some]
    congr 1
    have hw : wrap64 (b - a) = b - a := by unfold wrap64; omega
    unfold sizeA
    rw [if_pos r1, hw, Bool.eq_iff_iff, decide_eq_true_eq, List.any_eq_true]
    simp only [Bool.and_eq_true, decide_eq_true_eq]
    have r2' : ∀ n, inS r n ↔ (a ≤ n ∧ n < b) ∧ ¬ inS l n := fun n => by rw [r2, inS_cons]; simp [inS_nil]
    constructor
    · intro h0
      refine Classical.byContradiction fun hn => ?_
      have : r = [⟨a, b⟩] := right_unique r1 (m := [⟨a, b⟩]) (by rw [rightFrom_cons]; exact ⟨by simp only; omega, h.2, rfl⟩) (fun n => by
        rw [r2', inS_cons]
        simp only [inS_nil, or_false]
        constructor
        · exact fun h => h.1
        · refine fun h => ⟨h, ?_⟩
          rintro ⟨x, hx, h1, h2⟩
          exact hn ⟨x, hx, by omega, by omega⟩)
      subst this
      simp [sizeS] at h0
    · rintro ⟨x, hx, h1, h2⟩
      have hgx := (goodB_iff x).1 (right_good h.1 x hx)
      have rr : rightFrom (a - 1) r = true := by
        cases r with
        | nil => rfl
        | cons t r =>
          rw [rightB, rightFrom_cons] at r1
          have ht := (goodB_iff t).1 r1.2.1
          have := (r2' t.f0).1 ((inS_cons _ _ _).2 (.inl ⟨by omega, by omega⟩))
          rw [rightFrom_cons]
          exact ⟨by omega, r1.2⟩
      have := (size_le r a b rr (fun n hn => ((r2' n).1 hn).1.2) (by omega)).2 (mx a x.f0) (by have := mx_cases a x.f0; omega) (by have := mx_cases a x.f0; omega) (fun hi => ((r2' _).1 hi).2 ⟨x, hx, by have := mx_cases a x.f0; omega, by have := mx_cases a x.f0; omega⟩)
      omega
end Go.Proofs.Ytmfckkgebdfhjaa.Q
