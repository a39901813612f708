/- What the statement SpanSets asks, on plain lists: numbers are counted; what is cut away piece by piece. No condition. -/
import Derived.Test.YtmfckkgebdfhjaaQN1
namespace Go.Proofs.Ytmfckkgebdfhjaa.Q
open Go.RowKit Go.Proofs.YtmfckkgebdfhjaaW.PrintWords Go.Proofs.YtmfckkgebdfhjaaW.PrintLast Go.Proofs.YtmfckkgebdfhjaaW.PrintMore
def cnt (p : Int → Bool) : Nat → Int
  | 0 => 0
  | N + 1 => cnt p N + if p (N : Int) then 1 else 0
theorem cnt_or (p q r : Int → Bool) (h : ∀ n, r n = (p n || q n)) (hd : ∀ n, ¬ (p n = true ∧ q n = true)) : ∀ N, cnt r N = cnt p N + cnt q N
  | 0 => rfl
  | N + 1 => by
    have i := cnt_or p q r h hd N
    have d := hd (N : Int)
    simp only [cnt, i, h]
    cases hp : p (N : Int) <;> cases hq : q (N : Int) <;> simp_all <;> omega
theorem cnt_none (p : Int → Bool) (h : ∀ n, p n = false) : ∀ N, cnt p N = 0
  | 0 => rfl
  | N + 1 => by simp only [cnt, cnt_none p h N, h]; simp
theorem cnt_one (a b : Int) (h0 : 0 ≤ a) (h1 : a ≤ b) (p : Int → Bool) (h : ∀ n, p n = true ↔ a ≤ n ∧ n < b) : ∀ N : Nat, cnt p N = if b ≤ (N : Int) then b - a else if a ≤ (N : Int) then (N : Int) - a else 0
  | 0 => by
    simp only [cnt]
    split
    · omega
    · split <;> omega
  | N + 1 => by
    simp only [cnt, cnt_one a b h0 h1 p h N]
    have hN := h (N : Int)
    cases hp : p (N : Int) with
    | true =>
      have := hN.1 hp
      rw [if_neg (by omega), if_pos (by omega), if_pos rfl]
      split
      · omega
      · rw [if_pos (by omega)]; omega
    | false =>
      have : ¬ (a ≤ (N : Int) ∧ (N : Int) < b) := fun hc => by rw [hN.2 hc] at hp; cases hp
      simp only [Bool.false_eq_true, if_false]
      split
      · rw [if_pos (by omega)]; omega
      · rw [if_neg (by omega)]
        split
        · omega
        · split
          · omega
          · rfl
theorem size_cnt : ∀ (l : List Sp) (a : Int), -1 ≤ a → rightFrom a l = true → sizeS l = cnt (inB l) 65535
  | [], _, _, _ => by rw [cnt_none (inB []) (fun n => rfl)]; rfl
  | s :: l, a, ha, h => by
    rw [rightFrom_cons] at h
    obtain ⟨h1, h2, h3⟩ := h
    have hg := (goodB_iff s).1 h2
    have i := size_cnt l s.f1 (by omega) h3
    rw [cnt_or (fun n => decide (s.f0 ≤ n) && decide (n < s.f1)) (inB l) (inB (s :: l)) (fun n => rfl) (fun n hn => by
      have h4 := rightFrom_lt h3 ((inB_iff l n).1 hn.2)
      have h5 := hn.1
      simp only [Bool.and_eq_true, decide_eq_true_eq] at h5
      omega) 65535, cnt_one s.f0 s.f1 hg.1 (by omega) _ (fun n => by simp) 65535, ← i, if_pos (by omega)]
    rfl
/-- Right lists that part a third one: their sizes add. -/
theorem size_union {x y z : List Sp} (hx : rightB x = true) (hy : rightB y = true) (hz : rightB z = true) (h : ∀ n, inS x n ↔ inS y n ∨ inS z n) (hd : ∀ n, ¬ (inS y n ∧ inS z n)) : sizeS x = sizeS y + sizeS z := by
  rw [size_cnt x (-1) (by omega) hx, size_cnt y (-1) (by omega) hy, size_cnt z (-1) (by omega) hz]
  refine cnt_or _ _ _ (fun n => ?_) (fun n hn => hd n ⟨(inB_iff y n).1 hn.1, (inB_iff z n).1 hn.2⟩) _
  rw [Bool.eq_iff_iff, Bool.or_eq_true, inB_iff, inB_iff, inB_iff]
  exact h n
/-- s, cut by each of l's spans. -/
def leftS (s : Sp) (l : List Sp) : List Sp := l.foldl (fun o x => cutS o x) [s]
theorem left_fold : ∀ (l : List Sp) (o : List Sp), rightB o = true → (∀ x ∈ l, goodB x = true) → rightB (l.foldl (fun o x => cutS o x) o) = true ∧ ∀ n, inS (l.foldl (fun o x => cutS o x) o) n ↔ inS o n ∧ ¬ inS l n
  | [], o, h, _ => ⟨h, fun n => by simp [inS_nil]⟩
  | x :: l, o, h, hg => by
    have g := (goodB_iff x).1 (hg x List.mem_cons_self)
    obtain ⟨q1, q2⟩ := cutS_spec x g.2.1 o (-1) h
    obtain ⟨i1, i2⟩ := left_fold l (cutS o x) q1 (fun y hy => hg y (List.mem_cons_of_mem _ hy))
    refine ⟨i1, fun n => ?_⟩
    rw [List.foldl_cons, i2, q2, inS_cons]
    constructor
    · rintro ⟨⟨a, b⟩, c⟩; exact ⟨a, fun h => h.elim b c⟩
    · rintro ⟨a, b⟩; exact ⟨⟨a, fun h => b (.inl h)⟩, fun h => b (.inr h)⟩
theorem one_right {s : Sp} (h : goodB s = true) : rightB [s] = true := by
  have g := (goodB_iff s).1 h
  rw [rightB, rightFrom_cons]; exact ⟨by omega, h, rfl⟩
theorem inS_one (s : Sp) (n : Int) : inS [s] n ↔ s.f0 ≤ n ∧ n < s.f1 := by rw [inS_cons]; simp [inS_nil]
structure SetsOk (l m : List Sp) (s : Sp) : Prop where
  rm : rightB m = true
  cm : ∀ n, inS m n ↔ inS l n
  gs : goodB s = true
theorem SetsOk.all {l m : List Sp} {s : Sp} (H : SetsOk l m s) : ∀ x ∈ m ++ [s], goodB x = true := fun x hx => by
  rcases List.mem_append.1 hx with hx | hx
  · exact right_good H.rm x hx
  · exact all_one H.gs x hx
theorem SetsOk.add {l m : List Sp} {s : Sp} (H : SetsOk l m s) : rightB (joinS (m ++ [s])) = true ∧ ∀ n, inS (joinS (m ++ [s])) n ↔ inS l n ∨ inS [s] n := by
  obtain ⟨q1, q2⟩ := joinS_right _ H.all
  exact ⟨q1, fun n => by rw [q2, inS_append, H.cm]⟩
theorem SetsOk.cut {l m : List Sp} {s : Sp} (H : SetsOk l m s) : rightB (cutS m s) = true ∧ ∀ n, inS (cutS m s) n ↔ inS l n ∧ ¬ inS [s] n := by
  obtain ⟨q1, q2⟩ := cutS_spec s ((goodB_iff s).1 H.gs).2.1 m (-1) H.rm
  exact ⟨q1, fun n => by rw [q2, H.cm, inS_one]⟩
theorem SetsOk.left {l m : List Sp} {s : Sp} (H : SetsOk l m s) : rightB (leftS s m) = true ∧ ∀ n, inS (leftS s m) n ↔ inS [s] n ∧ ¬ inS m n := left_fold m [s] (one_right H.gs) (right_good H.rm)
theorem SetsOk.in_add {l m : List Sp} {s : Sp} (H : SetsOk l m s) (n : Int) : inB (joinS (m ++ [s])) n = (inB l n || inB [s] n) := by
  rw [Bool.eq_iff_iff, Bool.or_eq_true, inB_iff, inB_iff, inB_iff]; exact H.add.2 n
theorem SetsOk.in_cut {l m : List Sp} {s : Sp} (H : SetsOk l m s) (n : Int) : inB (cutS m s) n = (inB l n && !inB [s] n) := by
  rw [Bool.eq_iff_iff, Bool.and_eq_true, Bool.not_eq_true', ← Bool.not_eq_true, inB_iff, inB_iff, inB_iff]; exact H.cut.2 n
theorem SetsOk.in_norm {l m : List Sp} {s : Sp} (H : SetsOk l m s) (n : Int) : inB m n = inB l n := by
  rw [Bool.eq_iff_iff, inB_iff, inB_iff]; exact H.cm n
theorem SetsOk.sizes {l m : List Sp} {s : Sp} (H : SetsOk l m s) : sizeS (joinS (m ++ [s])) = sizeS m + sizeS (leftS s m) :=
  size_union H.add.1 H.rm H.left.1 (fun n => by
    rw [H.add.2, H.left.2, H.cm]
    by_cases h : inS l n <;> simp [h]) (fun n hn => ((H.left.2 n).1 hn.2).2 hn.1)
theorem SetsOk.has {l m : List Sp} {s : Sp} (H : SetsOk l m s) : hasA m s = ((leftS s m).length == 0) := by
  obtain ⟨r1, r2⟩ := H.left
  have hg := (goodB_iff s).1 H.gs
  unfold hasA
  rw [H.rm, H.gs, Bool.true_and, Bool.true_and, Bool.eq_iff_iff, beq_iff_eq, List.any_eq_true]
  simp only [Bool.and_eq_true, decide_eq_true_eq]
  constructor
  · rintro ⟨x, hx, h1, h2⟩
    cases hr : leftS s m with
    | nil => rfl
    | cons t r =>
      rw [hr] at r1 r2
      have ht := (goodB_iff t).1 (right_good r1 t List.mem_cons_self)
      obtain ⟨u, v⟩ := (r2 t.f0).1 ((inS_cons _ _ _).2 (.inl ⟨by omega, by omega⟩))
      rw [inS_one] at u
      exact absurd ⟨x, hx, by omega, by omega⟩ v
  · intro h0
    have e : leftS s m = [] := List.length_eq_zero_iff.1 h0
    rw [e] at r2
    refine one_holds m (-1) s.f0 s.f1 H.rm hg.2.1 (fun n n1 n2 => ?_)
    by_cases hi : inS m n
    · exact hi
    · exact absurd ((r2 n).2 ⟨(inS_one s n).2 ⟨n1, n2⟩, hi⟩) (inS_nil _)
theorem SetsOk.meets {l m : List Sp} {s : Sp} (H : SetsOk l m s) : meetsA m s = !decide (cutS m s = m) := by
  have hg := (goodB_iff s).1 H.gs
  obtain ⟨q1, q2⟩ := cutS_spec s hg.2.1 m (-1) H.rm
  unfold meetsA
  rw [H.rm, H.gs, Bool.true_and, Bool.true_and, Bool.eq_iff_iff, Bool.not_eq_true', decide_eq_false_iff_not, List.any_eq_true]
  simp only [Bool.and_eq_true, decide_eq_true_eq]
  constructor
  · rintro ⟨x, hx, h1, h2⟩ e
    have hgx := (goodB_iff x).1 (right_good H.rm x hx)
    have hM := mx_cases s.f0 x.f0
    have := (q2 (mx s.f0 x.f0)).1 (by rw [e]; exact ⟨x, hx, by omega, by omega⟩)
    exact this.2 ⟨by omega, by omega⟩
  · intro h
    refine Classical.byContradiction fun hn => h ?_
    refine right_unique q1 H.rm (fun n => ?_)
    rw [q2]
    constructor
    · exact fun h => h.1
    · refine fun h => ⟨h, fun hs => ?_⟩
      obtain ⟨x, hx, h1, h2⟩ := h
      exact hn ⟨x, hx, by omega, by omega⟩
end Go.Proofs.Ytmfckkgebdfhjaa.Q
