/- The plain theory of spans: which lists are right, what they cover, and the one list that joins given spans. No condition. -/
import Derived.Test.YtmfckkgebdfhjaaQx0
namespace Go.Proofs.Ytmfckkgebdfhjaa.Q
open Go.RowKit Go.Proofs.YtmfckkgebdfhjaaW.PrintWords Go.Proofs.YtmfckkgebdfhjaaW.PrintLast Go.Proofs.YtmfckkgebdfhjaaW.PrintMore
abbrev Sp := S24

instance : DecidableEq Sp := fun a b => decidable_of_iff (a.f0 = b.f0 ∧ a.f1 = b.f1) ⟨fun h => by obtain ⟨a0, a1⟩ := a; obtain ⟨b0, b1⟩ := b; obtain ⟨h0, h1⟩ := h; simp only at h0 h1; rw [h0, h1], fun h => by rw [h]; exact ⟨rfl, rfl⟩⟩
def goodB (s : Sp) : Bool := decide (0 ≤ s.f0) && (decide (s.f0 < s.f1) && decide (s.f1 ≤ 65535))
theorem goodB_iff (s : Sp) : goodB s = true ↔ 0 ≤ s.f0 ∧ s.f0 < s.f1 ∧ s.f1 ≤ 65535 := by simp [goodB]
/-- Rising, never touching, each a span: from a number on. -/
def rightFrom : Int → List Sp → Bool
  | _, [] => true
  | a, s :: l => decide (a < s.f0) && goodB s && rightFrom s.f1 l
def rightB (l : List Sp) : Bool := rightFrom (-1) l
theorem rightFrom_cons (a : Int) (s : Sp) (l : List Sp) : rightFrom a (s :: l) = true ↔ a < s.f0 ∧ goodB s = true ∧ rightFrom s.f1 l = true := by
  simp [rightFrom, and_assoc]
/-- One more span, to a list that is turned round: joined to the latest if it touches it. -/
def put1 (out : List Sp) (s : Sp) : List Sp := match out with
  | [] => [s]
  | t :: r => if s.f0 ≤ t.f1 then ⟨t.f0, mx t.f1 s.f1⟩ :: r else s :: t :: r
def mergeR (l : List Sp) : List Sp := (l.foldl put1 []).reverse
def joinS (l : List Sp) : List Sp := mergeR (l.mergeSort fun a b => decide (a.f0 ≤ b.f0))

/-- Is the number in one of the spans? -/
def inS (l : List Sp) (n : Int) : Prop := ∃ s, s ∈ l ∧ s.f0 ≤ n ∧ n < s.f1
theorem inS_nil (n : Int) : ¬ inS [] n := fun ⟨_, h, _⟩ => by cases h
theorem inS_cons (s : Sp) (l : List Sp) (n : Int) : inS (s :: l) n ↔ (s.f0 ≤ n ∧ n < s.f1) ∨ inS l n := by
  constructor
  · rintro ⟨t, ht, h1, h2⟩
    rcases List.mem_cons.1 ht with rfl | ht
    · exact .inl ⟨h1, h2⟩
    · exact .inr ⟨t, ht, h1, h2⟩
  · rintro (⟨h1, h2⟩ | ⟨t, ht, h1, h2⟩)
    · exact ⟨s, List.mem_cons_self, h1, h2⟩
    · exact ⟨t, List.mem_cons_of_mem _ ht, h1, h2⟩
theorem inS_append (l m : List Sp) (n : Int) : inS (l ++ m) n ↔ inS l n ∨ inS m n := by
  constructor
  · rintro ⟨t, ht, h⟩
    rcases List.mem_append.1 ht with ht | ht
    · exact .inl ⟨t, ht, h⟩
    · exact .inr ⟨t, ht, h⟩
  · rintro (⟨t, ht, h⟩ | ⟨t, ht, h⟩)
    · exact ⟨t, List.mem_append_left _ ht, h⟩
    · exact ⟨t, List.mem_append_right _ ht, h⟩
theorem inS_perm {l m : List Sp} (h : l.Perm m) (n : Int) : inS l n ↔ inS m n :=
  ⟨fun ⟨t, ht, k⟩ => ⟨t, h.mem_iff.1 ht, k⟩, fun ⟨t, ht, k⟩ => ⟨t, h.mem_iff.2 ht, k⟩⟩
theorem rightFrom_mono {a b : Int} (h : b ≤ a) : ∀ {l : List Sp}, rightFrom a l = true → rightFrom b l = true
  | [], _ => rfl
  | s :: l, hr => by
    rw [rightFrom_cons] at *
    exact ⟨by omega, hr.2⟩
theorem rightFrom_lt {a n : Int} : ∀ {l : List Sp}, rightFrom a l = true → inS l n → a < n
  | [], _, h => absurd h (inS_nil n)
  | s :: l, hr, h => by
    rw [rightFrom_cons] at hr
    rcases (inS_cons s l n).1 h with h | h
    · omega
    · have hg := (goodB_iff s).1 hr.2.1
      have := rightFrom_lt hr.2.2 h
      omega
/-- A right list is told by what it covers. -/
theorem right_unique : ∀ {a : Int} {l m : List Sp}, rightFrom a l = true → rightFrom a m = true → (∀ n, inS l n ↔ inS m n) → l = m
  | _, [], [], _, _, _ => rfl
  | a, [], s :: m, _, h2, h => by
    have hg := (goodB_iff s).1 ((rightFrom_cons a s m).1 h2).2.1
    exact absurd ((h s.f0).2 ((inS_cons _ _ _).2 (.inl ⟨by omega, by omega⟩))) (inS_nil _)
  | a, s :: l, [], h1, _, h => by
    have hg := (goodB_iff s).1 ((rightFrom_cons a s l).1 h1).2.1
    exact absurd ((h s.f0).1 ((inS_cons _ _ _).2 (.inl ⟨by omega, by omega⟩))) (inS_nil _)
  | a, s :: l, t :: m, h1, h2, h => by
    obtain ⟨a1, g1, r1⟩ := (rightFrom_cons a s l).1 h1
    obtain ⟨a2, g2, r2⟩ := (rightFrom_cons a t m).1 h2
    have G1 := (goodB_iff s).1 g1
    have G2 := (goodB_iff t).1 g2
    have e0 : s.f0 = t.f0 := by
      have i1 := (inS_cons _ _ _).1 ((h s.f0).1 ((inS_cons _ _ _).2 (.inl ⟨by omega, by omega⟩)))
      have i2 := (inS_cons _ _ _).1 ((h t.f0).2 ((inS_cons _ _ _).2 (.inl ⟨by omega, by omega⟩)))
      rcases i1 with i1 | i1
      · rcases i2 with i2 | i2
        · omega
        · have := rightFrom_lt r1 i2; omega
      · have := rightFrom_lt r2 i1
        rcases i2 with i2 | i2
        · omega
        · have := rightFrom_lt r1 i2; omega
    have e1 : s.f1 = t.f1 := by
      rcases Int.lt_trichotomy s.f1 t.f1 with hlt | heq | hgt
      · have i1 := (inS_cons _ _ _).1 ((h s.f1).2 ((inS_cons _ _ _).2 (.inl ⟨by omega, by omega⟩)))
        rcases i1 with i1 | i1
        · omega
        · have := rightFrom_lt r1 i1; omega
      · exact heq
      · have i1 := (inS_cons _ _ _).1 ((h t.f1).1 ((inS_cons _ _ _).2 (.inl ⟨by omega, by omega⟩)))
        rcases i1 with i1 | i1
        · omega
        · have := rightFrom_lt r2 i1; omega
    have es : s = t := by
      obtain ⟨x0, x1⟩ := s
      obtain ⟨y0, y1⟩ := t
      simp only at e0 e1
      rw [e0, e1]
    subst es
    congr 1
    refine right_unique r1 r2 (fun n => ?_)
    constructor
    · intro hi
      have := rightFrom_lt r1 hi
      rcases (inS_cons _ _ _).1 ((h n).1 ((inS_cons _ _ _).2 (.inr hi))) with i | i
      · omega
      · exact i
    · intro hi
      have := rightFrom_lt r2 hi
      rcases (inS_cons _ _ _).1 ((h n).2 ((inS_cons _ _ _).2 (.inr hi))) with i | i
      · omega
      · exact i

/-- The join, from its first span on. -/
def mergeAux : Sp → List Sp → List Sp
  | c, [] => [c]
  | c, s :: r => if s.f0 ≤ c.f1 then mergeAux ⟨c.f0, mx c.f1 s.f1⟩ r else c :: mergeAux s r
theorem foldl_put1 : ∀ (l : List Sp) (c : Sp) (out : List Sp), (l.foldl put1 (c :: out)).reverse = out.reverse ++ mergeAux c l
  | [], c, out => by simp [mergeAux]
  | s :: l, c, out => by
    simp only [List.foldl_cons, put1, mergeAux]
    by_cases h : s.f0 ≤ c.f1
    · rw [if_pos h, if_pos h]; exact foldl_put1 l _ _
    · rw [if_neg h, if_neg h, foldl_put1 l s (c :: out)]; simp
theorem mergeR_cons (c : Sp) (l : List Sp) : mergeR (c :: l) = mergeAux c l := by
  unfold mergeR
  rw [List.foldl_cons, show put1 [] c = [c] from rfl]
  have := foldl_put1 l c []
  simpa using this
theorem mx_cases (a b : Int) : (a < b ∧ mx a b = b) ∨ (b ≤ a ∧ mx a b = a) := by unfold mx; split <;> omega
theorem mergeAux_right : ∀ (l : List Sp) (c : Sp) (a : Int), a < c.f0 → goodB c = true → (∀ s ∈ l, goodB s = true) → (c :: l).Pairwise (fun x y => x.f0 ≤ y.f0) →
    rightFrom a (mergeAux c l) = true ∧ ∀ n, inS (mergeAux c l) n ↔ inS (c :: l) n
  | [], c, a, ha, hc, _, _ => ⟨by rw [mergeAux, rightFrom_cons]; exact ⟨ha, hc, rfl⟩, fun n => Iff.rfl⟩
  | s :: l, c, a, ha, hc, hg, hs => by
    rw [List.pairwise_cons] at hs
    have hcs : c.f0 ≤ s.f0 := hs.1 s List.mem_cons_self
    have gs := hg s List.mem_cons_self
    have G1 := (goodB_iff c).1 hc
    have G2 := (goodB_iff s).1 gs
    unfold mergeAux
    by_cases h : s.f0 ≤ c.f1
    · rw [if_pos h]
      have hm := mx_cases c.f1 s.f1
      have hgm : goodB ⟨c.f0, mx c.f1 s.f1⟩ = true := by rw [goodB_iff]; simp only; omega
      have hpw : (⟨c.f0, mx c.f1 s.f1⟩ :: l : List Sp).Pairwise (fun x y => x.f0 ≤ y.f0) := by
        rw [List.pairwise_cons]
        exact ⟨fun x hx => hs.1 x (List.mem_cons_of_mem _ hx), (List.pairwise_cons.1 hs.2).2⟩
      obtain ⟨r1, r2⟩ := mergeAux_right l ⟨c.f0, mx c.f1 s.f1⟩ a ha hgm (fun x hx => hg x (List.mem_cons_of_mem _ hx)) hpw
      refine ⟨r1, fun n => ?_⟩
      rw [r2 n, inS_cons, inS_cons, inS_cons]
      simp only
      constructor
      · rintro (h1 | h1)
        · by_cases h3 : n < c.f1
          · exact .inl ⟨h1.1, h3⟩
          · exact .inr (.inl (by omega))
        · exact .inr (.inr h1)
      · rintro (h1 | h1 | h1)
        · exact .inl (by omega)
        · exact .inl (by omega)
        · exact .inr h1
    · rw [if_neg h]
      obtain ⟨r1, r2⟩ := mergeAux_right l s c.f1 (by omega) gs (fun x hx => hg x (List.mem_cons_of_mem _ hx)) hs.2
      refine ⟨by rw [rightFrom_cons]; exact ⟨ha, hc, r1⟩, fun n => ?_⟩
      rw [inS_cons, r2 n, inS_cons c]
theorem mergeR_right (l : List Sp) (hg : ∀ s ∈ l, goodB s = true) (hs : l.Pairwise (fun x y => x.f0 ≤ y.f0)) : rightB (mergeR l) = true ∧ ∀ n, inS (mergeR l) n ↔ inS l n := by
  cases l with
  | nil => exact ⟨rfl, fun n => Iff.rfl⟩
  | cons c l =>
    rw [mergeR_cons]
    have hc := hg c List.mem_cons_self
    have := (goodB_iff c).1 hc
    exact mergeAux_right l c (-1) (by omega) hc (fun s h => hg s (List.mem_cons_of_mem _ h)) hs
theorem joinS_right (l : List Sp) (hg : ∀ s ∈ l, goodB s = true) : rightB (joinS l) = true ∧ ∀ n, inS (joinS l) n ↔ inS l n := by
  have hp := List.mergeSort_perm l fun a b => decide (a.f0 ≤ b.f0)
  have hs := List.pairwise_mergeSort (le := fun (a b : Sp) => decide (a.f0 ≤ b.f0)) (by intro a b c h1 h2; simp at *; omega) (by intro a b; simp; omega) l
  obtain ⟨r1, r2⟩ := mergeR_right (l.mergeSort fun a b => decide (a.f0 ≤ b.f0)) (fun s h => hg s (hp.mem_iff.1 h)) (hs.imp (by intro a b h; simpa using h))
  exact ⟨r1, fun n => (r2 n).trans (inS_perm hp n)⟩
/-- Whatever the order that a sort leaves: the join is the one list. -/
theorem mergeR_joinS (l d : List Sp) (hg : ∀ s ∈ l, goodB s = true) (hp : d.Perm l) (hs : d.Pairwise (fun x y => x.f0 ≤ y.f0)) : mergeR d = joinS l := by
  obtain ⟨r1, r2⟩ := mergeR_right d (fun s h => hg s (hp.mem_iff.1 h)) hs
  obtain ⟨q1, q2⟩ := joinS_right l hg
  exact right_unique r1 q1 (fun n => (r2 n).trans ((inS_perm hp n).trans (q2 n).symm))
/-- A list that is right, and covers what another one's spans cover, is their join. -/
theorem joinS_eq (l r : List Sp) (hg : ∀ s ∈ l, goodB s = true) (hr : rightB r = true) (hc : ∀ n, inS r n ↔ inS l n) : joinS l = r := by
  obtain ⟨q1, q2⟩ := joinS_right l hg
  exact right_unique q1 hr (fun n => (q2 n).trans (hc n).symm)
end Go.Proofs.Ytmfckkgebdfhjaa.Q
