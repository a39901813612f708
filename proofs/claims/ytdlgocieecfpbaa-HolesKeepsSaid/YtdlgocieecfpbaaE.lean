/- Lists of spans: what the program's functions compute of them, and what that means. -/
import Derived.Test.YtdlgocieecfpbaaQG1
import Derived.Test.YtdlgocieecfpbaaQFspanCut
import Derived.Test.YtdlgocieecfpbaaQFmosaiclaw13same
import Derived.Test.YtdlgocieecfpbaaQFmosaiclaw13size
import Derived.Test.YtdlgocieecfpbaaQFmosaiclaw13right
import Derived.Test.YtdlgocieecfpbaaQFmosaiclaw13within
import Derived.Test.YtdlgocieecfpbaaQFmosaiclaw13meets
namespace Go.Proofs.Ytdlgocieecfpbaa.Q
open Go.RowKit Go.Proofs.YtdlgocieecfpbaaW.PrintWords Go.Proofs.YtdlgocieecfpbaaW.PrintLast Go.Proofs.YtdlgocieecfpbaaW.PrintMore
theorem rdT (l : List Sp) (i : Nat) (h : i < l.length) : rd_T50 l (i : Int) = l[i] := by
  simp [rd_T50, List.getD_eq_getElem?_getD, List.getElem?_eq_getElem h]
theorem wr1 (i : Nat) (h : i < 4611686018427387904) : wrap64 ((i : Int) + 1) = ((i + 1 : Nat) : Int) := by unfold wrap64; omega
theorem dropc (l : List Sp) (i : Nat) (h : i < l.length) : l.drop i = l[i] :: l.drop (i + 1) := List.drop_eq_getElem_cons h
theorem drop_nil (l : List Sp) (i : Nat) (h : l.length ≤ i) : l.drop i = [] := List.drop_eq_nil_of_le h

/-! ### own, same -/
theorem same_l0 (a b : List Sp) (hl : a.length = b.length) (hb : a.length < 4611686018427387904) : ∀ (d i k : Nat), i + d = a.length → d < k → mosaiclaw13_same.l0 k a b (i : Int) = some (decide (a.drop i = b.drop i)) := by
  intro d
  induction d with
  | zero =>
    intro i k hi hk
    obtain ⟨k, rfl⟩ : ∃ m, k = m + 1 := ⟨k - 1, by omega⟩
    rw [drop_nil a i (by omega), drop_nil b i (by omega)]
    simp only [mosaiclaw13_same.l0]
    rw [if_neg (by omega)]; rfl
  | succ d ih =>
    intro i k hi hk
    obtain ⟨k, rfl⟩ : ∃ m, k = m + 1 := ⟨k - 1, by omega⟩
    have hlt : i < a.length := by omega
    have hlt2 : i < b.length := by omega
    simp only [mosaiclaw13_same.l0]
    rw [if_pos (by omega), if_pos (by omega), if_pos (by omega), rdT a i hlt, rdT b i hlt2, wr1 i (by omega), ih (i + 1) k (by omega) (by omega), dropc a i hlt, dropc b i hlt2]
    generalize a[i] = x
    generalize b[i] = y
    generalize a.drop (i + 1) = u
    generalize b.drop (i + 1) = v
    obtain ⟨x0, x1⟩ := x
    obtain ⟨y0, y1⟩ := y
    by_cases h0 : x0 = y0 <;> by_cases h1 : x1 = y1 <;> simp [h0, h1]
theorem same_eval (a b : List Sp) (hb : a.length < 4611686018427387904) (k : Nat) (hk : a.length < k) : mosaiclaw13_same.f k a b = some (decide (a = b)) := by
  unfold mosaiclaw13_same.f
  by_cases hl : a.length = b.length
  · rw [if_pos (by omega)]
    have := same_l0 a b hl hb a.length 0 k (by omega) hk
    rw [show (0 : Int) = ((0 : Nat) : Int) from rfl, this]; rfl
  · rw [if_neg (by omega)]
    have : a ≠ b := fun h => hl (by rw [h])
    simp [this]

/-! ### Norm -/
theorem right_len : ∀ {l : List Sp} {a : Int}, rightFrom a l = true → -1 ≤ a → (l.length : Int) ≤ 65536 ∧ (l ≠ [] → (l.length : Int) + a ≤ 65535)
  | [], a, _, _ => ⟨by simp, fun h => absurd rfl h⟩
  | s :: l, a, h, ha => by
    rw [rightFrom_cons] at h
    obtain ⟨h1, h2, h3⟩ := h
    have hg := (goodB_iff s).1 h2
    obtain ⟨i1, i2⟩ := right_len h3 (by omega)
    by_cases hl : l = []
    · subst hl; simp; omega
    · have := i2 hl
      simp only [List.length_cons]
      constructor
      · omega
      · intro _; omega
theorem rightB_len {l : List Sp} (h : rightB l = true) : l.length ≤ 65536 := by
  have := (right_len (l := l) h (by omega)).1
  omega
def sizeS : List Sp → Int
  | [] => 0
  | s :: l => (s.f1 - s.f0) + sizeS l
theorem sizeS_nonneg : ∀ {l : List Sp} {a : Int}, rightFrom a l = true → -1 ≤ a → 0 ≤ sizeS l ∧ (a ≤ 65535 → sizeS l ≤ 65535 - a)
  | [], a, _, _ => ⟨by simp [sizeS], fun h => by simp [sizeS]; omega⟩
  | s :: l, a, h, ha => by
    rw [rightFrom_cons] at h
    obtain ⟨h1, h2, h3⟩ := h
    have hg := (goodB_iff s).1 h2
    obtain ⟨i1, i2⟩ := sizeS_nonneg h3 (by omega)
    have := i2 (by omega)
    simp only [sizeS]
    exact ⟨by omega, fun _ => by omega⟩
def cutF (s x : Sp) : List Sp := (if x.f0 < mn x.f1 s.f0 then [⟨x.f0, mn x.f1 s.f0⟩] else []) ++ (if mx x.f0 s.f1 < x.f1 then [⟨mx x.f0 s.f1, x.f1⟩] else [])
def cutS (l : List Sp) (s : Sp) : List Sp := l.flatMap (cutF s)
theorem cutF_len (s x : Sp) : (cutF s x).length ≤ 2 := by unfold cutF; split <;> split <;> simp
theorem cut_l0 (l : List Sp) (hb : l.length ≤ 65536) (s : Sp) : ∀ (d i k : Nat) (out : List Sp), i + d = l.length → d < k → out.length + 2 * d ≤ 1000000 → span_Cut.l0 k out l (l.length : Int) (i : Int) s.f0 s.f1 = some (out ++ cutS (l.drop i) s, 0) := by
  intro d
  induction d with
  | zero =>
    intro i k out hi hk h0
    obtain ⟨k, rfl⟩ : ∃ m, k = m + 1 := ⟨k - 1, by omega⟩
    rw [drop_nil l i (by omega)]
    simp only [span_Cut.l0]
    rw [if_neg (by omega)]
    simp [cutS]
  | succ d ih =>
    intro i k out hi hk h0
    obtain ⟨k, rfl⟩ : ∃ m, k = m + 1 := ⟨k - 1, by omega⟩
    have hlt : i < l.length := by omega
    have hout : out.length < 8796093022208 := by omega
    simp only [span_Cut.l0]
    rw [if_pos (by omega), if_pos (by omega), if_pos (by omega), rdT l i hlt, wr1 i (by omega), dropc l i hlt]
    have step : ∀ o : List Sp, o.length ≤ out.length + 2 → span_Cut.l0 k o l (l.length : Int) ((i + 1 : Nat) : Int) s.f0 s.f1 = some (o ++ cutS (l.drop (i + 1)) s, 0) := fun o ho => ih (i + 1) k o (by omega) (by omega) (by omega)
    have e : cutS (l[i] :: l.drop (i + 1)) s = cutF s l[i] ++ cutS (l.drop (i + 1)) s := rfl
    rw [e]
    unfold cutF
    by_cases h1 : l[i].f0 < mn l[i].f1 s.f0
    · rw [if_pos h1, if_pos hout, if_pos h1]
      simp only [Option.bind_some]
      by_cases h2 : mx l[i].f0 s.f1 < l[i].f1
      · rw [if_pos h2, if_pos (by simp; omega), if_pos h2, step _ (by simp)]
        simp
      · rw [if_neg h2, if_neg h2, step _ (by simp)]
        simp
    · rw [if_neg h1, if_neg h1]
      by_cases h2 : mx l[i].f0 s.f1 < l[i].f1
      · rw [if_pos h2, if_pos hout, if_pos h2, step _ (by simp)]
        simp
      · rw [if_neg h2, if_neg h2, step _ (by omega)]
        simp
theorem cut_eval (l : List Sp) (hr : rightB l = true) (a b : Int) (hg : goodB ⟨a, b⟩ = true) (k : Nat) (hk : l.length + 1 < k) : span_Cut.f k l a b = some (cutS l ⟨a, b⟩, 0) := by
  have hl := rightB_len hr
  unfold span_Cut.f
  rw [right_eval l (by omega) k (by omega), hr]
  simp only [Option.bind_some, if_true]
  rw [good_eval, hg]
  simp only [Option.bind_some]
  obtain ⟨k, rfl⟩ : ∃ m, k = m + 1 := ⟨k - 1, by omega⟩
  simp only [span_Cut.j0]
  rw [if_neg (by simp)]
  have := cut_l0 l hl ⟨a, b⟩ l.length 0 k [] (by omega) (by omega) (by simp; omega)
  rw [show ((0 : Nat) : Int) = (0 : Int) from rfl] at this
  rw [this]; simp

/-! ### Holes -/
def inB (l : List Sp) (n : Int) : Bool := l.any fun s => decide (s.f0 ≤ n) && decide (n < s.f1)
theorem inB_iff (l : List Sp) (n : Int) : inB l n = true ↔ inS l n := by
  unfold inB inS
  rw [List.any_eq_true]
  simp
/-! ### alive -/
theorem mn_cases (a b : Int) : (b < a ∧ mn a b = b) ∨ (a ≤ b ∧ mn a b = a) := by unfold mn; split <;> omega
theorem sizeS_append (a b : List Sp) : sizeS (a ++ b) = sizeS a + sizeS b := by
  induction a with
  | nil => simp [sizeS]
  | cons x a ih => rw [List.cons_append]; simp only [sizeS, ih]; omega
theorem cutS_spec (s : Sp) (hs : s.f0 < s.f1) : ∀ (l : List Sp) (a : Int), rightFrom a l = true → rightFrom a (cutS l s) = true ∧ ∀ n, inS (cutS l s) n ↔ inS l n ∧ ¬ (s.f0 ≤ n ∧ n < s.f1)
  | [], a, _ => ⟨rfl, fun n => by simp [cutS, inS_nil]⟩
  | x :: l, a, hr => by
    rw [rightFrom_cons] at hr
    obtain ⟨h1, h2, h3⟩ := hr
    have hg := (goodB_iff x).1 h2
    obtain ⟨i1, i2⟩ := cutS_spec s hs l x.f1 h3
    have e : cutS (x :: l) s = cutF s x ++ cutS l s := rfl
    rw [e]
    unfold cutF
    have hm := mn_cases x.f1 s.f0
    have hM := mx_cases x.f0 s.f1
    by_cases c1 : x.f0 < mn x.f1 s.f0
    · rw [if_pos c1]
      by_cases c2 : mx x.f0 s.f1 < x.f1
      · rw [if_pos c2]
        refine ⟨?_, fun n => ?_⟩
        · simp only [List.cons_append, List.nil_append, rightFrom_cons, goodB_iff]
          exact ⟨by omega, by omega, by omega, by omega, i1⟩
        · simp only [List.cons_append, List.nil_append, inS_cons, i2 n]
          by_cases hp : inS l n
          · have := rightFrom_lt h3 hp
            simp only [hp, or_true, true_and]
            omega
          · simp only [hp, or_false, false_and]
            omega
      · rw [if_neg c2]
        refine ⟨?_, fun n => ?_⟩
        · simp only [List.cons_append, List.nil_append, rightFrom_cons, goodB_iff]
          exact ⟨by omega, by omega, rightFrom_mono (by omega) i1⟩
        · simp only [List.cons_append, List.nil_append, inS_cons, i2 n]
          by_cases hp : inS l n
          · have := rightFrom_lt h3 hp
            simp only [hp, or_true, true_and]
            omega
          · simp only [hp, or_false, false_and]
            omega
    · rw [if_neg c1]
      by_cases c2 : mx x.f0 s.f1 < x.f1
      · rw [if_pos c2]
        refine ⟨?_, fun n => ?_⟩
        · simp only [List.cons_append, List.nil_append, rightFrom_cons, goodB_iff]
          exact ⟨by omega, by omega, i1⟩
        · simp only [List.cons_append, List.nil_append, inS_cons, i2 n]
          by_cases hp : inS l n
          · have := rightFrom_lt h3 hp
            simp only [hp, or_true, true_and]
            omega
          · simp only [hp, or_false, false_and]
            omega
      · rw [if_neg c2]
        refine ⟨?_, fun n => ?_⟩
        · simp only [List.nil_append]
          exact rightFrom_mono (by omega) i1
        · simp only [List.nil_append, inS_cons, i2 n]
          by_cases hp : inS l n
          · have := rightFrom_lt h3 hp
            simp only [hp, or_true, true_and]
          · simp only [hp, or_false, false_and, false_iff]
            omega
theorem right_good : ∀ {l : List Sp} {a : Int}, rightFrom a l = true → ∀ s ∈ l, goodB s = true
  | [], _, _, s, hs => by cases hs
  | t :: l, a, h, s, hs => by
    rw [rightFrom_cons] at h
    rcases List.mem_cons.1 hs with rfl | hs
    · exact h.2.1
    · exact right_good h.2.2 s hs
def cutA (l : List Sp) (s : Sp) : List Sp × Int := if (rightB l && goodB s) = true then (cutS l s, 0) else ([], 1)
def hasA (l : List Sp) (s : Sp) : Bool := rightB l && goodB s && l.any fun x => decide (x.f0 ≤ s.f0) && decide (s.f1 ≤ x.f1)
theorem cut_evalA (l : List Sp) (hl : l.length ≤ 5000000) (a b : Int) (k : Nat) (hk : l.length + 1 < k) : span_Cut.f k l a b = some (cutA l ⟨a, b⟩) := by
  unfold cutA
  cases h1 : rightB l with
  | false =>
    unfold span_Cut.f
    rw [right_eval l (by omega) k (by omega), h1]
    obtain ⟨k, rfl⟩ : ∃ m, k = m + 1 := ⟨k - 1, by omega⟩
    simp [span_Cut.j0]
  | true =>
    cases h2 : goodB ⟨a, b⟩ with
    | false =>
      unfold span_Cut.f
      rw [right_eval l (by omega) k (by omega), h1]
      obtain ⟨k, rfl⟩ : ∃ m, k = m + 1 := ⟨k - 1, by omega⟩
      rw [good_eval, h2]
      simp [span_Cut.j0]
    | true =>
      rw [cut_eval l h1 a b h2 k hk]
      rfl
theorem all_one {s : Sp} (h : goodB s = true) : ∀ x ∈ [s], goodB x = true := fun x hx => by rw [List.mem_singleton.1 hx]; exact h
/-- What a right list covers whole stands in one span of it. -/
theorem one_holds : ∀ (l : List Sp) (c a b : Int), rightFrom c l = true → a < b → (∀ n, a ≤ n → n < b → inS l n) → ∃ x, x ∈ l ∧ x.f0 ≤ a ∧ b ≤ x.f1
  | [], _, a, b, _, h, hc => absurd (hc a (by omega) h) (inS_nil _)
  | x :: l, c, a, b, hr, h, hc => by
    rw [rightFrom_cons] at hr
    obtain ⟨h1, h2, h3⟩ := hr
    rcases (inS_cons _ _ _).1 (hc a (by omega) h) with i | i
    · rcases Int.lt_or_le x.f1 b with c1 | c1
      · exfalso
        rcases (inS_cons _ _ _).1 (hc x.f1 (by omega) c1) with j | j
        · omega
        · have := rightFrom_lt h3 j; omega
      · exact ⟨x, List.mem_cons_self, i.1, c1⟩
    · have hlt := rightFrom_lt h3 i
      obtain ⟨y, hy, e⟩ := one_holds l x.f1 a b h3 h (fun n n1 n2 => by
        rcases (inS_cons _ _ _).1 (hc n n1 n2) with j | j
        · omega
        · exact j)
      exact ⟨y, List.mem_cons_of_mem _ hy, e⟩
def cnt (p : Int → Bool) : Nat → Int
  | 0 => 0
  | N + 1 => cnt p N + if p (N : Int) then 1 else 0
theorem cnt_or (p q r : Int → Bool) (h : ∀ n, r n = (p n || q n)) (hd : ∀ n, ¬ (p n = true ∧ q n = true)) : ∀ N, cnt r N = cnt p N + cnt q N
  | 0 => rfl
  | N + 1 => by
    have i := cnt_or p q r h hd N
    have d := hd (N : Int)
    simp only [cnt, i, h]
    cases hp : p (N : Int) <;> cases hq : q (N : Int) <;> simp_all <;> omega
theorem cnt_none (p : Int → Bool) (h : ∀ n, p n = false) : ∀ N, cnt p N = 0
  | 0 => rfl
  | N + 1 => by simp only [cnt, cnt_none p h N, h]; simp
theorem cnt_one (a b : Int) (h0 : 0 ≤ a) (h1 : a ≤ b) (p : Int → Bool) (h : ∀ n, p n = true ↔ a ≤ n ∧ n < b) : ∀ N : Nat, cnt p N = if b ≤ (N : Int) then b - a else if a ≤ (N : Int) then (N : Int) - a else 0
  | 0 => by
    simp only [cnt]
    split
    · omega
    · split <;> omega
  | N + 1 => by
    simp only [cnt, cnt_one a b h0 h1 p h N]
    have hN := h (N : Int)
    cases hp : p (N : Int) with
    | true =>
      have := hN.1 hp
      rw [if_neg (by omega), if_pos (by omega), if_pos rfl]
      split
      · omega
      · rw [if_pos (by omega)]; omega
    | false =>
      have : ¬ (a ≤ (N : Int) ∧ (N : Int) < b) := fun hc => by rw [hN.2 hc] at hp; cases hp
      simp only [Bool.false_eq_true, if_false]
      split
      · rw [if_pos (by omega)]; omega
      · rw [if_neg (by omega)]
        split
        · omega
        · split
          · omega
          · rfl
theorem size_cnt : ∀ (l : List Sp) (a : Int), -1 ≤ a → rightFrom a l = true → sizeS l = cnt (inB l) 65535
  | [], _, _, _ => by rw [cnt_none (inB []) (fun n => rfl)]; rfl
  | s :: l, a, ha, h => by
    rw [rightFrom_cons] at h
    obtain ⟨h1, h2, h3⟩ := h
    have hg := (goodB_iff s).1 h2
    have i := size_cnt l s.f1 (by omega) h3
    rw [cnt_or (fun n => decide (s.f0 ≤ n) && decide (n < s.f1)) (inB l) (inB (s :: l)) (fun n => rfl) (fun n hn => by
      have h4 := rightFrom_lt h3 ((inB_iff l n).1 hn.2)
      have h5 := hn.1
      simp only [Bool.and_eq_true, decide_eq_true_eq] at h5
      omega) 65535, cnt_one s.f0 s.f1 hg.1 (by omega) _ (fun n => by simp) 65535, ← i, if_pos (by omega)]
    rfl
/-- Right lists that part a third one: their sizes add. -/
theorem size_union {x y z : List Sp} (hx : rightB x = true) (hy : rightB y = true) (hz : rightB z = true) (h : ∀ n, inS x n ↔ inS y n ∨ inS z n) (hd : ∀ n, ¬ (inS y n ∧ inS z n)) : sizeS x = sizeS y + sizeS z := by
  rw [size_cnt x (-1) (by omega) hx, size_cnt y (-1) (by omega) hy, size_cnt z (-1) (by omega) hz]
  refine cnt_or _ _ _ (fun n => ?_) (fun n hn => hd n ⟨(inB_iff y n).1 hn.1, (inB_iff z n).1 hn.2⟩) _
  rw [Bool.eq_iff_iff, Bool.or_eq_true, inB_iff, inB_iff, inB_iff]
  exact h n
theorem one_right {s : Sp} (h : goodB s = true) : rightB [s] = true := by
  have g := (goodB_iff s).1 h
  rw [rightB, rightFrom_cons]; exact ⟨by omega, h, rfl⟩
theorem inS_one (s : Sp) (n : Int) : inS [s] n ↔ s.f0 ≤ n ∧ n < s.f1 := by rw [inS_cons]; simp [inS_nil]
end Go.Proofs.Ytdlgocieecfpbaa.Q
