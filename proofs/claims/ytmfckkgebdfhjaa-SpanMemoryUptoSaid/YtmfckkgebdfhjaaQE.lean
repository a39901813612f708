/- What the printed functions over spans come to: plain facts on lists and numbers. -/
import Derived.Test.YtmfckkgebdfhjaaQFspanSize
import Derived.Test.YtmfckkgebdfhjaaQFspanCut
import Derived.Test.YtmfckkgebdfhjaaQFspanHoles
import Derived.Test.YtmfckkgebdfhjaaQFspanNorm
import Derived.Test.YtmfckkgebdfhjaaQFmosaiclaw09same
import Derived.Test.YtmfckkgebdfhjaaQFmosaiclaw09alive
import Derived.Test.YtmfckkgebdfhjaaQFmosaiclaw09own
namespace Go.Proofs.Ytmfckkgebdfhjaa.Q
open Go.RowKit Go.Proofs.YtmfckkgebdfhjaaW.PrintWords Go.Proofs.YtmfckkgebdfhjaaW.PrintLast Go.Proofs.YtmfckkgebdfhjaaW.PrintMore

theorem rdT (l : List Sp) (i : Nat) (h : i < l.length) : rd_T24 l (i : Int) = l[i] := by
  simp [rd_T24, List.getD_eq_getElem?_getD, List.getElem?_eq_getElem h]
theorem wr1 (i : Nat) (h : i < 4611686018427387904) : wrap64 ((i : Int) + 1) = ((i + 1 : Nat) : Int) := by unfold wrap64; omega
theorem dropc (l : List Sp) (i : Nat) (h : i < l.length) : l.drop i = l[i] :: l.drop (i + 1) := List.drop_eq_getElem_cons h
theorem drop_nil (l : List Sp) (i : Nat) (h : l.length ≤ i) : l.drop i = [] := List.drop_eq_nil_of_le h

/-! ### own, same -/
theorem own_l0 (l : List Sp) (hb : l.length < 8796093022208) : ∀ (d i k : Nat) (out : List Sp), i + d = l.length → d < k → out.length + d < 8796093022208 → mosaiclaw09_own.l0 k l out (i : Int) = some (out ++ l.drop i) := by
  intro d
  induction d with
  | zero =>
    intro i k out hi hk ho
    obtain ⟨k, rfl⟩ : ∃ m, k = m + 1 := ⟨k - 1, by omega⟩
    rw [drop_nil l i (by omega), List.append_nil]
    simp only [mosaiclaw09_own.l0]
    rw [if_neg (by omega)]
  | succ d ih =>
    intro i k out hi hk ho
    obtain ⟨k, rfl⟩ : ∃ m, k = m + 1 := ⟨k - 1, by omega⟩
    have hlt : i < l.length := by omega
    simp only [mosaiclaw09_own.l0]
    rw [if_pos (by omega), if_pos (by omega), if_pos (by omega), rdT l i hlt, wr1 i (by omega), ih (i + 1) k _ (by omega) (by omega) (by simp; omega), dropc l i hlt, List.append_assoc]
    rfl
theorem own_eval (l : List Sp) (hb : l.length < 8796093022208) (k : Nat) (hk : l.length < k) : mosaiclaw09_own.f k l = some l := by
  have := own_l0 l hb l.length 0 k [] (by omega) hk (by simp; omega)
  unfold mosaiclaw09_own.f
  rw [show (0 : Int) = ((0 : Nat) : Int) from rfl, this]; rfl
theorem same_l0 (a b : List Sp) (hl : a.length = b.length) (hb : a.length < 4611686018427387904) : ∀ (d i k : Nat), i + d = a.length → d < k → mosaiclaw09_same.l0 k a b (i : Int) = some (decide (a.drop i = b.drop i)) := by
  intro d
  induction d with
  | zero =>
    intro i k hi hk
    obtain ⟨k, rfl⟩ : ∃ m, k = m + 1 := ⟨k - 1, by omega⟩
    rw [drop_nil a i (by omega), drop_nil b i (by omega)]
    simp only [mosaiclaw09_same.l0]
    rw [if_neg (by omega)]; rfl
  | succ d ih =>
    intro i k hi hk
    obtain ⟨k, rfl⟩ : ∃ m, k = m + 1 := ⟨k - 1, by omega⟩
    have hlt : i < a.length := by omega
    have hlt2 : i < b.length := by omega
    simp only [mosaiclaw09_same.l0]
    rw [if_pos (by omega), if_pos (by omega), if_pos (by omega), rdT a i hlt, rdT b i hlt2, wr1 i (by omega), ih (i + 1) k (by omega) (by omega), dropc a i hlt, dropc b i hlt2]
    generalize a[i] = x
    generalize b[i] = y
    generalize a.drop (i + 1) = u
    generalize b.drop (i + 1) = v
    obtain ⟨x0, x1⟩ := x
    obtain ⟨y0, y1⟩ := y
    by_cases h0 : x0 = y0 <;> by_cases h1 : x1 = y1 <;> simp [h0, h1]
theorem same_eval (a b : List Sp) (hb : a.length < 4611686018427387904) (k : Nat) (hk : a.length < k) : mosaiclaw09_same.f k a b = some (decide (a = b)) := by
  unfold mosaiclaw09_same.f
  by_cases hl : a.length = b.length
  · rw [if_pos (by omega)]
    have := same_l0 a b hl hb a.length 0 k (by omega) hk
    rw [show (0 : Int) = ((0 : Nat) : Int) from rfl, this]; rfl
  · rw [if_neg (by omega)]
    have : a ≠ b := fun h => hl (by rw [h])
    simp [this]

/-! ### Norm -/
def normS (l : List Sp) : List Sp × Int := if l.all goodB = true then (joinS l, 0) else ([], 1)
theorem norm_l0 (l : List Sp) (hb : l.length < 8796093022208) : ∀ (d i k : Nat), i + d = l.length → d < k → span_Norm.l0 k l l (l.length : Int) (i : Int) = (if (l.drop i).all goodB = true then ((span_joined.f 0 l).bind fun t => some (t, 0)) else some ([], 1)) := by
  intro d
  induction d with
  | zero =>
    intro i k hi hk
    obtain ⟨k, rfl⟩ : ∃ m, k = m + 1 := ⟨k - 1, by omega⟩
    rw [drop_nil l i (by omega)]
    simp only [List.all_nil, if_true, span_Norm.l0]
    rw [if_neg (by omega)]
    rfl
  | succ d ih =>
    intro i k hi hk
    obtain ⟨k, rfl⟩ : ∃ m, k = m + 1 := ⟨k - 1, by omega⟩
    have hlt : i < l.length := by omega
    simp only [span_Norm.l0]
    rw [if_pos (by omega), if_pos (by omega), if_pos (by omega), rdT l i hlt, wr1 i (by omega), ih (i + 1) k (by omega) (by omega), dropc l i hlt, good_eval]
    simp only [Option.bind_some]
    by_cases hg : goodB l[i] = true
    · rw [if_pos (show goodB ⟨l[i].f0, l[i].f1⟩ = true from hg)]
      simp only [List.all_cons, hg, Bool.true_and]
    · have hg' : goodB l[i] = false := by simpa using hg
      rw [if_neg (show ¬ goodB ⟨l[i].f0, l[i].f1⟩ = true from hg)]
      simp only [List.all_cons, hg', Bool.false_and, Bool.false_eq_true, if_false]
theorem norm_eval (l : List Sp) (hb : l.length < 8796093022208) (k : Nat) (hk : l.length < k) : span_Norm.f k l = some (normS l) := by
  have := norm_l0 l hb l.length 0 k (by omega) hk
  unfold span_Norm.f
  rw [show (0 : Int) = ((0 : Nat) : Int) from rfl] at this ⊢
  rw [this, List.drop_zero]
  unfold normS
  by_cases h : l.all goodB = true
  · rw [if_pos h, if_pos h]
    unfold span_joined.f
    rw [if_pos hb, if_pos h]; rfl
  · rw [if_neg h, if_neg h]

/-! ### Sizes of right lists -/
theorem right_len : ∀ {l : List Sp} {a : Int}, rightFrom a l = true → -1 ≤ a → (l.length : Int) ≤ 65536 ∧ (l ≠ [] → (l.length : Int) + a ≤ 65535)
  | [], a, _, _ => ⟨by simp, fun h => absurd rfl h⟩
  | s :: l, a, h, ha => by
    rw [rightFrom_cons] at h
    obtain ⟨h1, h2, h3⟩ := h
    have hg := (goodB_iff s).1 h2
    obtain ⟨i1, i2⟩ := right_len h3 (by omega)
    by_cases hl : l = []
    · subst hl; simp; omega
    · have := i2 hl
      simp only [List.length_cons]
      constructor
      · omega
      · intro _; omega
theorem rightB_len {l : List Sp} (h : rightB l = true) : l.length ≤ 65536 := by
  have := (right_len (l := l) h (by omega)).1
  omega
def sizeS : List Sp → Int
  | [] => 0
  | s :: l => (s.f1 - s.f0) + sizeS l
theorem sizeS_nonneg : ∀ {l : List Sp} {a : Int}, rightFrom a l = true → -1 ≤ a → 0 ≤ sizeS l ∧ (a ≤ 65535 → sizeS l ≤ 65535 - a)
  | [], a, _, _ => ⟨by simp [sizeS], fun h => by simp [sizeS]; omega⟩
  | s :: l, a, h, ha => by
    rw [rightFrom_cons] at h
    obtain ⟨h1, h2, h3⟩ := h
    have hg := (goodB_iff s).1 h2
    obtain ⟨i1, i2⟩ := sizeS_nonneg h3 (by omega)
    have := i2 (by omega)
    simp only [sizeS]
    exact ⟨by omega, fun _ => by omega⟩
theorem size_l0 (l : List Sp) (hb : l.length ≤ 65536) (hg : ∀ s ∈ l, goodB s = true) : ∀ (d i k : Nat) (acc : Int), i + d = l.length → d < k → 0 ≤ acc → acc + 65536 * (d : Int) ≤ 4611686018427387904 → span_Size.l0 k acc l (l.length : Int) (i : Int) = some (acc + sizeS (l.drop i)) := by
  intro d
  induction d with
  | zero =>
    intro i k acc hi hk h0 h1
    obtain ⟨k, rfl⟩ : ∃ m, k = m + 1 := ⟨k - 1, by omega⟩
    rw [drop_nil l i (by omega)]
    simp only [span_Size.l0]
    rw [if_neg (by omega)]
    simp [sizeS]
  | succ d ih =>
    intro i k acc hi hk h0 h1
    obtain ⟨k, rfl⟩ : ∃ m, k = m + 1 := ⟨k - 1, by omega⟩
    have hlt : i < l.length := by omega
    have g := (goodB_iff _).1 (hg l[i] (List.getElem_mem hlt))
    simp only [span_Size.l0]
    rw [if_pos (by omega), if_pos (by omega), if_pos (by omega), rdT l i hlt, wr1 i (by omega)]
    have e1 : wrap64 (l[i].f1 - l[i].f0) = l[i].f1 - l[i].f0 := by unfold wrap64; omega
    have e2 : wrap64 (acc + (l[i].f1 - l[i].f0)) = acc + (l[i].f1 - l[i].f0) := by unfold wrap64; omega
    rw [e1, e2, ih (i + 1) k _ (by omega) (by omega) (by omega) (by omega), dropc l i hlt]
    simp only [sizeS]
    congr 1; omega
theorem size_eval (l : List Sp) (hr : rightB l = true) (k : Nat) (hk : l.length < k) : span_Size.f k l = some (sizeS l) := by
  have hl := rightB_len hr
  unfold span_Size.f
  rw [right_eval l (by omega) k hk, hr]
  simp only [Option.bind_some, if_true]
  have := size_l0 l hl (fun s hs => right_good hr s hs) l.length 0 k 0 (by omega) hk (by omega) (by omega)
  rw [show ((0 : Nat) : Int) = (0 : Int) from rfl] at this
  rw [this]; simp

/-! ### Cut -/
def cutF (s x : Sp) : List Sp := (if x.f0 < mn x.f1 s.f0 then [⟨x.f0, mn x.f1 s.f0⟩] else []) ++ (if mx x.f0 s.f1 < x.f1 then [⟨mx x.f0 s.f1, x.f1⟩] else [])
def cutS (l : List Sp) (s : Sp) : List Sp := l.flatMap (cutF s)
theorem cutF_len (s x : Sp) : (cutF s x).length ≤ 2 := by unfold cutF; split <;> split <;> simp
theorem cut_l0 (l : List Sp) (hb : l.length ≤ 65536) (s : Sp) : ∀ (d i k : Nat) (out : List Sp), i + d = l.length → d < k → out.length + 2 * d ≤ 1000000 → span_Cut.l0 k out l (l.length : Int) (i : Int) s.f0 s.f1 = some (out ++ cutS (l.drop i) s, 0) := by
  intro d
  induction d with
  | zero =>
    intro i k out hi hk h0
    obtain ⟨k, rfl⟩ : ∃ m, k = m + 1 := ⟨k - 1, by omega⟩
    rw [drop_nil l i (by omega)]
    simp only [span_Cut.l0]
    rw [if_neg (by omega)]
    simp [cutS]
  | succ d ih =>
    intro i k out hi hk h0
    obtain ⟨k, rfl⟩ : ∃ m, k = m + 1 := ⟨k - 1, by omega⟩
    have hlt : i < l.length := by omega
    have hout : out.length < 8796093022208 := by omega
    simp only [span_Cut.l0]
    rw [if_pos (by omega), if_pos (by omega), if_pos (by omega), rdT l i hlt, wr1 i (by omega), dropc l i hlt]
    have step : ∀ o : List Sp, o.length ≤ out.length + 2 → span_Cut.l0 k o l (l.length : Int) ((i + 1 : Nat) : Int) s.f0 s.f1 = some (o ++ cutS (l.drop (i + 1)) s, 0) := fun o ho => ih (i + 1) k o (by omega) (by omega) (by omega)
    have e : cutS (l[i] :: l.drop (i + 1)) s = cutF s l[i] ++ cutS (l.drop (i + 1)) s := rfl
    rw [e]
    unfold cutF
    by_cases h1 : l[i].f0 < mn l[i].f1 s.f0
    · rw [if_pos h1, if_pos hout, if_pos h1]
      simp only [Option.bind_some]
      by_cases h2 : mx l[i].f0 s.f1 < l[i].f1
      · rw [if_pos h2, if_pos (by simp; omega), if_pos h2, step _ (by simp)]
        simp
      · rw [if_neg h2, if_neg h2, step _ (by simp)]
        simp
    · rw [if_neg h1, if_neg h1]
      by_cases h2 : mx l[i].f0 s.f1 < l[i].f1
      · rw [if_pos h2, if_pos hout, if_pos h2, step _ (by simp)]
        simp
      · rw [if_neg h2, if_neg h2, step _ (by omega)]
        simp
theorem cut_eval (l : List Sp) (hr : rightB l = true) (a b : Int) (hg : goodB ⟨a, b⟩ = true) (k : Nat) (hk : l.length + 1 < k) : span_Cut.f k l a b = some (cutS l ⟨a, b⟩, 0) := by
  have hl := rightB_len hr
  unfold span_Cut.f
  rw [right_eval l (by omega) k (by omega), hr]
  simp only [Option.bind_some, if_true]
  rw [good_eval, hg]
  simp only [Option.bind_some]
  obtain ⟨k, rfl⟩ : ∃ m, k = m + 1 := ⟨k - 1, by omega⟩
  simp only [span_Cut.j0]
  rw [if_neg (by simp)]
  have := cut_l0 l hl ⟨a, b⟩ l.length 0 k [] (by omega) (by omega) (by simp; omega)
  rw [show ((0 : Nat) : Int) = (0 : Int) from rfl] at this
  rw [this]; simp

/-! ### Holes -/
def holesA : Int → List Sp → Int → List Sp
  | a, [], en => if a < en then [⟨a, en⟩] else []
  | a, s :: l, en => (if a < mn s.f0 en then [⟨a, mn s.f0 en⟩] else []) ++ holesA s.f1 l en
theorem holes_l0 (l : List Sp) (hb : l.length ≤ 65536) (en : Int) : ∀ (d i k : Nat) (out : List Sp) (a : Int), i + d = l.length → d < k → out.length + d ≤ 1000000 → span_Holes.l0 k en out a l (l.length : Int) (i : Int) = some (out ++ holesA a (l.drop i) en, 0) := by
  intro d
  induction d with
  | zero =>
    intro i k out a hi hk h0
    obtain ⟨k, rfl⟩ : ∃ m, k = m + 1 := ⟨k - 1, by omega⟩
    rw [drop_nil l i (by omega)]
    simp only [span_Holes.l0, holesA]
    rw [if_neg (by omega)]
    by_cases h : a < en
    · rw [if_pos h, if_pos (by omega), if_pos h]
    · rw [if_neg h, if_neg h]; simp
  | succ d ih =>
    intro i k out a hi hk h0
    obtain ⟨k, rfl⟩ : ∃ m, k = m + 1 := ⟨k - 1, by omega⟩
    have hlt : i < l.length := by omega
    simp only [span_Holes.l0]
    rw [if_pos (by omega), if_pos (by omega), if_pos (by omega), rdT l i hlt, wr1 i (by omega), dropc l i hlt]
    simp only [holesA]
    by_cases h : a < mn l[i].f0 en
    · rw [if_pos h, if_pos (by omega), if_pos h, ih (i + 1) k _ _ (by omega) (by omega) (by simp; omega)]
      simp
    · rw [if_neg h, if_neg h, ih (i + 1) k _ _ (by omega) (by omega) (by omega)]
      simp
theorem holes_eval (l : List Sp) (hr : rightB l = true) (en : Int) (h0 : 0 ≤ en) (h1 : en ≤ 65535) (k : Nat) (hk : l.length + 1 < k) : span_Holes.f k l en = some (holesA 0 l en, 0) := by
  have hl := rightB_len hr
  unfold span_Holes.f
  rw [right_eval l (by omega) k (by omega), hr]
  simp only [Option.bind_some, if_true]
  rw [if_neg (by omega)]
  obtain ⟨k, rfl⟩ : ∃ m, k = m + 1 := ⟨k - 1, by omega⟩
  simp only [span_Holes.j0]
  rw [if_neg (by simp; omega)]
  have := holes_l0 l hl en l.length 0 k [] 0 (by omega) (by omega) (by simp; omega)
  rw [show ((0 : Nat) : Int) = (0 : Int) from rfl] at this
  rw [this]; simp
theorem holes_refused (l : List Sp) (hr : rightB l = true) (en : Int) (h0 : en < 0 ∨ 65535 < en) (k : Nat) (hk : l.length + 1 < k) : span_Holes.f k l en = some ([], 1) := by
  have hl := rightB_len hr
  unfold span_Holes.f
  rw [right_eval l (by omega) k (by omega), hr]
  simp only [Option.bind_some, if_true]
  obtain ⟨k, rfl⟩ : ∃ m, k = m + 1 := ⟨k - 1, by omega⟩
  simp only [span_Holes.j0]
  by_cases h : en < 0
  · rw [if_pos h, if_pos trivial]
  · rw [if_neg h, if_pos (by simp; omega)]

/-! ### in, rising, spans, near -/
def inB (l : List Sp) (n : Int) : Bool := l.any fun s => decide (s.f0 ≤ n) && decide (n < s.f1)
theorem inB_iff (l : List Sp) (n : Int) : inB l n = true ↔ inS l n := by
  unfold inB inS
  rw [List.any_eq_true]
  simp
/-! ### alive -/
theorem join_a : joinS [⟨0, 8⟩, ⟨16, 24⟩, ⟨8, 16⟩] = [⟨0, 24⟩] :=
  joinS_eq _ _ (by decide) (by decide) (fun n => by simp only [inS_cons, inS_nil, or_false]; omega)
theorem join_b : joinS [⟨8, 16⟩, ⟨0, 8⟩, ⟨32, 40⟩, ⟨36, 38⟩] = [⟨0, 16⟩, ⟨32, 40⟩] :=
  joinS_eq _ _ (by decide) (by decide) (fun n => by simp only [inS_cons, inS_nil, or_false]; omega)
theorem alive_eval (k : Nat) (hk : 100 < k) : mosaiclaw09_alive.f k = some true := by
  unfold mosaiclaw09_alive.f
  simp only [Option.bind_some]
  have r0 : rightB ([⟨0, 8⟩, ⟨16, 24⟩] : List Sp) = true := by decide
  have e1 : span_Add.f k ([⟨0, 8⟩, ⟨16, 24⟩] : List Sp) 8 16 = some ([⟨0, 24⟩], 0) := by
    unfold span_Add.f
    rw [if_pos r0, if_pos (by decide), if_pos (by decide)]
    show some (joinS [⟨0, 8⟩, ⟨16, 24⟩, ⟨8, 16⟩], (0 : Int)) = _
    rw [join_a]
  have e2 : span_Cut.f k ([⟨0, 8⟩, ⟨16, 24⟩] : List Sp) 4 20 = some ([⟨0, 4⟩, ⟨20, 24⟩], 0) := by
    rw [cut_eval _ r0 4 20 (by decide) k (by simp; omega)]; decide
  have e3 : span_Norm.f k ([⟨8, 16⟩, ⟨0, 8⟩, ⟨32, 40⟩, ⟨36, 38⟩] : List Sp) = some ([⟨0, 16⟩, ⟨32, 40⟩], 0) := by
    rw [norm_eval _ (by decide) k (by simp; omega)]
    unfold normS
    rw [if_pos (by decide), join_b]
  have e4 : span_Holes.f k ([⟨0, 8⟩, ⟨16, 24⟩] : List Sp) 30 = some ([⟨8, 16⟩, ⟨24, 30⟩], 0) := by
    rw [holes_eval _ r0 30 (by omega) (by omega) k (by simp; omega)]; decide
  rw [e1]
  simp only [Option.bind_some]
  rw [e2]
  simp only [Option.bind_some]
  rw [e3]
  simp only [Option.bind_some]
  rw [e4]
  simp only [Option.bind_some, if_true]
  rw [same_eval _ _ (by decide) k (by simp; omega)]
  simp only [Option.bind_some, decide_true, if_true]
  rw [same_eval _ _ (by decide) k (by simp; omega)]
  simp only [Option.bind_some, decide_true, if_true]
  rw [same_eval _ _ (by decide) k (by simp; omega)]
  simp only [Option.bind_some, decide_true]
  obtain ⟨k, rfl⟩ : ∃ m, k = m + 1 := ⟨k - 1, by omega⟩
  simp only [mosaiclaw09_alive.j0]
  rw [if_neg (by simp), same_eval _ _ (by decide) k (by simp; omega)]
  simp only [Option.bind_some, decide_true, if_true]
  rw [right_eval _ (by decide) k (by simp; omega), r0]
  simp only [Option.bind_some, if_true]
  rw [if_pos (by decide)]
  have s1 : span_Has.f ([⟨0, 8⟩, ⟨16, 24⟩] : List Sp) (rd_T24 [⟨0, 8⟩, ⟨16, 24⟩] 1).f0 (rd_T24 [⟨0, 8⟩, ⟨16, 24⟩] 1).f1 = some true := by decide
  have s2 : span_Meets.f ([⟨0, 8⟩, ⟨16, 24⟩] : List Sp) 7 9 = some true := by decide
  have s3 : span_Meets.f ([⟨0, 8⟩, ⟨16, 24⟩] : List Sp) 8 9 = some false := by decide
  rw [s1]
  simp only [Option.bind_some, if_true]
  rw [s2]
  simp only [Option.bind_some, if_true]
  rw [s3]
  simp only [Option.bind_some]
  rw [if_neg (by simp), size_eval _ r0 k (by simp; omega)]
  decide
end Go.Proofs.Ytmfckkgebdfhjaa.Q
