/- What the document's answer over spans comes to: plain facts on lists and numbers. No condition. -/
import Derived.Test.YtmfckkgebdfhjaaQFref2
import Derived.Test.YtmfckkgebdfhjaaQS2
namespace Go.Proofs.Ytmfckkgebdfhjaa.Q
open Go.RowKit Go.Proofs.YtmfckkgebdfhjaaW.PrintWords Go.Proofs.YtmfckkgebdfhjaaW.PrintLast Go.Proofs.YtmfckkgebdfhjaaW.PrintMore
theorem rdI (l : List Int) (i : Nat) (h : i < l.length) : rd l (i : Int) = l[i] := by
  simp [rd, List.getD_eq_getElem?_getD, List.getElem?_eq_getElem h]
/-! ### a number into a rising list -/
def putI : List Int → Int → List Int
  | [], n => [n]
  | x :: l, n => if x < n then x :: putI l n else if x = n then n :: l else n :: x :: l
theorem putI_mem : ∀ (l : List Int) (n m : Int), m ∈ putI l n ↔ m = n ∨ m ∈ l
  | [], n, m => by simp [putI]
  | x :: l, n, m => by
    unfold putI
    by_cases h : x < n
    · rw [if_pos h, List.mem_cons, putI_mem l n m, List.mem_cons]
      constructor <;> rintro (h | h | h) <;> simp [h]
    · rw [if_neg h]
      by_cases h2 : x = n
      · subst h2; rw [if_pos rfl]; simp
      · rw [if_neg h2]; simp
theorem putI_len : ∀ (l : List Int) (n : Int), (putI l n).length ≤ l.length + 1
  | [], n => by simp [putI]
  | x :: l, n => by
    unfold putI
    have := putI_len l n
    split
    · simp; omega
    · split <;> simp
theorem putI_rise : ∀ (l : List Int) (n : Int), l.Pairwise (· < ·) → (putI l n).Pairwise (· < ·)
  | [], n, _ => by simp [putI]
  | x :: l, n, h => by
    rw [List.pairwise_cons] at h
    unfold putI
    by_cases c : x < n
    · rw [if_pos c, List.pairwise_cons]
      refine ⟨fun m hm => ?_, putI_rise l n h.2⟩
      rcases (putI_mem l n m).1 hm with e | e
      · omega
      · exact h.1 m e
    · rw [if_neg c]
      by_cases c2 : x = n
      · subst c2; rw [if_pos rfl, List.pairwise_cons]; exact h
      · rw [if_neg c2, List.pairwise_cons, List.pairwise_cons]
        refine ⟨fun m hm => ?_, h⟩
        rcases List.mem_cons.1 hm with e | e
        · omega
        · have := h.1 m e; omega
theorem put_l0 (l : List Int) (n : Int) (hb : l.length ≤ 100000000) : ∀ (d i k : Nat) (out : List Int), i + d = l.length → d < k → out.length + d ≤ 200000000 → mosaicref09_put.l0 k l n out (i : Int) = some (out ++ putI (l.drop i) n) := by
  intro d
  induction d with
  | zero =>
    intro i k out hi hk h0
    obtain ⟨k, rfl⟩ : ∃ m, k = m + 1 := ⟨k - 1, by omega⟩
    simp only [mosaicref09_put.l0]
    rw [if_neg (by omega), if_pos (by omega)]
    simp only [Option.bind_some]
    rw [if_pos (by omega), if_pos (by omega), Int.toNat_natCast, List.drop_eq_nil_of_le (by omega), if_pos (by simp; omega)]
    simp [putI]
  | succ d ih =>
    intro i k out hi hk h0
    obtain ⟨k, rfl⟩ : ∃ m, k = m + 1 := ⟨k - 1, by omega⟩
    have hlt : i < l.length := by omega
    simp only [mosaicref09_put.l0]
    rw [if_pos (by omega), if_pos (by omega), rdI l i hlt, List.drop_eq_getElem_cons hlt]
    unfold putI
    by_cases c : l[i] < n
    · rw [if_pos c, if_pos c, if_pos (by omega), wr1 i (by omega), ih (i + 1) k _ (by omega) (by omega) (by simp; omega)]
      simp
    · rw [if_neg c, if_neg c, if_pos (by omega)]
      simp only [Option.bind_some]
      by_cases c2 : l[i] = n
      · rw [if_pos c2, if_pos c2, wr1 i (by omega), if_pos (by omega), if_pos (by omega), Int.toNat_natCast, if_pos (by simp; omega)]
        simp
      · rw [if_neg c2, if_neg c2, if_pos (by omega), Int.toNat_natCast, if_pos (by simp; omega), List.drop_eq_getElem_cons hlt]
        simp
theorem put_eval (l : List Int) (n : Int) (hb : l.length ≤ 100000000) (k : Nat) (hk : l.length < k) : mosaicref09_put.f k l n = some (putI l n) := by
  have := put_l0 l n hb l.length 0 k [] (by omega) hk (by simp; omega)
  unfold mosaicref09_put.f
  rw [show (0 : Int) = ((0 : Nat) : Int) from rfl, this]; rfl
/-! ### the ends -/
def endsS (out : List Int) (l : List Sp) : List Int := l.foldl (fun o s => putI (putI o s.f0) s.f1) out
theorem endsS_len : ∀ (l : List Sp) (out : List Int), (endsS out l).length ≤ out.length + 2 * l.length
  | [], out => by simp [endsS]
  | s :: l, out => by
    have h1 := endsS_len l (putI (putI out s.f0) s.f1)
    have h2 := putI_len (putI out s.f0) s.f1
    have h3 := putI_len out s.f0
    have e : endsS out (s :: l) = endsS (putI (putI out s.f0) s.f1) l := rfl
    rw [e, List.length_cons]; omega
theorem endsS_rise : ∀ (l : List Sp) (out : List Int), out.Pairwise (· < ·) → (endsS out l).Pairwise (· < ·)
  | [], _, h => h
  | _ :: l, _, h => endsS_rise l _ (putI_rise _ _ (putI_rise _ _ h))
theorem endsS_mem : ∀ (l : List Sp) (out : List Int) (m : Int), m ∈ endsS out l ↔ m ∈ out ∨ ∃ s, s ∈ l ∧ (m = s.f0 ∨ m = s.f1)
  | [], out, m => by simp [endsS]
  | s :: l, out, m => by
    have e : endsS out (s :: l) = endsS (putI (putI out s.f0) s.f1) l := rfl
    rw [e, endsS_mem l, putI_mem, putI_mem]
    constructor
    · rintro ((h | h | h) | ⟨t, ht, h⟩)
      · exact .inr ⟨s, List.mem_cons_self, .inr h⟩
      · exact .inr ⟨s, List.mem_cons_self, .inl h⟩
      · exact .inl h
      · exact .inr ⟨t, List.mem_cons_of_mem _ ht, h⟩
    · rintro (h | ⟨t, ht, h⟩)
      · exact .inl (.inr (.inr h))
      · rcases List.mem_cons.1 ht with rfl | ht
        · rcases h with h | h
          · exact .inl (.inr (.inl h))
          · exact .inl (.inl h)
        · exact .inr ⟨t, ht, h⟩
theorem ends_l0 (l : List Sp) (hb : l.length ≤ 10000000) : ∀ (d i k : Nat) (out : List Int), i + d = l.length → 3 * d + out.length + 2 < k → out.length + 2 * d ≤ 50000000 → mosaicref09_ends.l0 k l out (i : Int) = some (endsS out (l.drop i)) := by
  intro d
  induction d with
  | zero =>
    intro i k out hi hk h0
    obtain ⟨k, rfl⟩ : ∃ m, k = m + 1 := ⟨k - 1, by omega⟩
    rw [drop_nil l i (by omega)]
    simp only [mosaicref09_ends.l0]
    rw [if_neg (by omega)]
    rfl
  | succ d ih =>
    intro i k out hi hk h0
    obtain ⟨k, rfl⟩ : ∃ m, k = m + 1 := ⟨k - 1, by omega⟩
    have hlt : i < l.length := by omega
    simp only [mosaicref09_ends.l0]
    have h2 := putI_len (putI out l[i].f0) l[i].f1
    have h3 := putI_len out l[i].f0
    rw [if_pos (by omega), if_pos (by omega), rdT l i hlt, put_eval _ _ (by omega) k (by omega)]
    simp only [Option.bind_some]
    rw [put_eval _ _ (by omega) k (by omega)]
    simp only [Option.bind_some]
    rw [wr1 i (by omega), ih (i + 1) k _ (by omega) (by omega) (by omega), dropc l i hlt]
    rfl
theorem ends_eval (l : List Sp) (hb : l.length ≤ 10000000) (k : Nat) (hk : 3 * l.length + 2 < k) : mosaicref09_ends.f k l = some (endsS [] l) := by
  have := ends_l0 l hb l.length 0 k [] (by omega) (by simp; omega) (by simp; omega)
  unfold mosaicref09_ends.f
  rw [show (0 : Int) = ((0 : Nat) : Int) from rfl, this]; rfl
/-! ### in -/
theorem refin_l0 (l : List Sp) (hb : l.length < 4611686018427387904) (n : Int) : ∀ (d i k : Nat), i + d = l.length → d < k → mosaicref09_in.l0 k l n (i : Int) = some (inB (l.drop i) n) := by
  intro d
  induction d with
  | zero =>
    intro i k hi hk
    obtain ⟨k, rfl⟩ : ∃ m, k = m + 1 := ⟨k - 1, by omega⟩
    rw [drop_nil l i (by omega)]
    simp only [mosaicref09_in.l0]
    rw [if_neg (by omega)]
    rfl
  | succ d ih =>
    intro i k hi hk
    obtain ⟨k, rfl⟩ : ∃ m, k = m + 1 := ⟨k - 1, by omega⟩
    have hlt : i < l.length := by omega
    simp only [mosaicref09_in.l0]
    have nxt := ih (i + 1) k (by omega) (by omega)
    rw [if_pos (by omega), if_pos (by omega), rdT l i hlt, wr1 i (by omega), nxt, dropc l i hlt]
    simp only [inB, List.any_cons]
    by_cases c1 : l[i].f0 ≤ n
    · rw [if_pos c1]
      by_cases c2 : n < l[i].f1
      · rw [if_pos c2]; simp [c1, c2]
      · rw [if_neg c2]; simp [c2]
    · rw [if_neg c1]; simp [c1]
theorem refin_eval (l : List Sp) (hb : l.length < 4611686018427387904) (n : Int) (k : Nat) (hk : l.length < k) : mosaicref09_in.f k l n = some (inB l n) := by
  have := refin_l0 l hb n l.length 0 k (by omega) hk
  unfold mosaicref09_in.f
  rw [show (0 : Int) = ((0 : Nat) : Int) from rfl, this]; rfl
/-! ### the list of a set -/
theorem rightFrom_snoc : ∀ (o : List Sp) (a : Int) (t : Sp), -1 ≤ a → (rightFrom a (o ++ [t]) = true ↔ rightFrom a o = true ∧ goodB t = true ∧ a < t.f0 ∧ ∀ s ∈ o, s.f1 < t.f0)
  | [], a, t, _ => by simp [rightFrom, and_comm]
  | s :: o, a, t, ha => by
    rw [List.cons_append, rightFrom_cons, rightFrom_cons]
    constructor
    · rintro ⟨h1, h2, h3⟩
      have hg := (goodB_iff s).1 h2
      obtain ⟨i1, i2, i3, i4⟩ := (rightFrom_snoc o s.f1 t (by omega)).1 h3
      refine ⟨⟨h1, h2, i1⟩, i2, by omega, fun x hx => ?_⟩
      rcases List.mem_cons.1 hx with rfl | hx
      · exact i3
      · exact i4 x hx
    · rintro ⟨⟨h1, h2, h3⟩, h4, h5, h6⟩
      have hg := (goodB_iff s).1 h2
      exact ⟨h1, h2, (rightFrom_snoc o s.f1 t (by omega)).2 ⟨h3, h4, h6 s List.mem_cons_self, fun x hx => h6 x (List.mem_cons_of_mem _ hx)⟩⟩
theorem inS_snoc (o : List Sp) (t : Sp) (n : Int) : inS (o ++ [t]) n ↔ inS o n ∨ (t.f0 ≤ n ∧ n < t.f1) := by
  rw [inS_append, inS_cons]
  simp [inS_nil]
structure Stretch (P : Int → Prop) (e : List Int) : Prop where
  rise : e.Pairwise (· < ·)
  same : ∀ i (h : i + 1 < e.length) n, e[i] ≤ n → n < e[i + 1] → (P n ↔ P (e[i]'(by omega)))
  low : ∀ i (h : i < e.length), 0 ≤ e[i] ∧ e[i] ≤ 65535
theorem Stretch.lt {P : Int → Prop} {e : List Int} (S : Stretch P e) (i : Nat) (h : i + 1 < e.length) : e[i]'(by omega) < e[i + 1] :=
  List.pairwise_iff_getElem.1 S.rise i (i + 1) (by omega) h (by omega)
/-- What a round of the list keeps: what is laid is right, and covers what is held below the end that is looked at. -/
def Laid (P : Int → Prop) (out : List Sp) (b : Int) : Prop := rightB out = true ∧ ∀ n, inS out n ↔ n < b ∧ P n
theorem Laid.skip {P : Int → Prop} {out : List Sp} {e : List Int} (S : Stretch P e) {i : Nat} (h : i + 1 < e.length) (L : Laid P out (e[i]'(by omega))) (hp : ¬ P (e[i]'(by omega))) : Laid P out e[i + 1] := by
  refine ⟨L.1, fun n => ?_⟩
  have hlt := S.lt i h
  rw [L.2 n]
  constructor
  · rintro ⟨h1, h2⟩; exact ⟨by omega, h2⟩
  · rintro ⟨h1, h2⟩
    refine ⟨?_, h2⟩
    rcases Int.lt_or_le n (e[i]'(by omega)) with h3 | h3
    · exact h3
    · exact absurd ((S.same i h n h3 h1).1 h2) hp
theorem Laid.le {P : Int → Prop} {out : List Sp} {b : Int} (L : Laid P out b) {s : Sp} (hs : s ∈ out) : s.f1 ≤ b := by
  have hg := (goodB_iff s).1 (right_good L.1 s hs)
  have := ((L.2 (s.f1 - 1)).1 ⟨s, hs, by omega, by omega⟩).1
  omega
theorem Laid.iff {P : Int → Prop} {out : List Sp} {e : List Int} (S : Stretch P e) {i : Nat} (h : i + 1 < e.length) (L : Laid P out (e[i]'(by omega))) (hp : P (e[i]'(by omega))) (n : Int) : (inS out n ∨ (e[i]'(by omega) ≤ n ∧ n < e[i + 1])) ↔ n < e[i + 1] ∧ P n := by
  have hlt := S.lt i h
  rw [L.2 n]
  constructor
  · rintro (⟨h1, h2⟩ | ⟨h1, h2⟩)
    · exact ⟨by omega, h2⟩
    · exact ⟨h2, (S.same i h n h1 h2).2 hp⟩
  · rintro ⟨h1, h2⟩
    rcases Int.lt_or_le n (e[i]'(by omega)) with h3 | h3
    · exact .inl ⟨h3, h2⟩
    · exact .inr ⟨h3, h1⟩
theorem Laid.add {P : Int → Prop} {out : List Sp} {e : List Int} (S : Stretch P e) {i : Nat} (h : i + 1 < e.length) (L : Laid P out (e[i]'(by omega))) (hp : P (e[i]'(by omega))) (hne : ∀ s ∈ out, s.f1 < e[i]'(by omega)) : Laid P (out ++ [⟨e[i]'(by omega), e[i + 1]⟩]) e[i + 1] := by
  have hlt := S.lt i h
  have l1 := S.low i (by omega)
  have l2 := S.low (i + 1) h
  refine ⟨(rightFrom_snoc out (-1) _ (by omega)).2 ⟨L.1, by rw [goodB_iff]; simp only; omega, by simp only; omega, hne⟩, fun n => ?_⟩
  rw [inS_snoc]
  exact L.iff S h hp n
theorem Laid.grow {P : Int → Prop} {o : List Sp} {t : Sp} {e : List Int} (S : Stretch P e) {i : Nat} (h : i + 1 < e.length) (L : Laid P (o ++ [t]) (e[i]'(by omega))) (hp : P (e[i]'(by omega))) (ht : t.f1 = e[i]'(by omega)) : Laid P (o ++ [⟨t.f0, e[i + 1]⟩]) e[i + 1] := by
  have hlt := S.lt i h
  have l2 := S.low (i + 1) h
  obtain ⟨r1, r2, r3, r4⟩ := (rightFrom_snoc o (-1) t (by omega)).1 L.1
  have hg := (goodB_iff t).1 r2
  refine ⟨(rightFrom_snoc o (-1) _ (by omega)).2 ⟨r1, by rw [goodB_iff]; simp only; omega, r3, r4⟩, fun n => ?_⟩
  rw [← L.iff S h hp n, inS_snoc, inS_snoc, ← ht]
  simp only
  constructor
  · rintro (h | h)
    · exact .inl (.inl h)
    · rcases Int.lt_or_le n t.f1 with h3 | h3
      · exact .inl (.inr ⟨h.1, h3⟩)
      · exact .inr ⟨h3, h.2⟩
  · rintro ((h | h) | h)
    · exact .inl h
    · exact .inr ⟨h.1, by omega⟩
    · exact .inr ⟨by omega, h.2⟩
theorem rd_last (o : List Sp) (t : Sp) : rd_T24 (o ++ [t]) (o.length : Int) = t := by
  simp [rd_T24]
theorem list_l0 (Of Less : List Sp) (h1 : Of.length ≤ 10000000) (h2 : Less.length ≤ 10000000) (e : List Int) (hel : e.length ≤ 50000000) (S : Stretch (fun n => inS Of n ∧ ¬ inS Less n) e) :
    ∀ (d i k : Nat) (out : List Sp) (hi : i + d + 1 = e.length), 2 * d + 20000000 < k → out.length ≤ i → Laid (fun n => inS Of n ∧ ¬ inS Less n) out (e[i]'(by omega)) →
      ∃ r, mosaicref09_Set_list.l0 k e out (i : Int) Of Less = some r ∧ Laid (fun n => inS Of n ∧ ¬ inS Less n) r (e[e.length - 1]'(by omega)) := by
  intro d
  induction d with
  | zero =>
    intro i k out hi hk ho L
    obtain ⟨k, rfl⟩ : ∃ m, k = m + 1 := ⟨k - 1, by omega⟩
    simp only [mosaicref09_Set_list.l0]
    rw [wr1 i (by omega), if_neg (by omega)]
    have : i = e.length - 1 := by omega
    subst this
    exact ⟨out, rfl, L⟩
  | succ d ih =>
    intro i k out hi hk ho L
    obtain ⟨k, rfl⟩ : ∃ m, k = m + 2 := ⟨k - 2, by omega⟩
    rw [show k + 2 = (k + 1) + 1 from rfl]
    have hlt : i + 1 < e.length := by omega
    simp only [mosaicref09_Set_list.l0]
    rw [wr1 i (by omega), if_pos (by omega), if_pos (by omega), if_pos (by omega), rdI e i (by omega), refin_eval Of (by omega) _ _ (by omega)]
    simp only [Option.bind_some]
    rw [refin_eval Less (by omega) _ _ (by omega)]
    simp only [Option.bind_some]
    have i1 := inB_iff Of (e[i]'(by omega))
    have i2 := inB_iff Less (e[i]'(by omega))
    have skip : ¬ (inS Of (e[i]'(by omega)) ∧ ¬ inS Less (e[i]'(by omega))) → ∃ r, mosaicref09_Set_list.j1 (k + 1) e out (i : Int) true Of Less = some r ∧ Laid (fun n => inS Of n ∧ ¬ inS Less n) r (e[e.length - 1]'(by omega)) := by
      intro hp
      simp only [mosaicref09_Set_list.j1, if_true]
      rw [wr1 i (by omega)]
      exact ih (i + 1) k out (by omega) (by omega) (by omega) (L.skip S hlt hp)
    cases b1 : inB Of (e[i]'(by omega)) with
    | false =>
      rw [if_neg (by simp)]
      exact skip (fun h => by rw [b1] at i1; exact absurd (i1.2 h.1) (by simp))
    | true =>
      rw [if_pos rfl]
      cases b2 : inB Less (e[i]'(by omega)) with
      | true => exact skip (fun h => h.2 (i2.1 b2))
      | false =>
        have hp : inS Of (e[i]'(by omega)) ∧ ¬ inS Less (e[i]'(by omega)) := ⟨i1.1 b1, fun h => by rw [b2] at i2; exact absurd (i2.2 h) (by simp)⟩
        simp only [mosaicref09_Set_list.j1]
        rw [if_neg (by simp), wr1 i (by omega), rdI e i (by omega), rdI e (i + 1) hlt]
        rcases List.eq_nil_or_concat out with rfl | ⟨o, t, rfl⟩
        · rw [if_neg (by simp), if_pos (by omega), if_pos (by omega), if_pos (by omega), if_pos (by omega), if_pos (by simp)]
          exact ih (i + 1) k _ (by omega) (by omega) (by simp) (L.add S hlt hp (fun s hs => by cases hs))
        · rw [List.concat_eq_append] at *
          have hl : (o ++ [t]).length = o.length + 1 := by simp
          have ew : wrap64 (((o ++ [t]).length : Int) - 1) = (o.length : Int) := by rw [hl]; unfold wrap64; omega
          rw [ew, rd_last, if_pos (by omega), if_pos (by omega), if_pos (by omega), if_pos (by omega), if_pos (by omega)]
          by_cases c : t.f1 = e[i]'(by omega)
          · rw [if_pos c, if_pos (by omega), if_pos (by omega), Int.toNat_natCast]
            have es : ∀ x : Sp, (o ++ [t]).set o.length x = o ++ [x] := fun x => by simp
            rw [es]
            exact ih (i + 1) k _ (by omega) (by omega) (by simp; omega) (L.grow S hlt hp c)
          · rw [if_neg c, if_pos (by omega), if_pos (by omega), if_pos (by omega)]
            refine ih (i + 1) k _ (by omega) (by omega) (by simp; omega) (L.add S hlt hp (fun s hs => ?_))
            have ht := L.le (s := t) (by simp)
            obtain ⟨r1, r2, r3, r4⟩ := (rightFrom_snoc o (-1) t (by omega)).1 L.1
            have hg := (goodB_iff t).1 r2
            rcases List.mem_append.1 hs with hs | hs
            · have := r4 s hs; omega
            · rw [List.mem_singleton.1 hs]; omega
/-- The list of a set: right, and it covers what the one list covers and the other doesn't. -/
theorem list_eval (Of Less : List Sp) (h1 : Of.length ≤ 5000000) (h2 : Less.length ≤ 5000000) (g1 : ∀ s ∈ Of, goodB s = true) (g2 : ∀ s ∈ Less, goodB s = true) (k : Nat) (hk : 200000000 < k) :
    ∃ r, mosaicref09_Set_list.f k Of Less = some r ∧ rightB r = true ∧ ∀ n, inS r n ↔ inS Of n ∧ ¬ inS Less n := by
  unfold mosaicref09_Set_list.f
  rw [if_pos (by simp; omega)]
  simp only [Option.bind_some, List.nil_append]
  rw [if_pos (by omega), ends_eval _ (by simp; omega) k (by simp; omega)]
  simp only [Option.bind_some]
  have hmem := endsS_mem (Of ++ Less) []
  have hr := endsS_rise (Of ++ Less) [] List.Pairwise.nil
  have hl := endsS_len (Of ++ Less) []
  rw [List.length_append] at hl
  simp only [List.length_nil] at hl
  generalize endsS [] (Of ++ Less) = e at hmem hr hl
  have hg : ∀ s ∈ Of ++ Less, goodB s = true := fun s hs => by
    rcases List.mem_append.1 hs with hs | hs
    · exact g1 s hs
    · exact g2 s hs
  have hidx : ∀ m, m ∈ e ↔ ∃ i, ∃ h : i < e.length, e[i] = m := fun m => List.mem_iff_getElem
  have mono : ∀ i j (hi : i < e.length) (hj : j < e.length), e[i] < e[j] → i < j := by
    intro i j hi hj h
    rcases Nat.lt_or_ge i j with c | c
    · exact c
    · rcases Nat.lt_or_ge j i with c2 | c2
      · have := List.pairwise_iff_getElem.1 hr j i hj hi c2; omega
      · have : i = j := by omega
        subst this; omega
  have between : ∀ i (h : i + 1 < e.length) (m : Int), m ∈ e → m ≤ e[i]'(by omega) ∨ e[i + 1] ≤ m := by
    intro i h m hm
    obtain ⟨j, hj, rfl⟩ := (hidx m).1 hm
    rcases Nat.lt_or_ge i j with c | c
    · right
      rcases Nat.lt_or_ge (i + 1) j with c2 | c2
      · have := List.pairwise_iff_getElem.1 hr (i + 1) j h hj c2; omega
      · have : j = i + 1 := by omega
        subst this; omega
    · left
      rcases Nat.lt_or_ge j i with c2 | c2
      · have := List.pairwise_iff_getElem.1 hr j i hj (by omega) c2; omega
      · have : j = i := by omega
        subst this; omega
  have stay : ∀ (l : List Sp), (∀ s ∈ l, s ∈ Of ++ Less) → ∀ i (h : i + 1 < e.length) n, e[i] ≤ n → n < e[i + 1] → (inS l n ↔ inS l (e[i]'(by omega))) := by
    intro l hsub i h n h1 h2
    constructor
    · rintro ⟨s, hs, a, b⟩
      have m0 := between i h s.f0 ((hmem _).2 (.inr ⟨s, hsub s hs, .inl rfl⟩))
      have m1 := between i h s.f1 ((hmem _).2 (.inr ⟨s, hsub s hs, .inr rfl⟩))
      exact ⟨s, hs, by omega, by omega⟩
    · rintro ⟨s, hs, a, b⟩
      have m0 := between i h s.f0 ((hmem _).2 (.inr ⟨s, hsub s hs, .inl rfl⟩))
      have m1 := between i h s.f1 ((hmem _).2 (.inr ⟨s, hsub s hs, .inr rfl⟩))
      exact ⟨s, hs, by omega, by omega⟩
  have S : Stretch (fun n => inS Of n ∧ ¬ inS Less n) e := by
    refine ⟨hr, fun i h n a b => ?_, fun i h => ?_⟩
    · rw [stay Of (fun s hs => List.mem_append_left _ hs) i h n a b, stay Less (fun s hs => List.mem_append_right _ hs) i h n a b]
    · rcases (hmem e[i]).1 (List.getElem_mem h) with hx | ⟨s, hs, hx⟩
      · cases hx
      · have := (goodB_iff s).1 (hg s hs)
        rcases hx with hx | hx <;> rw [hx] <;> omega
  rcases Nat.eq_zero_or_pos e.length with h0 | h0
  · have : Of = [] := by
      cases Of with
      | nil => rfl
      | cons s o =>
        have := (hmem s.f0).2 (.inr ⟨s, by simp, .inl rfl⟩)
        rw [List.length_eq_zero_iff.1 h0] at this
        cases this
    subst this
    obtain ⟨k, rfl⟩ : ∃ m, k = m + 1 := ⟨k - 1, by omega⟩
    refine ⟨[], ?_, rfl, fun n => by simp [inS_nil]⟩
    simp only [mosaicref09_Set_list.l0]
    rw [if_neg (by rw [h0]; unfold wrap64; omega)]
  · obtain ⟨r, er, L⟩ := list_l0 Of Less (by omega) (by omega) e (by omega) S (e.length - 1) 0 k [] (by omega) (by omega) (by simp) ⟨rfl, fun n => by
      simp only [inS_nil, false_iff]
      rintro ⟨h, ⟨s, hs, a, b⟩, _⟩
      obtain ⟨j, hj, ej⟩ := (hidx s.f0).1 ((hmem s.f0).2 (.inr ⟨s, List.mem_append_left _ hs, .inl rfl⟩))
      have := mono j 0 hj h0 (by omega)
      omega⟩
    refine ⟨r, er, L.1, fun n => ?_⟩
    rw [L.2 n]
    constructor
    · exact fun h => h.2
    · intro h
      refine ⟨?_, h⟩
      obtain ⟨⟨s, hs, a, b⟩, _⟩ := h
      obtain ⟨j, hj, ej⟩ := (hidx s.f1).1 ((hmem s.f1).2 (.inr ⟨s, List.mem_append_left _ hs, .inr rfl⟩))
      rcases Nat.lt_or_ge j (e.length - 1) with c | c
      · have := List.pairwise_iff_getElem.1 hr j (e.length - 1) hj (by omega) c; omega
      · have : j = e.length - 1 := by omega
        subst this; omega
end Go.Proofs.Ytmfckkgebdfhjaa.Q
