/- The walk of the document's Kind; it tells what the program's tells. No condition but that bytes are bytes. -/
import Derived.Test.YtgcafklieblldaaP1
namespace Go.Proofs.Ytgcafklieblldaa.SL
open Go.RowKit Go.Proofs.YtgcafklieblldaaW.PrintWords Go.Proofs.YtgcafklieblldaaW.PrintLast Go.Proofs.YtgcafklieblldaaW.PrintMore
def bOk (b : List Int) : Prop := ∀ x ∈ b, 0 ≤ x ∧ x ≤ 255
theorem bOk.at_ {b : List Int} (h : bOk b) (i : Nat) : 0 ≤ b.getD i 0 ∧ b.getD i 0 ≤ 255 := by
  rw [List.getD_eq_getElem?_getD]
  cases hq : b[i]? with
  | none => simp
  | some x => exact h x (List.mem_of_getElem? hq)
def sumB (b : List Int) (k : Nat) : Int := (b.take k).sum
theorem sumB_step {b : List Int} {k : Nat} (hk : k < b.length) : sumB b (k + 1) = sumB b k + b.getD k 0 := by
  unfold sumB
  rw [take_getD b k 0 hk, List.sum_append, List.sum_singleton]
theorem sumB_le {b : List Int} (h : bOk b) : ∀ k, 0 ≤ sumB b k ∧ sumB b k ≤ 255 * k
  | 0 => by simp [sumB]
  | k + 1 => by
    have ih := sumB_le h k
    by_cases hk : k < b.length
    · have := h.at_ k
      rw [sumB_step hk]
      push_cast
      omega
    · have : sumB b (k + 1) = sumB b k := by unfold sumB; rw [List.take_of_length_le (by omega), List.take_of_length_le (by omega)]
      rw [this]
      push_cast
      omega
def zAll (b : List Int) (n : Nat) : Prop := ∀ j, j < n → b.getD j 0 = 0
def zTail (b : List Int) : Prop := ∀ j, j < 12 → b.getD (4 + j) 0 = 0
theorem b_eq {x y : List Int} (hx : x.length = 16) (hy : y.length = 16) (h : ∀ j, j < 16 → x.getD j 0 = y.getD j 0) : x = y := by
  apply List.ext_getElem (by omega)
  intro i h1 h2
  have := h i (by omega)
  simpa [List.getD_eq_getElem?_getD, h1, h2] using this
theorem z16_at (j : Nat) : z16.getD j 0 = 0 := by
  unfold z16
  rw [List.getD_eq_getElem?_getD, List.getElem?_replicate]
  split <;> rfl
theorem o16_at (j : Nat) (h : j < 15) : o16.getD j 0 = 0 := by
  unfold o16
  rw [List.getD_eq_getElem?_getD, List.getElem?_append_left (by simpa using h), List.getElem?_replicate, if_pos h]
  rfl
theorem f16_at (j : Nat) (h : 4 ≤ j) : f16.getD j 0 = 0 := by
  unfold f16
  rw [List.getD_eq_getElem?_getD, List.getElem?_append_right (by simpa using h), List.getElem?_replicate]
  split <;> rfl
theorem kind_bad {a : Ad} (h6 : a.v ≠ 6) (h4 : a.v ≠ 4) : kindA a = 0 := by
  unfold kindA kindK validA bitsA
  rw [if_neg h4, if_neg h6]
  rfl
theorem valid6 {a : Ad} (h6 : a.v = 6) : validA a = true := by
  unfold validA bitsA
  rw [if_neg (by omega), if_pos h6]
  rfl
theorem kind6_255 {a : Ad} (h6 : a.v = 6) (h : a.b.getD 0 0 = 255) : kindA a = 3 := by
  have hz : a.b ≠ z16 := fun e => by rw [e, z16_at] at h; omega
  have ho : a.b ≠ o16 := fun e => by rw [e, o16_at 0 (by omega)] at h; omega
  unfold kindA kindK
  rw [valid6 h6, if_neg (by simp), if_neg hz, if_pos h6, if_neg ho, if_pos h]
theorem kind6_any {a : Ad} (h6 : a.v = 6) (h : a.b.getD 0 0 ≠ 255) {j : Nat} (hj : j < 15) (hn : a.b.getD j 0 ≠ 0) : kindA a = 5 := by
  have hz : a.b ≠ z16 := fun e => by rw [e, z16_at] at hn; exact hn rfl
  have ho : a.b ≠ o16 := fun e => by rw [e, o16_at j hj] at hn; exact hn rfl
  unfold kindA kindK
  rw [valid6 h6, if_neg (by simp), if_neg hz, if_pos h6, if_neg ho, if_neg h]
theorem kind6_zero {a : Ad} (h6 : a.v = 6) (h : zAll a.b 15) (h0 : 0 ≤ a.b.getD 15 0) : kindA a = if 1 < a.b.getD 15 0 then 5 else 1 + a.b.getD 15 0 := by
  have h255 : a.b.getD 0 0 ≠ 255 := by rw [h 0 (by omega)]; omega
  unfold kindA kindK
  rw [valid6 h6, if_neg (by simp), if_pos h6, if_neg h255]
  rcases (show a.b.getD 15 0 = 0 ∨ a.b.getD 15 0 = 1 ∨ 1 < a.b.getD 15 0 by omega) with hq | hq | hq
  · have : a.b = z16 := b_eq a.hb rfl fun j hj => by
      rw [z16_at]
      by_cases e : j = 15
      · rw [e]; exact hq
      · exact h j (by omega)
    rw [if_pos this, hq]
    rfl
  · have : a.b = o16 := b_eq a.hb rfl fun j hj => by
      by_cases e : j = 15
      · rw [e, hq]; rfl
      · rw [o16_at j (by omega)]; exact h j (by omega)
    rw [if_neg (by rw [this]; exact oz16), if_pos this, hq]
    rfl
  · rw [if_neg (fun e => by rw [e, z16_at] at hq; omega), if_neg (fun e => by rw [e] at hq; exact absurd hq (by decide)), if_pos hq]
theorem kind4_bad {a : Ad} (h4 : a.v = 4) {j : Nat} (hj : j < 12) (hn : a.b.getD (4 + j) 0 ≠ 0) : kindA a = 0 := by
  have hb := a.hb
  have : bitsA a = 0 := by
    unfold bitsA
    rw [if_pos h4, if_neg]
    intro hall
    rw [List.all_eq_true] at hall
    have hm : (a.b.drop 4)[j]? = some (a.b.getD (4 + j) 0) := by
      rw [List.getElem?_drop, List.getD_eq_getElem?_getD, List.getElem?_eq_getElem (by omega)]
      rfl
    exact hn (by simpa using hall _ (List.mem_of_getElem? hm))
  unfold kindA kindK validA
  rw [this]
  rfl
theorem sum16 {b : List Int} (hb : b.length = 16) (h : zTail b) : sumB b 16 = b.getD 0 0 + b.getD 1 0 + b.getD 2 0 + b.getD 3 0 := by
  obtain ⟨b0, b1, b2, b3, b4, b5, b6, b7, b8, b9, b10, b11, b12, b13, b14, b15, rfl⟩ := list16 b hb
  have e0 : b4 = 0 := h 0 (by omega)
  have e1 : b5 = 0 := h 1 (by omega)
  have e2 : b6 = 0 := h 2 (by omega)
  have e3 : b7 = 0 := h 3 (by omega)
  have e4 : b8 = 0 := h 4 (by omega)
  have e5 : b9 = 0 := h 5 (by omega)
  have e6 : b10 = 0 := h 6 (by omega)
  have e7 : b11 = 0 := h 7 (by omega)
  have e8 : b12 = 0 := h 8 (by omega)
  have e9 : b13 = 0 := h 9 (by omega)
  have e10 : b14 = 0 := h 10 (by omega)
  have e11 : b15 = 0 := h 11 (by omega)
  show ([b0, b1, b2, b3, b4, b5, b6, b7, b8, b9, b10, b11, b12, b13, b14, b15] : List Int).sum = b0 + b1 + b2 + b3
  simp only [List.sum_cons, List.sum_nil]
  omega
theorem kind4 {a : Ad} (hok : bOk a.b) (h4 : a.v = 4) (h : zTail a.b) : kindA a = if sumB a.b 16 = 0 then 1 else if sumB a.b 16 = 1020 then 4 else if a.b.getD 0 0 = 127 then 2 else if 224 ≤ a.b.getD 0 0 ∧ a.b.getD 0 0 ≤ 239 then 3 else 5 := by
  have hb := a.hb
  have hv : validA a = true := by
    unfold validA bitsA
    rw [if_pos h4, if_pos]
    · rfl
    · rw [List.all_eq_true]
      intro x hx
      obtain ⟨j, hj, rfl⟩ := List.getElem_of_mem hx
      rw [List.length_drop] at hj
      have := h j (by omega)
      rw [List.getD_eq_getElem?_getD, List.getElem?_eq_getElem (by omega)] at this
      simpa using this
  have hs := sum16 hb h
  have q0 := hok.at_ 0
  have q1 := hok.at_ 1
  have q2 := hok.at_ 2
  have q3 := hok.at_ 3
  have hz : a.b = z16 ↔ sumB a.b 16 = 0 := by
    constructor
    · intro e; rw [hs, e]; rfl
    · intro e
      refine b_eq hb rfl fun j hj => ?_
      rw [z16_at]
      match j, hj with
      | 0, _ => omega
      | 1, _ => omega
      | 2, _ => omega
      | 3, _ => omega
      | j + 4, hj => rw [Nat.add_comm]; exact h j (by omega)
  have hf : a.b = f16 ↔ sumB a.b 16 = 1020 := by
    constructor
    · intro e; rw [hs, e]; rfl
    · intro e
      refine b_eq hb rfl fun j hj => ?_
      match j, hj with
      | 0, _ => show a.b.getD 0 0 = 255; omega
      | 1, _ => show a.b.getD 1 0 = 255; omega
      | 2, _ => show a.b.getD 2 0 = 255; omega
      | 3, _ => show a.b.getD 3 0 = 255; omega
      | j + 4, hj => rw [f16_at _ (by omega), Nat.add_comm]; exact h j (by omega)
  have hf0 : sumB a.b 16 = 1020 → a.b.getD 0 0 = 255 := fun e => by omega
  unfold kindA kindK
  rw [hv, if_neg (by simp), if_neg (show ¬ a.v = 6 by omega)]
  simp only [hz, hf]
  generalize sumB a.b 16 = s at hf0
  generalize a.b.getD 0 0 = x at hf0
  by_cases h1 : s = 0
  · rw [if_pos h1, if_pos h1]
  · rw [if_neg h1, if_neg h1]
    by_cases h2 : s = 1020
    · have := hf0 h2
      rw [if_neg (by omega), if_neg (by omega), if_pos h2, if_pos h2]
    · rw [if_neg h2, if_neg h2]
end Go.Proofs.Ytgcafklieblldaa.SL
