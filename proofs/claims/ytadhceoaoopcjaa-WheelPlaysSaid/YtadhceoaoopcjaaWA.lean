/- Plain: digits, rings and places of a wheel's ticks. No condition. -/
import Derived.Lib.BitFns
import Derived.Lib.ItoaNum
namespace Go.Proofs.Ytadhceoaoopcjaa.SL
open Go.Lib
def ringN (a b : Nat) : Nat := (bitLen (a ^^^ b) - 1) / 6
def digN (t r : Nat) : Nat := t / 64 ^ r % 64
theorem pow64 (r : Nat) : 64 ^ r = 2 ^ (6 * r) := by rw [Nat.pow_mul]
theorem xor_div (a b k : Nat) : (a ^^^ b) / 2 ^ k = a / 2 ^ k ^^^ b / 2 ^ k := by
  rw [← Nat.shiftRight_eq_div_pow, ← Nat.shiftRight_eq_div_pow, ← Nat.shiftRight_eq_div_pow, Nat.shiftRight_xor_distrib]
theorem xor_zero_iff (a b : Nat) : a ^^^ b = 0 ↔ a = b := by
  constructor
  · intro h
    have h2 : (a ^^^ b) ^^^ b = 0 ^^^ b := by rw [h]
    rwa [Nat.xor_assoc, Nat.xor_self, Nat.xor_zero, Nat.zero_xor] at h2
  · rintro rfl; exact Nat.xor_self a
theorem ring_spec {a b : Nat} (ha : a < 2 ^ 42) (hb : b < 2 ^ 42) : ringN a b ≤ 6 ∧ a / 64 ^ (ringN a b + 1) = b / 64 ^ (ringN a b + 1) ∧ (ringN a b = 0 ∨ a / 64 ^ ringN a b ≠ b / 64 ^ ringN a b) := by
  have hx : a ^^^ b < 2 ^ 42 := Nat.xor_lt_two_pow ha hb
  have hle : bitLen (a ^^^ b) ≤ 42 := bitLen_le _ 42 (by decide) hx
  by_cases h0 : a ^^^ b = 0
  · have hab := (xor_zero_iff a b).1 h0
    have hr : ringN a b = 0 := by unfold ringN; rw [h0]; rfl
    rw [hr]
    exact ⟨by decide, by rw [hab], .inl rfl⟩
  · have hb3 := bitLenAux_bounds 64 (a ^^^ b) (Nat.lt_of_lt_of_le hx (Nat.pow_le_pow_right (by decide) (by decide))) h0
    change 1 ≤ bitLen (a ^^^ b) ∧ 2 ^ (bitLen (a ^^^ b) - 1) ≤ a ^^^ b ∧ a ^^^ b < 2 ^ bitLen (a ^^^ b) at hb3
    obtain ⟨h1, h2, h3⟩ := hb3
    unfold ringN
    generalize bitLen (a ^^^ b) = L at *
    refine ⟨by omega, ?_, ?_⟩
    · rw [pow64]
      apply (xor_zero_iff _ _).1
      rw [← xor_div]
      exact Nat.div_eq_of_lt (Nat.lt_of_lt_of_le h3 (Nat.pow_le_pow_right (by decide) (by omega)))
    · by_cases hz : (L - 1) / 6 = 0
      · exact .inl hz
      · refine .inr fun he => ?_
        rw [pow64] at he
        have := (xor_zero_iff _ _).2 he
        rw [← xor_div, Nat.div_eq_zero_iff] at this
        rcases this with h | h
        · exact absurd h (Nat.pos_iff_ne_zero.1 (Nat.pow_pos (by decide)))
        · have : 2 ^ (6 * ((L - 1) / 6)) ≤ 2 ^ (L - 1) := Nat.pow_le_pow_right (by decide) (by omega)
          omega
/-- Above a digit in which they agree, they agree. -/
theorem div_up {a b r s : Nat} (h : a / 64 ^ r = b / 64 ^ r) (hs : r ≤ s) : a / 64 ^ s = b / 64 ^ s := by
  obtain ⟨k, rfl⟩ : ∃ k, s = r + k := ⟨s - r, by omega⟩
  rw [Nat.pow_add, ← Nat.div_div_eq_div_mul, ← Nat.div_div_eq_div_mul, h]
theorem ring_unique {a b r : Nat} (ha : a < 2 ^ 42) (hb : b < 2 ^ 42) (h1 : a / 64 ^ (r + 1) = b / 64 ^ (r + 1)) (h2 : r = 0 ∨ a / 64 ^ r ≠ b / 64 ^ r) : ringN a b = r := by
  obtain ⟨_, g1, g2⟩ := ring_spec ha hb
  rcases Nat.lt_trichotomy (ringN a b) r with h | h | h
  · rcases h2 with h2 | h2
    · omega
    · exact absurd (div_up g1 (by omega)) h2
  · exact h
  · rcases g2 with g2 | g2
    · omega
    · exact absurd (div_up h1 (by omega)) g2
theorem lt_of_div {a b k : Nat} (h : a / 64 ^ k < b / 64 ^ k) : a < b := Nat.lt_of_not_le fun hle => by have := Nat.div_le_div_right (c := 64 ^ k) hle; omega
theorem dig_split (t r : Nat) : t / 64 ^ r = 64 * (t / 64 ^ (r + 1)) + digN t r := by
  unfold digN
  rw [Nat.pow_succ, ← Nat.div_div_eq_div_mul]
  omega
theorem dig_lt (t r : Nat) : digN t r < 64 := Nat.mod_lt _ (by decide)
def plN (t now : Nat) : Nat := 64 * ringN t now + digN t (ringN t now)
theorem pl_lt {t now : Nat} (ht : t < 2 ^ 42) (hn : now < 2 ^ 42) : plN t now < 448 := by
  have h1 := (ring_spec ht hn).1
  have h2 := dig_lt t (ringN t now)
  unfold plN
  omega
theorem pl_eq {t now r i : Nat} (hi : i < 64) (h : plN t now = 64 * r + i) : ringN t now = r ∧ digN t r = i := by
  have h2 := dig_lt t (ringN t now)
  unfold plN at h
  have e : ringN t now = r := by omega
  rw [e] at h h2
  exact ⟨e, by omega⟩
section
variable {t now to : Nat} (ht : t < 2 ^ 42) (hn : now < 2 ^ 42) (ho : to < 2 ^ 42)
include ht hn
/-- What waits in a ring stands at the now's digit or behind it. -/
theorem dig_ge (h : now ≤ t) : digN now (ringN t now) ≤ digN t (ringN t now) := by
  have g := (ring_spec ht hn).2.1
  have h1 := dig_split t (ringN t now)
  have h2 := dig_split now (ringN t now)
  have h3 := Nat.div_le_div_right (c := 64 ^ ringN t now) h
  omega
include ho
/-- A lower ring than the one that the now leaves: due. -/
theorem due_low (h2 : now ≤ to) (hr : ringN t now < ringN to now) : t < to := by
  obtain ⟨_, g1, g2⟩ := ring_spec ht hn
  obtain ⟨_, k1, k2⟩ := ring_spec ho hn
  have e := div_up g1 (s := ringN to now) (by omega)
  have l := Nat.div_le_div_right (c := 64 ^ ringN to now) h2
  rcases k2 with k2 | k2
  · omega
  · exact lt_of_div (k := ringN to now) (by omega)
theorem due_dig (hr : ringN t now = ringN to now) (hd : digN t (ringN to now) < digN to (ringN to now)) : t < to := by
  obtain ⟨_, g1, _⟩ := ring_spec ht hn
  obtain ⟨_, k1, _⟩ := ring_spec ho hn
  rw [hr] at g1
  have h1 := dig_split t (ringN to now)
  have h2 := dig_split to (ringN to now)
  exact lt_of_div (k := ringN to now) (by omega)
/-- Behind the digit: it stays where it stands. -/
theorem stay_dig (hr : ringN t now = ringN to now) (hd : digN to (ringN to now) < digN t (ringN to now)) : to < t ∧ plN t to = plN t now := by
  obtain ⟨_, g1, _⟩ := ring_spec ht hn
  obtain ⟨_, k1, _⟩ := ring_spec ho hn
  rw [hr] at g1
  have h1 := dig_split t (ringN to now)
  have h2 := dig_split to (ringN to now)
  have hlt : to / 64 ^ ringN to now < t / 64 ^ ringN to now := by omega
  have e : ringN t to = ringN to now := ring_unique ht ho (g1.trans k1.symm) (.inr (by omega))
  exact ⟨lt_of_div hlt, by unfold plN; rw [e, hr]⟩
theorem stay_ring (h1 : now ≤ t) (hr : ringN to now < ringN t now) : to < t ∧ plN t to = plN t now := by
  obtain ⟨_, g1, g2⟩ := ring_spec ht hn
  obtain ⟨_, k1, _⟩ := ring_spec ho hn
  have e1 := div_up k1 (s := ringN t now) (by omega)
  have e2 := div_up k1 (s := ringN t now + 1) (by omega)
  have hne : t / 64 ^ ringN t now ≠ now / 64 ^ ringN t now := by
    rcases g2 with g2 | g2
    · omega
    · exact g2
  have l := Nat.div_le_div_right (c := 64 ^ ringN t now) h1
  have e : ringN t to = ringN t now := ring_unique ht ho (g1.trans e2.symm) (.inr (by omega))
  exact ⟨lt_of_div (k := ringN t now) (by omega), by unfold plN; rw [e]⟩
end
/-- Of two that wait, the one in the lower ring comes first; in one ring the one at the lower digit. -/
theorem first_ring {t u now : Nat} (ht : t < 2 ^ 42) (hu : u < 2 ^ 42) (hn : now < 2 ^ 42) (h1 : now ≤ u) (hr : ringN t now < ringN u now) : t < u := due_low ht hn hu h1 hr
theorem first_dig {t u now : Nat} (ht : t < 2 ^ 42) (hu : u < 2 ^ 42) (hn : now < 2 ^ 42) (hr : ringN t now = ringN u now) (hd : digN t (ringN u now) < digN u (ringN u now)) : t < u := due_dig ht hn hu hr hd
end Go.Proofs.Ytadhceoaoopcjaa.SL
