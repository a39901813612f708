/- The walk of the document's spans: the stretches of one flag, as a right list. No condition. -/
import Derived.Test.YtdlgocieecfpbaaC4
namespace Go.Proofs.Ytdlgocieecfpbaa.Q
open Go.RowKit Go.Proofs.YtdlgocieecfpbaaW.PrintWords Go.Proofs.YtdlgocieecfpbaaW.PrintLast Go.Proofs.YtdlgocieecfpbaaW.PrintMore Go.Proofs.Ytdlgocieecfpbaa.SL

/-- The document's list behind a pointer: its flags in a block of their own. -/
structure RefAt (w : World) (q t : Nat) (bits : List Bool) (ends top : Int) : Prop where
  st : w.heap[q]? = some (.cells #[.slice (some ⟨t, 0, none⟩) 65535 65535, .int .i64 ends, .int .i64 top] 55 (0, 0))
  row : w.heap[t]? = some (.cells (bits.map Value.bool).toArray 4 (0, 0))
  len : bits.length = 65535
  ne : q ≠ t
theorem RefAt.below {w w' : World} {q t : Nat} {bits : List Bool} {ends top : Int} (h : RefAt w q t bits ends top) (hb : Below w.heap.size w w') : RefAt w' q t bits ends top :=
  ⟨(hb.block q (lt_of_block h.st)).trans h.st, (hb.block t (lt_of_block h.row)).trans h.row, h.len, h.ne⟩
theorem RefAt.c0 {w : World} {q t : Nat} {bits : List Bool} {ends top : Int} (h : RefAt w q t bits ends top) : w.cell? ⟨q, 0, none⟩ = some (.slice (some ⟨t, 0, none⟩) 65535 65535) := cell_of_row w q 0 _ _ _ h.st
theorem RefAt.c1 {w : World} {q t : Nat} {bits : List Bool} {ends top : Int} (h : RefAt w q t bits ends top) : w.cell? ⟨q, 1, none⟩ = some (.int .i64 ends) := cell_of_row w q 1 _ _ _ h.st
theorem RefAt.c2 {w : World} {q t : Nat} {bits : List Bool} {ends top : Int} (h : RefAt w q t bits ends top) : w.cell? ⟨q, 2, none⟩ = some (.int .i64 top) := cell_of_row w q 2 _ _ _ h.st
theorem RefAt.bit {w : World} {q t : Nat} {bits : List Bool} {ends top : Int} (h : RefAt w q t bits ends top) (i : Nat) (hi : i < bits.length) : w.cell? ⟨t, i, none⟩ = some (.bool bits[i]) := by
  rw [cell_of_row w t i _ _ _ h.row]
  simp [hi]
/-- The stretches of one flag from a place on, up to another. -/
structure SpA (bits : List Bool) (flag : Bool) (a b : Int) (o : List Sp) : Prop where
  right : rightB o = true
  has : ∀ x, inS o x ↔ (a ≤ x ∧ x < b) ∧ bits.getD x.toNat (!flag) = flag
theorem SpA.start (bits : List Bool) (flag : Bool) (a : Int) : SpA bits flag a a [] := ⟨rfl, fun x => ⟨fun h => absurd h (inS_nil x), fun h => by omega⟩⟩
theorem rightFrom_snoc : ∀ (o : List Sp) (a : Int) (t : Sp), -1 ≤ a → (rightFrom a (o ++ [t]) = true ↔ rightFrom a o = true ∧ goodB t = true ∧ a < t.f0 ∧ ∀ s ∈ o, s.f1 < t.f0)
  | [], a, t, _ => by simp [rightFrom, and_comm]
  | s :: o, a, t, ha => by
    rw [List.cons_append, rightFrom_cons, rightFrom_cons]
    constructor
    · rintro ⟨h1, h2, h3⟩
      have hg := (goodB_iff s).1 h2
      obtain ⟨i1, i2, i3, i4⟩ := (rightFrom_snoc o s.f1 t (by omega)).1 h3
      refine ⟨⟨h1, h2, i1⟩, i2, by omega, fun x hx => ?_⟩
      rcases List.mem_cons.1 hx with rfl | hx
      · exact i3
      · exact i4 x hx
    · rintro ⟨⟨h1, h2, h3⟩, h4, h5, h6⟩
      have hg := (goodB_iff s).1 h2
      exact ⟨h1, h2, (rightFrom_snoc o s.f1 t (by omega)).2 ⟨h3, h4, h6 s List.mem_cons_self, fun x hx => h6 x (List.mem_cons_of_mem _ hx)⟩⟩
theorem inS_snoc (o : List Sp) (t : Sp) (n : Int) : inS (o ++ [t]) n ↔ inS o n ∨ (t.f0 ≤ n ∧ n < t.f1) := by
  rw [inS_append, inS_cons]
  simp [inS_nil]
theorem SpA.skip {bits : List Bool} {flag : Bool} {a b : Int} {o : List Sp} (h : SpA bits flag a b o) (hb : a ≤ b) (hf : bits.getD b.toNat (!flag) ≠ flag) : SpA bits flag a (b + 1) o :=
  ⟨h.right, fun x => by
    rw [h.has]
    constructor
    · rintro ⟨h1, h2⟩
      exact ⟨by omega, h2⟩
    · rintro ⟨h1, h2⟩
      refine ⟨⟨h1.1, ?_⟩, h2⟩
      rcases Int.lt_or_le x b with h3 | h3
      · exact h3
      · obtain rfl : x = b := by omega
        exact absurd h2 hf⟩
theorem SpA.one {bits : List Bool} {flag : Bool} {a b : Int} {o : List Sp} (h : SpA bits flag a b o) (h0 : 0 ≤ a) (hb : a ≤ b) (ht : b < 65535) (hf : bits.getD b.toNat (!flag) = flag) (hne : ∀ s ∈ o, s.f1 < b) : SpA bits flag a (b + 1) (o ++ [⟨b, b + 1⟩]) := by
  refine ⟨(rightFrom_snoc o (-1) ⟨b, b + 1⟩ (by omega)).2 ⟨h.right, (goodB_iff _).2 ⟨by show 0 ≤ b; omega, by show b < b + 1; omega, by show b + 1 ≤ 65535; omega⟩, by show -1 < b; omega, hne⟩, fun x => ?_⟩
  rw [inS_snoc, h.has]
  show _ ∨ (b ≤ x ∧ x < b + 1) ↔ _
  constructor
  · rintro (⟨h1, h2⟩ | h1)
    · exact ⟨by omega, h2⟩
    · obtain rfl : x = b := by omega
      exact ⟨by omega, hf⟩
  · rintro ⟨h1, h2⟩
    rcases Int.lt_or_le x b with h3 | h3
    · exact .inl ⟨⟨h1.1, h3⟩, h2⟩
    · exact .inr (by omega)
theorem SpA.more {bits : List Bool} {flag : Bool} {a b : Int} {o : List Sp} {t : Sp} (h : SpA bits flag a b (o ++ [t])) (hb : a ≤ b) (ht : b < 65535) (hf : bits.getD b.toNat (!flag) = flag) (he : t.f1 = b) : SpA bits flag a (b + 1) (o ++ [⟨t.f0, b + 1⟩]) := by
  obtain ⟨r1, r2, r3, r4⟩ := (rightFrom_snoc o (-1) t (by omega)).1 h.right
  have hg := (goodB_iff t).1 r2
  refine ⟨(rightFrom_snoc o (-1) ⟨t.f0, b + 1⟩ (by omega)).2 ⟨r1, (goodB_iff _).2 ⟨hg.1, by show t.f0 < b + 1; omega, by show b + 1 ≤ 65535; omega⟩, r3, r4⟩, fun x => ?_⟩
  have hx := h.has x
  rw [inS_snoc] at hx ⊢
  show _ ∨ (t.f0 ≤ x ∧ x < b + 1) ↔ _
  constructor
  · rintro (h1 | h1)
    · have := hx.1 (.inl h1)
      exact ⟨by omega, this.2⟩
    · rcases Int.lt_or_le x b with h3 | h3
      · have := hx.1 (.inr (by omega))
        exact ⟨by omega, this.2⟩
      · obtain rfl : x = b := by omega
        exact ⟨by omega, hf⟩
  · rintro ⟨h1, h2⟩
    rcases Int.lt_or_le x b with h3 | h3
    · rcases hx.2 ⟨⟨h1.1, h3⟩, h2⟩ with h4 | h4
      · exact .inl h4
      · exact .inr (by omega)
    · exact .inr (by omega)
theorem SpA.le {bits : List Bool} {flag : Bool} {a b : Int} {o : List Sp} (h : SpA bits flag a b o) {s : Sp} (hs : s ∈ o) : s.f1 ≤ b := by
  have hg := (goodB_iff s).1 (right_good h.right s hs)
  have := ((h.has (s.f1 - 1)).1 ⟨s, hs, by omega, by omega⟩).1
  omega
theorem SpA.lt_last {bits : List Bool} {flag : Bool} {a b : Int} {o : List Sp} {t : Sp} (h : SpA bits flag a b (o ++ [t])) (hne : t.f1 ≠ b) : ∀ s ∈ o ++ [t], s.f1 < b := by
  intro s hs
  have h1 := h.le hs
  rcases List.mem_append.1 hs with h2 | h2
  · have h3 := h.le (s := t) (List.mem_append.2 (.inr (List.mem_singleton.2 rfl)))
    obtain ⟨r1, r2, r3, r4⟩ := (rightFrom_snoc o (-1) t (by omega)).1 h.right
    have h4 := r4 s h2
    have hg := (goodB_iff t).1 r2
    omega
  · obtain rfl := List.mem_singleton.1 h2
    omega
end Go.Proofs.Ytdlgocieecfpbaa.Q
