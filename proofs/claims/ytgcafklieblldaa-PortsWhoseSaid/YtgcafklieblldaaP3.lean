/- Plain facts: a free port is found among so many; the document's way of asking is the program's. No program in sight. -/
import Derived.Test.YtgcafklieblldaaP2
namespace Go.Proofs.Ytgcafklieblldaa.SL
open Go.RowKit Go.Proofs.YtgcafklieblldaaW.PrintWords Go.Proofs.YtgcafklieblldaaW.PrintLast Go.Proofs.YtgcafklieblldaaW.PrintMore
theorem pigeon : ∀ (n : Nat) (q : Int) (L : List Int), (∀ i : Nat, i < n → q + i ∈ L) → n ≤ L.length
  | 0, _, _, _ => Nat.zero_le _
  | n + 1, q, L, h => by
    have hm := h n (by omega)
    have ih := pigeon n q (L.erase (q + n)) fun i hi => (List.mem_erase_of_ne (by omega)).2 (h i (by omega))
    rw [List.length_erase_of_mem hm] at ih
    have := List.length_pos_of_mem hm
    omega
theorem findB_mem {l : List Bd} {x : Pl} (h : findB l x ≠ 0) : ∃ s ∈ l, s.p = x := by
  unfold findB at h
  cases hq : l.find? (fun s => decide (s.p = x)) with
  | none => rw [hq] at h; exact absurd rfl h
  | some s => exact ⟨s, List.mem_of_find?_eq_some hq, by simpa using List.find?_some hq⟩
theorem free_first (l : List Bd) (a : Ad) : ∀ (n : Nat) (q : Int), 0 < q → (freeFrom l a n q = 0 → ∀ i : Nat, i < n → findB l ⟨a, q + i⟩ ≠ 0) ∧ (freeFrom l a n q ≠ 0 → q ≤ freeFrom l a n q ∧ freeFrom l a n q < q + n ∧ ∀ i, q ≤ i → i < freeFrom l a n q → findB l ⟨a, i⟩ ≠ 0)
  | 0, q, _ => ⟨fun _ i hi => absurd hi (Nat.not_lt_zero _), fun h => absurd rfl h⟩
  | n + 1, q, hq => by
    unfold freeFrom
    by_cases h : findB l ⟨a, q⟩ = 0
    · rw [if_pos h]
      exact ⟨fun e => by omega, fun _ => ⟨Int.le_refl _, by push_cast; omega, fun i h1 h2 => by omega⟩⟩
    · rw [if_neg h]
      obtain ⟨ih1, ih2⟩ := free_first l a n (q + 1) (by omega)
      refine ⟨fun e i hi => ?_, fun e => ?_⟩
      · match i, hi with
        | 0, _ => simpa using h
        | i + 1, hi =>
          have := ih1 e i (by omega)
          rw [show q + 1 + (i : Int) = q + ((i + 1 : Nat) : Int) by push_cast; omega] at this
          exact this
      · obtain ⟨h1, h2, h3⟩ := ih2 e
        refine ⟨by omega, by push_cast at h2 ⊢; omega, fun i h4 h5 => ?_⟩
        by_cases hi : i = q
        · rw [hi]; exact h
        · exact h3 i (by omega) h5
theorem free_ne {l : List Bd} (a : Ad) (h : l.length ≤ 32) : freeB l a ≠ 0 := fun e => by
  have h1 := (free_first l a 16384 49152 (by omega)).1 e
  have := pigeon 16384 49152 (l.map (·.p.port)) fun i hi => by
    obtain ⟨s, hs, hp⟩ := findB_mem (h1 i hi)
    exact List.mem_map.2 ⟨s, hs, by rw [hp]⟩
  rw [List.length_map] at this
  omega
theorem free_in {l : List Bd} (a : Ad) (h : l.length ≤ 32) : 49152 ≤ freeB l a ∧ freeB l a ≤ 65535 ∧ findB l ⟨a, freeB l a⟩ = 0 ∧ ∀ i, 49152 ≤ i → i < freeB l a → findB l ⟨a, i⟩ ≠ 0 := by
  have hne := free_ne a h
  obtain ⟨h1, h2, h3⟩ := (free_first l a 16384 49152 (by omega)).2 hne
  exact ⟨h1, by have : freeB l a < 49152 + ((16384 : Nat) : Int) := h2; omega, free_spec l a 16384 49152 hne, h3⟩
theorem jx_neg {l : List Bd} {x : Pl} (h : jx l x < 0) : jx l x = -1 ∧ findB l x = 0 := by
  obtain ⟨h1, h2⟩ := idxI_neg h
  refine ⟨h1, findB_miss fun j hj e => ?_⟩
  have := h2 l[j] (List.getElem_mem hj)
  exact absurd e (by simpa using this)
theorem jx_pos {l : List Bd} {x : Pl} {k : Nat} (h : jx l x = (k : Int)) : ∃ s, l[k]? = some s ∧ s.p = x ∧ findB l x = s.n := by
  obtain ⟨s, h1, h2, h3⟩ := idxI_some h
  obtain ⟨hk, hx⟩ := List.getElem?_eq_some_iff.1 h1
  refine ⟨s, h1, by simpa using h2, ?_⟩
  rw [findB_hit (k := k) hk (by rw [hx]; simpa using h2) (fun j hj hjk => by simpa using h3 j hj hjk), hx]
theorem jx_find {l : List Bd} {g : Int} (h : WF l g) (x : Pl) : 0 ≤ jx l x ↔ 0 < findB l x := by
  constructor
  · intro h0
    obtain ⟨s, h1, _, h3⟩ := jx_pos (l := l) (x := x) (k := (jx l x).toNat) (by omega)
    have := h.2 s (List.mem_of_getElem? h1)
    omega
  · intro h0
    rcases Int.lt_or_le (jx l x) 0 with hq | hq
    · have := (jx_neg hq).2; omega
    · exact hq
theorem find_zero {l : List Bd} {g : Int} (h : WF l g) (x : Pl) : findB l x = 0 ↔ jx l x < 0 := by
  constructor
  · intro h0
    rcases Int.lt_or_le (jx l x) 0 with hq | hq
    · exact hq
    · have := (jx_find h x).1 hq; omega
  · intro h0; exact (jx_neg h0).2
end Go.Proofs.Ytgcafklieblldaa.SL
