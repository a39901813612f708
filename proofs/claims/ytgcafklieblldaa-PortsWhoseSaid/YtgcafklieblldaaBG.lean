/- Plain facts about what Bind, Close, At and Find compute. No program in sight. -/
import Derived.Test.YtgcafklieblldaaBF
namespace Go.Proofs.Ytgcafklieblldaa.SL
open Go.RowKit Go.Proofs.YtgcafklieblldaaW.PrintWords Go.Proofs.YtgcafklieblldaaW.PrintLast Go.Proofs.YtgcafklieblldaaW.PrintMore
/-- Numbers lie between one and the latest. -/
def WF (l : List Bd) (g : Int) : Prop := 0 ≤ g ∧ ∀ x ∈ l, 0 < x.n ∧ x.n ≤ g
theorem free_spec (l : List Bd) (a : Ad) : ∀ (n : Nat) (q : Int), freeFrom l a n q ≠ 0 → findB l ⟨a, freeFrom l a n q⟩ = 0
  | 0, q, h => absurd rfl h
  | n + 1, q, h => by
    unfold freeFrom at h ⊢
    by_cases hq : findB l ⟨a, q⟩ = 0
    · rw [if_pos hq]; exact hq
    · rw [if_neg hq] at h ⊢
      exact free_spec l a n (q + 1) h
theorem bindS_no {most g : Int} {l : List Bd} {a : Ad} {port : Int} (h : (bindS most g l a port).e ≠ 0) : (bindS most g l a port).n = 0 ∧ (bindS most g l a port).q = 0 ∧ (bindS most g l a port).g = g ∧ (bindS most g l a port).l = l := by
  unfold bindS at h ⊢
  by_cases h1 : ¬ (kindA a = 1 ∨ kindA a = 5) ∨ port < 0 ∨ 65535 < port
  · rw [if_pos h1]; exact ⟨rfl, rfl, rfl, rfl⟩
  rw [if_neg h1] at h ⊢
  by_cases h2 : 0 < port ∧ 0 < findB l ⟨a, port⟩
  · rw [if_pos h2]; exact ⟨rfl, rfl, rfl, rfl⟩
  rw [if_neg h2] at h ⊢
  by_cases h3 : most ≤ (l.length : Int)
  · rw [if_pos h3]; exact ⟨rfl, rfl, rfl, rfl⟩
  rw [if_neg h3] at h ⊢
  by_cases h4 : port = 0
  · rw [if_pos h4] at h ⊢
    by_cases h5 : freeB l a = 0
    · rw [if_pos h5]; exact ⟨rfl, rfl, rfl, rfl⟩
    · rw [if_neg h5] at h; exact absurd rfl h
  · rw [if_neg h4] at h; exact absurd rfl h
theorem bindS_yes {most g : Int} {l : List Bd} {a : Ad} {port : Int} (h : (bindS most g l a port).e = 0) : ∃ q, findB l ⟨a, q⟩ ≤ 0 ∧ ∀ g', bindS most g' l a port = ⟨g' + 1, q, 0, g' + 1, l ++ [⟨g' + 1, ⟨a, q⟩⟩]⟩ := by
  unfold bindS at h
  by_cases h1 : ¬ (kindA a = 1 ∨ kindA a = 5) ∨ port < 0 ∨ 65535 < port
  · rw [if_pos h1] at h; simp at h
  rw [if_neg h1] at h
  by_cases h2 : 0 < port ∧ 0 < findB l ⟨a, port⟩
  · rw [if_pos h2] at h; simp at h
  rw [if_neg h2] at h
  by_cases h3 : most ≤ (l.length : Int)
  · rw [if_pos h3] at h; simp at h
  rw [if_neg h3] at h
  by_cases h4 : port = 0
  · rw [if_pos h4] at h
    by_cases h5 : freeB l a = 0
    · rw [if_pos h5] at h; simp at h
    · refine ⟨freeB l a, by have := free_spec l a 16384 49152 h5; unfold freeB; omega, fun g' => ?_⟩
      unfold bindS
      rw [if_neg h1, if_neg h2, if_neg h3, if_pos h4, if_neg h5]
  · refine ⟨port, ?_, fun g' => ?_⟩
    · rcases Int.lt_or_le 0 (findB l ⟨a, port⟩) with hf | hf
      · exact absurd ⟨by omega, hf⟩ h2
      · exact hf
    · unfold bindS
      rw [if_neg h1, if_neg h2, if_neg h3, if_neg h4]
theorem WF.bind {most g : Int} {l : List Bd} (h : WF l g) (a : Ad) (port : Int) : WF (bindS most g l a port).l (bindS most g l a port).g := by
  by_cases he : (bindS most g l a port).e = 0
  · obtain ⟨q, _, hq⟩ := bindS_yes he
    rw [hq g]
    refine ⟨by have := h.1; show 0 ≤ g + 1; omega, fun x hx => ?_⟩
    show 0 < x.n ∧ x.n ≤ g + 1
    rcases List.mem_append.1 hx with hx | hx
    · have := h.2 x hx; omega
    · obtain rfl := List.mem_singleton.1 hx
      have := h.1
      show 0 < g + 1 ∧ g + 1 ≤ g + 1
      omega
  · obtain ⟨_, _, h3, h4⟩ := bindS_no he
    rw [h3, h4]; exact h
theorem closeL_sub (l : List Bd) (n : Int) : ∀ x ∈ closeL l n, x ∈ l := fun x hx => by
  unfold closeL at hx
  split at hx
  · exact List.mem_of_mem_eraseIdx hx
  · exact hx
theorem WF.close {g : Int} {l : List Bd} (h : WF l g) (n : Int) : WF (closeL l n) g := ⟨h.1, fun x hx => h.2 x (closeL_sub l n x hx)⟩
theorem find_none_of {l : List Bd} {x : Pl} {g : Int} (h : WF l g) (hf : findB l x ≤ 0) : ∀ s ∈ l, s.p ≠ x := fun s hs e => by
  unfold findB at hf
  cases hq : l.find? (fun s => decide (s.p = x)) with
  | none => exact absurd e (by simpa using List.find?_eq_none.1 hq s hs)
  | some t =>
    rw [hq] at hf
    have := h.2 t (List.mem_of_find?_eq_some hq)
    simp only at hf
    omega
theorem findB_snoc {l : List Bd} {x : Pl} {n : Int} (h : ∀ s ∈ l, s.p ≠ x) : findB (l ++ [⟨n, x⟩]) x = n := by
  unfold findB
  have : (l ++ [(⟨n, x⟩ : Bd)]).find? (fun s => decide (s.p = x)) = some ⟨n, x⟩ := by
    rw [List.find?_append, List.find?_eq_none.2 (fun s hs => by simpa using h s hs)]
    simp
  rw [this]
theorem idx_snoc {l : List Bd} {x : Pl} {n : Int} (h : ∀ s ∈ l, s.n ≠ n) : (l ++ [(⟨n, x⟩ : Bd)]).findIdx? (fun s => decide (s.n = n)) = some l.length := by
  rw [List.findIdx?_eq_some_iff_getElem]
  refine ⟨by simp, by simp, fun j hj => ?_⟩
  rw [List.getElem_append_left hj]
  simpa using h _ (List.getElem_mem hj)
theorem idx_none {l : List Bd} {n : Int} (h : ∀ s ∈ l, s.n ≠ n) : l.findIdx? (fun s => decide (s.n = n)) = none := by
  rw [List.findIdx?_eq_none_iff]
  exact fun s hs => by simpa using h s hs
theorem close_snoc {l : List Bd} {x : Pl} {n : Int} (h : ∀ s ∈ l, s.n ≠ n) : closeL (l ++ [⟨n, x⟩]) n = l ∧ closeE (l ++ [⟨n, x⟩]) n = 0 := by
  unfold closeL closeE idxB idxI
  rw [idx_snoc h]
  refine ⟨?_, by simp only; rw [if_neg (by omega)]⟩
  simp only
  rw [List.eraseIdx_append_of_length_le (Nat.le_refl _), Nat.sub_self]
  simp
theorem close_none {l : List Bd} {n : Int} (h : ∀ s ∈ l, s.n ≠ n) : closeE l n = 1 ∧ closeL l n = l := by
  unfold closeE closeL idxB idxI
  rw [idx_none h]
  exact ⟨by simp only; rw [if_pos (by omega)], rfl⟩
theorem at_snoc {l : List Bd} {x : Pl} {n : Int} (h : ∀ s ∈ l, s.n ≠ n) : atB (l ++ [⟨n, x⟩]) n = (x.a, x.port, 0) := by
  unfold atB
  have : (l ++ [(⟨n, x⟩ : Bd)]).find? (fun s => decide (s.n = n)) = some ⟨n, x⟩ := by
    rw [List.find?_append, List.find?_eq_none.2 (fun s hs => by simpa using h s hs)]
    simp
  rw [this]
theorem at_none {l : List Bd} {n : Int} (h : ∀ s ∈ l, s.n ≠ n) : atB l n = (zA 0, 0, 1) := by
  unfold atB
  rw [List.find?_eq_none.2 (fun s hs => by simpa using h s hs)]
/-- The statement PortsClose, where Bind is taken. -/
structure Took (most g : Int) (l : List Bd) (a : Ad) (port q : Int) : Prop where
  b : bindS most g l a port = ⟨g + 1, q, 0, g + 1, l ++ [⟨g + 1, ⟨a, q⟩⟩]⟩
  at_ : atB (l ++ [⟨g + 1, ⟨a, q⟩⟩]) (g + 1) = (a, q, 0)
  fnd : findP (l ++ [⟨g + 1, ⟨a, q⟩⟩]) a q = g + 1
  cl : closeL (l ++ [⟨g + 1, ⟨a, q⟩⟩]) (g + 1) = l
  ce : closeE (l ++ [⟨g + 1, ⟨a, q⟩⟩]) (g + 1) = 0
  at2 : atB l (g + 1) = (zA 0, 0, 1)
  b2 : bindS most (g + 1) l a port = ⟨g + 2, q, 0, g + 2, l ++ [⟨g + 2, ⟨a, q⟩⟩]⟩
  ce2 : closeE (l ++ [⟨g + 2, ⟨a, q⟩⟩]) (g + 1) = 1
theorem took {most g : Int} {l : List Bd} {a : Ad} {port : Int} (h : WF l g) (he : (bindS most g l a port).e = 0) : ∃ q, Took most g l a port q := by
  obtain ⟨q, hf, hb⟩ := bindS_yes he
  have hp := find_none_of h hf
  have hn : ∀ s ∈ l, s.n ≠ g + 1 := fun s hs => by have := h.2 s hs; omega
  have hn2 : ∀ s ∈ l ++ [(⟨g + 2, ⟨a, q⟩⟩ : Bd)], s.n ≠ g + 1 := fun s hs => by
    rcases List.mem_append.1 hs with hs | hs
    · exact hn s hs
    · obtain rfl := List.mem_singleton.1 hs
      show g + 2 ≠ g + 1
      omega
  have hg := h.1
  refine ⟨q, hb g, at_snoc hn, ?_, (close_snoc hn).1, (close_snoc hn).2, at_none hn, ?_, (close_none hn2).1⟩
  · unfold findP
    rw [findB_snoc hp, if_pos (by omega)]
  · have := hb (g + 1)
    rw [show g + 1 + 1 = g + 2 by omega] at this
    exact this
end Go.Proofs.Ytgcafklieblldaa.SL
