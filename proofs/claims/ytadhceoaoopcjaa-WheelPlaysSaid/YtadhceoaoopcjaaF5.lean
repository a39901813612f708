/- Plain: a wheel that was filled out of a list of ticks, told as that list. No condition. -/
import Derived.Test.YtadhceoaoopcjaaF3
namespace Go.Proofs.Ytadhceoaoopcjaa.SL
open Go.RowKit Go.Proofs.YtadhceoaoopcjaaW.PrintWords Go.Proofs.YtadhceoaoopcjaaW.PrintLast Go.Proofs.YtadhceoaoopcjaaW.PrintMore
def bkD (ats : List Int) (i : Nat) : Du := ⟨(i : Int) + 1, ats.getD i 0, 7 * (i : Int)⟩
def bkP (ats : List Int) (c : Int) (i : Nat) : Bool := decide (c < ats.getD i 0)
/-- Those that wait: the ones whose tick is behind c. -/
def bookL (ats : List Int) (c : Int) : List Du := ((List.range ats.length).filter (bkP ats c)).map (bkD ats)
def bkW (now : Int) (ats : List Int) (c : Int) : Wh := ⟨now, ats.length, bookL ats c⟩
theorem getD_snoc (l : List Int) (t : Int) (i : Nat) (h : i < l.length) : (l ++ [t]).getD i 0 = l.getD i 0 := by
  rw [List.getD_eq_getElem?_getD, List.getD_eq_getElem?_getD, List.getElem?_append_left h]
theorem getD_last (l : List Int) (t : Int) : (l ++ [t]).getD l.length 0 = t := by
  rw [List.getD_eq_getElem?_getD, List.getElem?_append_right (Nat.le_refl _)]; simp
theorem book_snoc (ats : List Int) (c t : Int) (h : c < t) : bookL (ats ++ [t]) c = bookL ats c ++ [⟨(ats.length : Int) + 1, t, 7 * (ats.length : Int)⟩] := by
  unfold bookL
  rw [List.length_append, List.length_singleton, List.range_succ, List.filter_append, List.map_append]
  congr 1
  · have e : (List.range ats.length).filter (bkP (ats ++ [t]) c) = (List.range ats.length).filter (bkP ats c) := by
      refine List.filter_congr fun i hi => ?_
      unfold bkP
      rw [getD_snoc _ _ _ (List.mem_range.1 hi)]
    rw [e]
    refine List.map_congr_left fun i hi => ?_
    unfold bkD
    rw [getD_snoc _ _ _ (List.mem_range.1 (List.mem_filter.1 hi).1)]
  · rw [List.filter_cons_of_pos (by unfold bkP; rw [getD_last]; simpa using h), List.filter_nil, List.map_cons, List.map_nil]
    unfold bkD
    rw [getD_last]
theorem mem_book {ats : List Int} {c : Int} {d : Du} : d ∈ bookL ats c ↔ ∃ i, i < ats.length ∧ c < ats.getD i 0 ∧ d = bkD ats i := by
  unfold bookL
  rw [List.mem_map]
  constructor
  · rintro ⟨i, hi, rfl⟩
    obtain ⟨h1, h2⟩ := List.mem_filter.1 hi
    exact ⟨i, List.mem_range.1 h1, of_decide_eq_true h2, rfl⟩
  · rintro ⟨i, h1, h2, rfl⟩
    exact ⟨i, List.mem_filter.2 ⟨List.mem_range.2 h1, decide_eq_true h2⟩, rfl⟩
theorem book_filter (ats ats' : List Int) (c c' : Int) (p : Du → Bool) (hl : ats'.length = ats.length) (h : ∀ i, i < ats.length → (bkP ats c i && p (bkD ats i)) = bkP ats' c' i) (h2 : ∀ i, i < ats.length → bkP ats' c' i = true → ats'.getD i 0 = ats.getD i 0) : (bookL ats c).filter p = bookL ats' c' := by
  unfold bookL
  rw [filter_map', List.filter_filter, hl]
  have e : (List.range ats.length).filter (fun i => p (bkD ats i) && bkP ats c i) = (List.range ats.length).filter (bkP ats' c') := by
    refine List.filter_congr fun i hi => ?_
    rw [Bool.and_comm]
    exact h i (List.mem_range.1 hi)
  rw [e]
  refine List.map_congr_left fun i hi => ?_
  obtain ⟨g1, g2⟩ := List.mem_filter.1 hi
  unfold bkD
  rw [h2 i (List.mem_range.1 g1) g2]
theorem book_adv (ats : List Int) {c tk : Int} (h : c ≤ tk) : (bookL ats c).filter (fun d => !dueP tk d) = bookL ats tk := by
  refine book_filter ats ats c tk _ rfl (fun i _ => ?_) (fun _ _ _ => rfl)
  unfold bkP dueP bkD
  rw [Bool.eq_iff_iff]
  simp
  omega
theorem getD_set (l : List Int) (k : Nat) (t : Int) (i : Nat) (h : k < l.length) : (l.set k t).getD i 0 = if i = k then t else l.getD i 0 := by
  rw [List.getD_eq_getElem?_getD, List.getD_eq_getElem?_getD, List.getElem?_set]
  by_cases e : k = i
  · subst e; rw [if_pos rfl, if_pos rfl, if_pos h]; rfl
  · rw [if_neg e, if_neg fun e2 => e e2.symm]
theorem book_cut (ats : List Int) {c : Int} (hc : -1 ≤ c) {k : Nat} (hk : k < ats.length) : (bookL ats c).filter (notId ((k : Int) + 1)) = bookL (ats.set k (-1)) c := by
  refine book_filter ats _ c c _ (List.length_set ..) (fun i hi => ?_) (fun i hi hp => ?_)
  · unfold bkP notId bkD
    rw [getD_set _ _ _ _ hk]
    by_cases e : i = k
    · subst e; simp; omega
    · rw [if_neg e]
      have : ((i : Int) + 1 == (k : Int) + 1) = false := by simp; omega
      simp [this]
  · unfold bkP at hp
    rw [getD_set _ _ _ _ hk] at hp ⊢
    by_cases e : i = k
    · subst e; rw [if_pos rfl] at hp; simp at hp; omega
    · rw [if_neg e]
theorem book_ids (ats : List Int) (c : Int) : (bookL ats c).Pairwise fun a b => a.id < b.id := by
  unfold bookL
  rw [List.pairwise_map]
  exact (List.pairwise_lt_range.sublist List.filter_sublist).imp fun {a b} h => by show (a : Int) + 1 < (b : Int) + 1; omega
theorem book_ok {now : Int} {ats : List Int} {c : Int} (h1 : 0 ≤ now) (h2 : now ≤ 1099511627776) (hl : ats.length ≤ 4096) (h : ∀ i, i < ats.length → c < ats.getD i 0 → now ≤ ats.getD i 0 ∧ ats.getD i 0 ≤ 1099511627776) : WOk (bkW now ats c) := by
  refine ⟨h1, h2, book_ids ats c, fun d hd => ?_, fun d hd => ?_, by show (0 : Int) ≤ (ats.length : Int); omega, ?_⟩
  · obtain ⟨i, hi, _, rfl⟩ := mem_book.1 hd
    show 1 ≤ (i : Int) + 1 ∧ (i : Int) + 1 ≤ (ats.length : Int)
    omega
  · obtain ⟨i, hi, hc, rfl⟩ := mem_book.1 hd
    exact h i hi hc
  · show (bookL ats c).length ≤ 4096
    unfold bookL
    rw [List.length_map]
    exact Nat.le_trans (List.length_filter_le _ _) (by rw [List.length_range]; exact hl)
theorem find_none {s : Wh} {id : Int} (h : ∀ d ∈ s.L, d.id ≠ id) : findW s id = none := by
  unfold findW
  rw [List.find?_eq_none]
  intro d hd
  simpa using h d hd
theorem book_find {now : Int} {ats : List Int} {c : Int} (i : Nat) (hi : i < ats.length) : findW (bkW now ats c) ((i : Int) + 1) = if c < ats.getD i 0 then some (bkD ats i) else none := by
  by_cases h : c < ats.getD i 0
  · rw [if_pos h]
    cases hf : findW (bkW now ats c) ((i : Int) + 1) with
    | none => exact absurd rfl (findW_none hf (bkD ats i) (mem_book.2 ⟨i, hi, h, rfl⟩))
    | some d =>
      obtain ⟨hm, he⟩ := findW_some hf
      obtain ⟨j, hj, hc, rfl⟩ := mem_book.1 hm
      have : (j : Int) + 1 = (i : Int) + 1 := he
      obtain rfl : j = i := by omega
      rfl
  · rw [if_neg h]
    refine find_none fun d hd e => h ?_
    obtain ⟨j, hj, hc, rfl⟩ := mem_book.1 hd
    have : (j : Int) + 1 = (i : Int) + 1 := e
    obtain rfl : j = i := by omega
    exact hc
theorem book_find_out {now : Int} {ats : List Int} {c id : Int} (h : id ≤ 0 ∨ (ats.length : Int) < id) : findW (bkW now ats c) id = none := by
  refine find_none fun d hd e => ?_
  obtain ⟨j, hj, hc, rfl⟩ := mem_book.1 hd
  have : (j : Int) + 1 = id := e
  omega
theorem book_len (ats : List Int) (c : Int) : (bookL ats c).length = ((List.range ats.length).filter (bkP ats c)).length := by unfold bookL; rw [List.length_map]
/-- How many of the first k wait. -/
def cntB (ats : List Int) (c : Int) (k : Nat) : Nat := ((List.range k).filter (bkP ats c)).length
theorem cntB_succ (ats : List Int) (c : Int) (k : Nat) : cntB ats c (k + 1) = cntB ats c k + if c < ats.getD k 0 then 1 else 0 := by
  unfold cntB
  rw [List.range_succ, List.filter_append, List.length_append]
  by_cases h : c < ats.getD k 0
  · rw [List.filter_cons_of_pos (by unfold bkP; simpa using h), if_pos h]; rfl
  · rw [List.filter_cons_of_neg (by unfold bkP; simpa using h), if_neg h]; rfl
theorem cntB_le (ats : List Int) (c : Int) (k : Nat) : cntB ats c k ≤ k := by
  unfold cntB
  exact Nat.le_trans (List.length_filter_le _ _) (by rw [List.length_range]; exact Nat.le_refl _)
/-- The least tick of those of the first k that wait; -1: none. -/
def leastB (ats : List Int) (c : Int) : Nat → Int
  | 0 => -1
  | k + 1 => if c < ats.getD k 0 ∧ (leastB ats c k < 0 ∨ ats.getD k 0 < leastB ats c k) then ats.getD k 0 else leastB ats c k
theorem leastB_spec {ats : List Int} {c : Int} (hc : 0 ≤ c) : ∀ k, (leastB ats c k = -1 ∧ ∀ i, i < k → ¬ c < ats.getD i 0) ∨ (∃ i, i < k ∧ c < ats.getD i 0 ∧ leastB ats c k = ats.getD i 0 ∧ ∀ j, j < k → c < ats.getD j 0 → ats.getD i 0 ≤ ats.getD j 0)
  | 0 => .inl ⟨rfl, fun i hi => absurd hi (Nat.not_lt_zero _)⟩
  | k + 1 => by
    rcases leastB_spec (ats := ats) hc k with ⟨h1, h2⟩ | ⟨i, hi, h1, h2, h3⟩
    · by_cases h : c < ats.getD k 0
      · refine .inr ⟨k, Nat.lt_succ_self k, h, ?_, fun j hj hjc => ?_⟩
        · unfold leastB; rw [if_pos ⟨h, .inl (by omega)⟩]
        · rcases Nat.lt_or_eq_of_le (Nat.le_of_lt_succ hj) with hl | rfl
          · exact absurd hjc (h2 j hl)
          · exact Int.le_refl _
      · refine .inl ⟨by unfold leastB; rw [if_neg fun e => h e.1]; exact h1, fun i hi => ?_⟩
        rcases Nat.lt_or_eq_of_le (Nat.le_of_lt_succ hi) with hl | rfl
        · exact h2 i hl
        · exact h
    · by_cases h : c < ats.getD k 0 ∧ ats.getD k 0 < ats.getD i 0
      · refine .inr ⟨k, Nat.lt_succ_self k, h.1, ?_, fun j hj hjc => ?_⟩
        · unfold leastB; rw [if_pos ⟨h.1, .inr (by rw [h2]; exact h.2)⟩]
        · rcases Nat.lt_or_eq_of_le (Nat.le_of_lt_succ hj) with hl | rfl
          · have := h3 j hl hjc; omega
          · exact Int.le_refl _
      · refine .inr ⟨i, Nat.lt_succ_of_lt hi, h1, ?_, fun j hj hjc => ?_⟩
        · unfold leastB
          rw [if_neg fun e => ?_]
          · exact h2
          · rcases e.2 with e2 | e2
            · rw [h2] at e2; omega
            · rw [h2] at e2; exact h ⟨e.1, e2⟩
        · rcases Nat.lt_or_eq_of_le (Nat.le_of_lt_succ hj) with hl | rfl
          · exact h3 j hl hjc
          · by_cases e : ats.getD j 0 < ats.getD i 0
            · exact absurd ⟨hjc, e⟩ h
            · omega
theorem book_next {now : Int} {ats : List Int} {c : Int} (hc : 0 ≤ c) : nextS (bkW now ats c) = if 0 < cntB ats c ats.length then (leastB ats c ats.length, true) else (0, false) := by
  have hL : (bkW now ats c).L = bookL ats c := rfl
  have hlen := book_len ats c
  change (bookL ats c).length = cntB ats c ats.length at hlen
  rcases leastB_spec (ats := ats) hc ats.length with ⟨h1, h2⟩ | ⟨i, hi, h1, h2, h3⟩
  · have he : bookL ats c = [] := List.eq_nil_iff_forall_not_mem.2 fun d hd => by
      obtain ⟨i, hi, hc, _⟩ := mem_book.1 hd
      exact h2 i hi hc
    rw [he] at hlen
    rw [if_neg (by rw [← hlen]; decide)]
    unfold nextS
    rw [hL, he]
    rfl
  · have hm : bkD ats i ∈ bookL ats c := mem_book.2 ⟨i, hi, h1, rfl⟩
    rw [if_pos (by rw [← hlen]; exact List.length_pos_iff.2 (List.ne_nil_of_mem hm))]
    unfold nextS
    rw [hL, minT_of hm fun u hu => ?_, h2]
    · rfl
    · obtain ⟨j, hj, hjc, rfl⟩ := mem_book.1 hu
      exact h3 j hj hjc
end Go.Proofs.Ytadhceoaoopcjaa.SL
