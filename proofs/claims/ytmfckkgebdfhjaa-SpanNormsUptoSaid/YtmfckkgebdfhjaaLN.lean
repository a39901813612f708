/- The law of the norms, in plain Lean: of at most 1048576 spans, whatever they are, its answer is true. No further condition. -/
import Derived.Test.YtmfckkgebdfhjaaQFmosaiclaw09SpanNorms
import Derived.Test.YtmfckkgebdfhjaaQE
namespace Go.Proofs.Ytmfckkgebdfhjaa.Q
open Go.RowKit Go.Proofs.YtmfckkgebdfhjaaW.PrintWords Go.Proofs.YtmfckkgebdfhjaaW.PrintLast Go.Proofs.YtmfckkgebdfhjaaW.PrintMore
theorem norm_same {B l : List Sp} (h : ∀ s, s ∈ B ↔ s ∈ l) : normS B = normS l := by
  unfold normS
  have e : B.all goodB = l.all goodB := by
    rw [Bool.eq_iff_iff, List.all_eq_true, List.all_eq_true]
    exact ⟨fun k s hs => k s ((h s).2 hs), fun k s hs => k s ((h s).1 hs)⟩
  rw [e]
  by_cases hg : l.all goodB = true
  · rw [if_pos hg, if_pos hg]
    obtain ⟨r1, c1⟩ := joinS_right l (List.all_eq_true.1 hg)
    obtain ⟨r2, c2⟩ := joinS_right B (List.all_eq_true.1 (e.trans hg))
    rw [right_unique r2 r1 (fun n => ?_)]
    rw [c1, c2]
    exact ⟨fun ⟨t, ht, k⟩ => ⟨t, (h t).1 ht, k⟩, fun ⟨t, ht, k⟩ => ⟨t, (h t).2 ht, k⟩⟩
  · rw [if_neg hg, if_neg hg]
theorem join_id {l : List Sp} (h : rightB l = true) : joinS l = l := joinS_eq l l (right_good h) h (fun _ => Iff.rfl)
theorem nl_fin (l : List Sp) (hl : l.length ≤ 1048576) (k : Nat) (hk : 2000000 < k) : mosaiclaw09_SpanNorms.j4 k l (normS l).1 (normS l).2 false = some true := by
  obtain ⟨k, rfl⟩ : ∃ m, k = m + 1 := ⟨k - 1, by omega⟩
  simp only [mosaiclaw09_SpanNorms.j4]
  rw [if_neg (by simp)]
  unfold normS
  by_cases hg : l.all goodB = true
  · rw [if_pos hg]
    simp only [if_true]
    have hr := (joinS_right l (List.all_eq_true.1 hg)).1
    have hlen := rightB_len hr
    have hnn : normS (joinS l) = (joinS l, 0) := by
      unfold normS
      rw [if_pos (List.all_eq_true.2 (right_good hr)), join_id hr]
    rw [own_eval _ (by omega) k (by omega)]
    simp only [Option.bind_some]
    rw [norm_eval _ (by omega) k (by omega), hnn]
    simp only [Option.bind_some, if_true]
    rw [same_eval _ _ (by omega) k (by omega)]
    simp only [Option.bind_some, decide_true, if_true]
    rw [right_eval _ (by omega) k (by omega), hr]
    simp only [Option.bind_some, if_true]
    rw [own_eval _ (by omega) k (by omega)]
    simp only [Option.bind_some]
    rw [right_eval _ (by omega) k (by omega)]
    simp only [Option.bind_some]
    rw [same_eval _ _ (by omega) k (by omega)]
    simp only [Option.bind_some]
    congr 1
    rw [beq_iff_eq, Bool.eq_iff_iff, decide_eq_true_eq]
    exact ⟨fun h => join_id h, fun h => h ▸ hr⟩
  · rw [if_neg hg]
    simp only
    rw [if_neg (by omega), if_pos trivial, if_pos (by simp), own_eval _ (by omega) k (by omega)]
    simp only [Option.bind_some]
    rw [right_eval _ (by omega) k (by omega)]
    simp only [Option.bind_some]
    have : rightB l = false := by
      cases h : rightB l
      · rfl
      · exact absurd (List.all_eq_true.2 (right_good h)) hg
    rw [this]
    rfl
theorem nl_l1 (l : List Sp) (hl : l.length ≤ 1048576) (x1 : Int) : ∀ (d i k : Nat) (B : List Sp), i + d = l.length → 2 * d + 6000000 < k → B.length + d ≤ 4000000 → (∀ s, s ∈ B ↔ s ∈ l) → mosaiclaw09_SpanNorms.l1 k l x1 (normS l).1 (normS l).2 B (i : Int) = some true := by
  intro d
  induction d with
  | zero =>
    intro i k B hi hk hB hm
    obtain ⟨k, rfl⟩ : ∃ m, k = m + 2 := ⟨k - 2, by omega⟩
    rw [show k + 2 = (k + 1) + 1 from rfl]
    simp only [mosaiclaw09_SpanNorms.l1]
    rw [if_neg (by omega)]
    simp only [mosaiclaw09_SpanNorms.j3]
    rw [if_neg (by simp), norm_eval B (by omega) k (by omega), norm_same hm]
    simp only [Option.bind_some, if_true]
    have hn : (normS l).1.length ≤ 65536 := by
      unfold normS
      by_cases hg : l.all goodB = true
      · rw [if_pos hg]
        exact rightB_len (joinS_right l (List.all_eq_true.1 hg)).1
      · rw [if_neg hg]; simp
    rw [same_eval _ _ (by omega) k (by omega)]
    simp only [Option.bind_some]
    exact nl_fin l hl k (by omega)
  | succ d ih =>
    intro i k B hi hk hB hm
    obtain ⟨k, rfl⟩ : ∃ m, k = m + 2 := ⟨k - 2, by omega⟩
    rw [show k + 2 = (k + 1) + 1 from rfl]
    simp only [mosaiclaw09_SpanNorms.l1]
    rw [if_pos (by omega), decide_eq_true (by omega)]
    simp only [mosaiclaw09_SpanNorms.j3, if_true]
    by_cases c : Int.tmod (i : Int) 2 = Int.tmod x1 2
    · rw [if_pos c, if_pos (by omega), if_pos (by omega), if_pos (by omega), wr1 i (by omega), rdT l i (by omega)]
      refine ih (i + 1) k _ (by omega) (by omega) (by simp; omega) (fun s => ?_)
      rw [List.mem_append, hm s]
      constructor
      · rintro (h | h)
        · exact h
        · rw [List.mem_singleton.1 h]
          exact List.getElem_mem (by omega)
      · exact .inl
    · rw [if_neg c, wr1 i (by omega)]
      exact ih (i + 1) k B (by omega) (by omega) (by omega) hm
theorem nl_l0 (l : List Sp) (hl : l.length ≤ 1048576) (x1 : Int) : ∀ (j k : Nat) (B : List Sp), j ≤ l.length → j + 9000000 < k → B.length + j ≤ 1048576 → (∀ s ∈ B, s ∈ l) → (∀ i (h : i < l.length), j ≤ i → l[i] ∈ B) → mosaiclaw09_SpanNorms.l0 k l x1 (normS l).1 (normS l).2 B ((j : Int) - 1) = some true := by
  intro j
  induction j with
  | zero =>
    intro k B hj hk hB h1 h2
    obtain ⟨k, rfl⟩ : ∃ m, k = m + 2 := ⟨k - 2, by omega⟩
    rw [show k + 2 = (k + 1) + 1 from rfl]
    simp only [mosaiclaw09_SpanNorms.l0]
    rw [if_neg (by omega)]
    have hm : ∀ s, s ∈ B ↔ s ∈ l := fun s => ⟨h1 s, fun h => by
      obtain ⟨i, hi, rfl⟩ := List.getElem_of_mem h
      exact h2 i hi (Nat.zero_le _)⟩
    simp only [mosaiclaw09_SpanNorms.j1]
    have a := nl_l1 l hl (wrap64 ((-1) - x1)) l.length 0 k B (by omega) (by omega) (by omega) hm
    have b := nl_l1 l hl x1 l.length 0 k B (by omega) (by omega) (by omega) hm
    by_cases c : x1 < 0
    · rw [if_pos c]; exact a
    · rw [if_neg c]; exact b
  | succ j ih =>
    intro k B hj hk hB h1 h2
    obtain ⟨k, rfl⟩ : ∃ m, k = m + 1 := ⟨k - 1, by omega⟩
    simp only [mosaiclaw09_SpanNorms.l0]
    rw [if_pos (by omega), if_pos (by omega), if_pos (by omega), if_pos (by omega)]
    have e1 : ((j + 1 : Nat) : Int) - 1 = (j : Int) := by omega
    have e2 : wrap64 ((j : Int) - 1) = (j : Int) - 1 := by unfold wrap64; omega
    rw [e1, e2, rdT l j (by omega)]
    refine ih k _ (by omega) (by omega) (by simp; omega) (fun s hs => ?_) (fun i hi hji => ?_)
    · rcases List.mem_append.1 hs with hs | hs
      · exact h1 s hs
      · rw [List.mem_singleton.1 hs]; exact List.getElem_mem (by omega)
    · rcases Nat.lt_or_ge j i with h | h
      · exact List.mem_append_left _ (h2 i hi h)
      · have : i = j := by omega
        subst this
        exact List.mem_append_right _ (List.mem_singleton.2 rfl)
theorem spanNorms_law (l : List Sp) (hl : l.length ≤ 1048576) (x1 : Int) : ∃ k, mosaiclaw09_SpanNorms.f k l x1 = some true := by
  obtain ⟨k, hk⟩ : ∃ k, k = 20000000 := ⟨_, rfl⟩
  refine ⟨k, ?_⟩
  unfold mosaiclaw09_SpanNorms.f
  rw [alive_eval k (by omega)]
  simp only [Option.bind_some, if_true]
  rw [own_eval l (by omega) k (by omega)]
  simp only [Option.bind_some]
  rw [norm_eval l (by omega) k (by omega)]
  simp only [Option.bind_some]
  have e : wrap64 ((l.length : Int) - 1) = (l.length : Int) - 1 := by unfold wrap64; omega
  rw [e]
  exact nl_l0 l hl x1 l.length k [] (Nat.le_refl _) (by omega) (by simp; omega) (fun s h => by cases h) (fun i h hi => by omega)
end Go.Proofs.Ytmfckkgebdfhjaa.Q
