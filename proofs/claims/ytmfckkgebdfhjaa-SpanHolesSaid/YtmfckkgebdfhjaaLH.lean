/- The law of the holes, in plain Lean: whatever the list, the end and the number, its answer is true. No condition. -/
import Derived.Test.YtmfckkgebdfhjaaQFmosaiclaw09SpanHoles
import Derived.Test.YtmfckkgebdfhjaaQS2
namespace Go.Proofs.Ytmfckkgebdfhjaa.Q
open Go.RowKit Go.Proofs.YtmfckkgebdfhjaaW.PrintWords Go.Proofs.YtmfckkgebdfhjaaW.PrintLast Go.Proofs.YtmfckkgebdfhjaaW.PrintMore
theorem inS_lt {l : List Sp} {a n : Int} (hr : rightFrom a l = true) (h : inS l n) : n < 65535 := by
  obtain ⟨s, hs, h1, h2⟩ := h
  have := (goodB_iff s).1 (right_good hr s hs)
  omega
theorem inB_of (l m : List Sp) (v : Int) (b : Bool) (h : inS l v ↔ (b = true ∧ ¬ inS m v)) : inB l v = (b && !inB m v) := by
  have h1 := inB_iff l v
  have h2 := inB_iff m v
  cases e1 : inB l v <;> cases e2 : inB m v <;> cases b <;> simp_all
structure HolesOk (m h : List Sp) (en : Int) : Prop where
  e0 : 0 ≤ en
  e1 : en ≤ 65535
  rm : rightB m = true
  hh : h = holesA 0 m en
theorem HolesOk.right {m h : List Sp} {en : Int} (H : HolesOk m h en) : rightB h = true := by
  rw [H.hh]; exact (holesA_spec en H.e1 m 0 (by omega) H.rm).1
theorem HolesOk.iff {m h : List Sp} {en : Int} (H : HolesOk m h en) (n : Int) : inS h n ↔ (0 ≤ n ∧ n < en) ∧ ¬ inS m n := by
  rw [H.hh]; exact (holesA_spec en H.e1 m 0 (by omega) H.rm).2 n
theorem HolesOk.back {m h : List Sp} {en : Int} (H : HolesOk m h en) : holesA 0 h en = cutS m ⟨en, 65535⟩ := by
  obtain ⟨i1, i2⟩ := holesA_spec en H.e1 h 0 (by omega) H.right
  by_cases c : en < 65535
  · obtain ⟨j1, j2⟩ := cutS_spec ⟨en, 65535⟩ c m (-1) H.rm
    refine right_unique i1 j1 (fun n => ?_)
    rw [i2, j2, H.iff]
    simp only
    by_cases hm : inS m n
    · have := rightFrom_lt H.rm hm
      have := inS_lt H.rm hm
      simp only [hm, not_true_eq_false, and_false, not_false_eq_true, and_true, true_and]
      omega
    · simp only [hm, not_false_eq_true, and_true, false_and, iff_false]
      omega
  · have : en = 65535 := by have := H.e1; omega
    subst this
    rw [cutS_top m (-1) H.rm]
    refine right_unique i1 H.rm (fun n => ?_)
    rw [i2, H.iff]
    by_cases hm : inS m n
    · have := rightFrom_lt H.rm hm
      have := inS_lt H.rm hm
      simp only [hm, not_true_eq_false, and_false, not_false_eq_true, and_true, iff_true]
      omega
    · simp only [hm, not_false_eq_true, and_true, iff_false]
      omega
theorem HolesOk.size {m h : List Sp} {en : Int} (H : HolesOk m h en) : sizeS h + sizeS (cutS m ⟨en, 65535⟩) = en := by
  have := holes_size en H.e0 H.e1 m 0 (by omega) H.rm
  rw [← H.hh] at this
  rw [this]
  have := H.e0
  split <;> omega
theorem cutS_right {m : List Sp} {en : Int} (h0 : 0 ≤ en) (h1 : en ≤ 65535) (hr : rightB m = true) : rightB (cutS m ⟨en, 65535⟩) = true := by
  by_cases c : en < 65535
  · exact (cutS_spec ⟨en, 65535⟩ c m (-1) hr).1
  · have : en = 65535 := by omega
    subst this
    rw [cutS_top m (-1) hr]; exact hr
theorem hl_l0 (m h : List Sp) (en : Int) (H : HolesOk m h en) (at' : List Int) (hat : at'.length ≤ 1000) : ∀ (d i k : Nat), i + d = at'.length → 2 * d + 70000 < k → mosaiclaw09_SpanHoles.l0 k en m h at' (i : Int) = some true := by
  intro d
  have hm := rightB_len H.rm
  have hh := rightB_len H.right
  induction d with
  | zero =>
    intro i k hi hk
    obtain ⟨k, rfl⟩ : ∃ m, k = m + 1 := ⟨k - 1, by omega⟩
    simp only [mosaiclaw09_SpanHoles.l0]
    have hrc := cutS_right H.e0 H.e1 H.rm
    have hlc := rightB_len hrc
    have hsz := H.size
    have s1 := (sizeS_nonneg H.right (by omega)).1
    have s2 := (sizeS_nonneg hrc (by omega)).1
    have hw : wrap64 (sizeS h + sizeS (cutS m ⟨en, 65535⟩)) = en := by
      rw [hsz]; have := H.e0; have := H.e1; unfold wrap64; omega
    rw [if_neg (by omega), own_eval h (by omega) k (by omega)]
    simp only [Option.bind_some]
    rw [holes_eval h H.right en H.e0 H.e1 k (by omega)]
    simp only [Option.bind_some]
    rw [own_eval m (by omega) k (by omega)]
    simp only [Option.bind_some]
    by_cases c : en < 65535
    · rw [if_pos c, cut_eval m H.rm en 65535 (by rw [goodB_iff]; simp only; have := H.e0; omega) k (by omega)]
      simp only [Option.bind_some, if_true]
      rw [H.back, same_eval _ _ (by omega) k (by omega), size_eval h H.right k (by omega), size_eval _ hrc k (by omega)]
      simp only [Option.bind_some, decide_true, if_true, hw, beq_self_eq_true]
    · have e : cutS m ⟨en, 65535⟩ = m := by
        have : en = 65535 := by have := H.e1; omega
        subst this
        exact cutS_top m (-1) H.rm
      rw [e] at hw
      rw [if_neg c]
      simp only [if_true]
      rw [H.back, e, same_eval _ _ (by omega) k (by omega), size_eval h H.right k (by omega), size_eval _ H.rm k (by omega)]
      simp only [Option.bind_some, decide_true, if_true, hw, beq_self_eq_true]
  | succ d ih =>
    intro i k hi hk
    obtain ⟨k, rfl⟩ : ∃ m, k = m + 2 := ⟨k - 2, by omega⟩
    have e : k + 2 = (k + 1) + 1 := rfl
    rw [e]
    simp only [mosaiclaw09_SpanHoles.l0]
    rw [if_pos (by omega), if_pos (by omega)]
    generalize rd at' (i : Int) = v
    have hiff := H.iff v
    have nxt := ih (i + 1) k (by omega) (by omega)
    by_cases c : v ≥ 0
    · rw [if_pos c]
      simp only [mosaiclaw09_SpanHoles.j3]
      rw [in_eval h (by omega) v k (by omega)]
      simp only [Option.bind_some]
      have hb := inB_of h m v (decide (v < en)) (by rw [hiff]; simp only [decide_eq_true_eq]; constructor <;> rintro ⟨a, b⟩ <;> exact ⟨by omega, b⟩)
      by_cases c2 : v < en
      · rw [if_pos (by simp [c2]), in_eval m (by omega) v k (by omega)]
        simp only [Option.bind_some]
        rw [hb, decide_eq_true c2, Bool.true_and, if_neg (by simp), wr1 i (by omega)]
        exact nxt
      · rw [if_neg (by simp [c2]), hb, decide_eq_false c2, Bool.false_and, if_neg (by simp), wr1 i (by omega)]
        exact nxt
    · rw [if_neg c]
      simp only [mosaiclaw09_SpanHoles.j3]
      rw [in_eval h (by omega) v k (by omega)]
      simp only [Option.bind_some]
      have hb := inB_of h m v false (by rw [hiff]; simp only [Bool.false_eq_true, false_and, iff_false]; rintro ⟨a, b⟩; omega)
      rw [if_neg (by simp), hb, Bool.false_and, if_neg (by simp), wr1 i (by omega)]
      exact nxt
theorem spanHoles_law (l : List Sp) (hb : l.length < 8796093022208) (en n : Int) : ∃ k, mosaiclaw09_SpanHoles.f k l en n = some true := by
  obtain ⟨k, hk⟩ : ∃ k, k = l.length + 200000 := ⟨_, rfl⟩
  refine ⟨k, ?_⟩
  unfold mosaiclaw09_SpanHoles.f
  rw [alive_eval k (by omega)]
  simp only [Option.bind_some, if_true]
  rw [own_eval l hb k (by omega)]
  simp only [Option.bind_some]
  rw [norm_eval l hb k (by omega)]
  simp only [Option.bind_some]
  unfold normS
  by_cases hg : l.all goodB = true
  · rw [if_pos hg]
    simp only [if_true]
    have hr := (joinS_right l (List.all_eq_true.1 hg)).1
    generalize joinS l = m at hr
    have hm := rightB_len hr
    rw [own_eval m (by omega) k (by omega)]
    simp only [Option.bind_some]
    obtain ⟨k2, rfl⟩ : ∃ m, k = m + 2 := ⟨k - 2, by omega⟩
    have e : k2 + 2 = (k2 + 1) + 1 := rfl
    by_cases c : 0 ≤ en ∧ en ≤ 65535
    · rw [holes_eval m hr en c.1 c.2 _ (by omega)]
      simp only [Option.bind_some]
      have H : HolesOk m (holesA 0 m en) en := ⟨c.1, c.2, hr, rfl⟩
      generalize holesA 0 m en = h at H
      rw [if_neg (by omega), decide_eq_false (by omega), e]
      have hh := rightB_len H.right
      simp only [mosaiclaw09_SpanHoles.j0]
      rw [if_neg (by simp), if_pos trivial, rising_eval h (by omega) (k2 + 1) (by omega), H.right]
      simp only [Option.bind_some, Bool.not_true, mosaiclaw09_SpanHoles.j1]
      rw [if_neg (by simp)]
      obtain ⟨L, eL, hL⟩ := near_eval m 0 en n k2 (by omega)
      rw [eL]
      simp only [Option.bind_some]
      exact hl_l0 m h en H L (by omega) L.length 0 k2 (by omega) (by omega)
    · rw [holes_refused m hr en (by omega) _ (by omega)]
      simp only [Option.bind_some, e]
      have : (if en < 0 then mosaiclaw09_SpanHoles.j0 (k2 + 1 + 1) en n m [] 1 true else mosaiclaw09_SpanHoles.j0 (k2 + 1 + 1) en n m [] 1 (decide (en > 65535))) = mosaiclaw09_SpanHoles.j0 (k2 + 1 + 1) en n m [] 1 true := by
        split
        · rfl
        · rw [decide_eq_true (show en > 65535 by omega)]
      rw [this]
      simp only [mosaiclaw09_SpanHoles.j0]
      rfl
  · rw [if_neg hg]
    simp only
    rw [if_neg (by omega)]
end Go.Proofs.Ytmfckkgebdfhjaa.Q
