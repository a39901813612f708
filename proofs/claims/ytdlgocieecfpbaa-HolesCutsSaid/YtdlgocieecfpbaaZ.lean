/- What the statement HolesCuts asks, on plain lists: a datagram cut in pieces, whatever comes of it. No condition. -/
import Derived.Test.YtdlgocieecfpbaaO
import Derived.Test.YtdlgocieecfpbaaU
import Derived.Test.YtdlgocieecfpbaaQFmosaiclaw13cut
namespace Go.Proofs.Ytdlgocieecfpbaa.Q
open Go.RowKit Go.Proofs.YtdlgocieecfpbaaW.PrintWords Go.Proofs.YtdlgocieecfpbaaW.PrintLast Go.Proofs.YtdlgocieecfpbaaW.PrintMore Go.Proofs.Ytdlgocieecfpbaa.SL

def GoodP (n : Int) (p : Pc) : Prop := 0 ≤ p.f0 ∧ 1 ≤ p.f1 ∧ p.f0 + p.f1 ≤ n ∧ p.f2 = decide (p.f0 + p.f1 < n)
structure Pieces (n a : Int) (L : List Pc) : Prop where
  good : ∀ p ∈ L, GoodP n p
  cover : ∀ x, a ≤ x → x < n → ∃ p ∈ L, p.f0 ≤ x ∧ x < p.f0 + p.f1
  last : a < n → ∃ p ∈ L, p.f2 = false
  len : (L.length : Int) ≤ n - a
theorem Pieces.cons {n a b : Int} {L : List Pc} (h0 : 0 ≤ a) (hab : a < b) (hbn : b ≤ n) (h : Pieces n b L) (m : Bool) (hm : m = decide (b < n)) : Pieces n a (⟨a, b - a, m⟩ :: L) := by
  refine ⟨fun p hp => ?_, fun x h1 h2 => ?_, fun _ => ?_, ?_⟩
  · rcases List.mem_cons.1 hp with rfl | hp
    · refine ⟨h0, by show 1 ≤ b - a; omega, by show a + (b - a) ≤ n; omega, ?_⟩
      show m = decide (a + (b - a) < n)
      rw [hm, show a + (b - a) = b by omega]
    · exact h.good p hp
  · rcases Int.lt_or_le x b with hx | hx
    · exact ⟨_, List.mem_cons_self, h1, by show x < a + (b - a); omega⟩
    · obtain ⟨p, hp, hpx⟩ := h.cover x hx h2
      exact ⟨p, List.mem_cons_of_mem _ hp, hpx⟩
  · rcases Int.lt_or_le b n with hb | hb
    · obtain ⟨p, hp, hpx⟩ := h.last hb
      exact ⟨p, List.mem_cons_of_mem _ hp, hpx⟩
    · exact ⟨_, List.mem_cons_self, by show m = false; rw [hm, decide_eq_false (by omega)]⟩
  · rw [List.length_cons]
    have := h.len
    omega
theorem Pieces.none (n : Int) : Pieces n n [] := ⟨by simp, fun x h1 h2 => by omega, fun h => by omega, by simp⟩
theorem cutP_l0 (n : Int) (hn : n ≤ 65535) (cs : List Int) : ∀ (d i k : Nat) (a : Int) (out : List Pc), 0 ≤ a → a + d = n → d < k → i + d ≤ 70000 → out.length + d ≤ 70000 → ∃ L, mosaiclaw13_cut.l0 k n cs out a (i : Int) = some (out ++ L) ∧ Pieces n a L := by
  intro d
  induction d using Nat.strongRecOn with
  | _ d ih =>
    intro i k a out h0 hd hk hi ho
    obtain ⟨k, rfl⟩ : ∃ m, k = m + 1 := ⟨k - 1, by omega⟩
    rcases Nat.eq_zero_or_pos d with hz | hz
    · subst hz
      obtain rfl : a = n := by omega
      refine ⟨[], ?_, Pieces.none a⟩
      simp only [mosaiclaw13_cut.l0]
      rw [if_neg (by omega), List.append_nil]
    · have hlt : a < n := by omega
      have hw1 : wrap64 ((i : Int) + 1) = ((i + 1 : Nat) : Int) := wr1 i (by omega)
      -- one last piece
      have hlast : ∃ L, mosaiclaw13_cut.l0 k n cs (out ++ [(⟨a, wrap64 (n - a), decide (n < n)⟩ : Pc)]) n (wrap64 ((i : Int) + 1)) = some (out ++ L) ∧ Pieces n a L := by
        obtain ⟨L, h1, h2⟩ := ih 0 hz (i + 1) k n (out ++ [(⟨a, wrap64 (n - a), decide (n < n)⟩ : Pc)]) (by omega) (by omega) (by omega) (by omega) (by rw [List.length_append, List.length_singleton]; omega)
        have hL : L = [] := by
          have := h2.len
          exact List.length_eq_zero_iff.1 (by omega)
        subst hL
        refine ⟨[⟨a, n - a, decide (n < n)⟩], ?_, Pieces.cons h0 hlt (Int.le_refl _) (Pieces.none n) _ rfl⟩
        rw [hw1, h1, List.append_nil, show wrap64 (n - a) = n - a by unfold wrap64; omega]
      simp only [mosaiclaw13_cut.l0]
      rw [if_pos hlt]
      by_cases c1 : (i : Int) < (cs.length : Int)
      · rw [if_pos c1]
        by_cases c2 : (i : Int) < 200
        · rw [if_pos c2, if_pos (by omega)]
          obtain ⟨r, hr, he⟩ := rest_eval (rd cs (i : Int)) (d - 1) (by omega)
          have hw2 : wrap64 (wrap64 (n - a) - 1) = ((d - 1 : Nat) : Int) := by unfold wrap64; omega
          rw [hw2, he]
          simp only [Option.bind_some]
          rw [if_pos (by omega)]
          have hw3 : wrap64 (wrap64 (a + 1) + (r : Int)) = a + 1 + r := by unfold wrap64; omega
          rw [hw3, show wrap64 (a + 1 + (r : Int) - a) = a + 1 + r - a by unfold wrap64; omega, hw1]
          obtain ⟨L, h1, h2⟩ := ih (d - 1 - r) (by omega) (i + 1) k (a + 1 + r) (out ++ [(⟨a, a + 1 + (r : Int) - a, decide (a + 1 + (r : Int) < n)⟩ : Pc)]) (by omega) (by omega) (by omega) (by omega) (by rw [List.length_append, List.length_singleton]; omega)
          refine ⟨⟨a, a + 1 + (r : Int) - a, decide (a + 1 + (r : Int) < n)⟩ :: L, ?_, Pieces.cons h0 (by omega) (by omega) h2 _ rfl⟩
          rw [h1, List.append_assoc]
          rfl
        · rw [if_neg c2, if_pos (by omega)]
          exact hlast
      · rw [if_neg c1, if_pos (by omega)]
        exact hlast
theorem cutP_eval (n : Int) (h1 : 1 ≤ n) (hn : n ≤ 65535) (cs : List Int) : ∃ L, mosaiclaw13_cut.f 100000 n cs = some L ∧ Pieces n 0 L := by
  obtain ⟨L, h2, h3⟩ := cutP_l0 n hn cs n.toNat 0 100000 0 [] (by omega) (by omega) (by omega) (by omega) (by simp; omega)
  exact ⟨L, by unfold mosaiclaw13_cut.f; simpa using h2, h3⟩

theorem inv_size {T : Int → Bool} {l : List Sp} {en : Int} (h : Inv T l en) : cnt T 65535 + sizeS l = lim en := by
  have hll := h.lim_le
  rw [size_cnt _ (-1) (by omega) h.right, ← cnt_or T (inB l) (fun x => decide (0 ≤ x) && decide (x < lim en)) (fun x => ?_) (fun x hx => ?_) 65535, cnt_one 0 (lim en) (by omega) (by omega) _ (fun x => by simp) 65535, if_pos (by omega)]
  · omega
  · rw [Bool.eq_iff_iff, Bool.or_eq_true, inB_iff, h.has, Bool.and_eq_true, decide_eq_true_eq, decide_eq_true_eq]
    constructor
    · intro hx
      cases ht : T x with
      | true => exact .inl rfl
      | false => exact .inr ⟨hx, rfl⟩
    · rintro (hx | hx)
      · have hr := h.rng x hx
        refine ⟨hr.1, ?_⟩
        rcases Int.lt_or_le x (lim en) with h1 | h1
        · exact h1
        · unfold lim at h1
          split at h1
          · omega
          · rw [h.top (by omega) x h1] at hx
            cases hx
      · exact hx.1
  · have := ((h.has x).1 ((inB_iff _ x).1 hx.2)).2
    rw [hx.1] at this
    cases this
theorem size_zero {l : List Sp} (h : rightB l = true) : l.length = 0 ↔ sizeS l = 0 := by
  cases l with
  | nil => simp [sizeS]
  | cons s l =>
    have hr := (rightFrom_cons (-1) s l).1 h
    have hg := (goodB_iff s).1 hr.2.1
    have := (sizeS_nonneg hr.2.2 (by omega)).1
    simp only [List.length_cons, sizeS]
    omega
/-- What the statement knows of the list on its way. -/
structure CS (n : Int) (T : Int → Bool) (l : List Sp) (en : Int) : Prop where
  inv : Inv T l en
  sub : ∀ x, T x = true → x < n
  end_ : en = -1 ∨ en = n
theorem CS.start (n : Int) : CS n (fun _ => false) [⟨0, 65535⟩] (-1) := ⟨Inv.start, fun _ h => (by cases h), .inl rfl⟩
theorem CS.done {n : Int} (hn : 1 ≤ n) {T : Int → Bool} {l : List Sp} {en : Int} (h : CS n T l en) : doneA l en = (decide (0 ≤ en) && (cnt T 65535 == n)) := by
  have h1 := inv_size h.inv
  have h2 := size_zero h.inv.right
  unfold doneA
  rcases h.end_ with he | he
  · rw [decide_eq_false (show ¬ 0 ≤ en by omega), Bool.false_and, Bool.false_and]
  · rw [decide_eq_true (show 0 ≤ en by omega), Bool.true_and, Bool.true_and, Bool.eq_iff_iff, decide_eq_true_eq, beq_iff_eq, h2]
    have hl : lim en = en := if_neg (by omega)
    omega
theorem CS.cnt_le {n : Int} {T : Int → Bool} {l : List Sp} {en : Int} (h : CS n T l en) : 0 ≤ sizeS l ∧ cnt T 65535 ≤ 65535 ∧ sizeS l ≤ 65536 := by
  have h1 := inv_size h.inv
  have h2 := h.inv.lim_le
  have h3 := sizeS_nonneg h.inv.right (by omega)
  omega
theorem CS.put {n : Int} (hn : 1 ≤ n) (hn2 : n ≤ 65535) {T : Int → Bool} {l : List Sp} {en : Int} {p : Pc} (h : CS n T l en) (hp : GoodP n p) :
    mayA l en p.f0 p.f1 p.f2 = true ∧ CS n (putT T l en p.f0 p.f1 p.f2) (leftP l en p.f0 p.f1 p.f2) (endP l en p.f0 p.f1 p.f2) ∧ cnt T 65535 + sizeS (freshP l en p.f0 p.f1 p.f2) = cnt (putT T l en p.f0 p.f1 p.f2) 65535 ∧
      (p.f2 = false → endP l en p.f0 p.f1 p.f2 = n) ∧ (p.f2 = true → endP l en p.f0 p.f1 p.f2 = en) ∧ (∀ x, T x = true → putT T l en p.f0 p.f1 p.f2 x = true) ∧ (∀ x, p.f0 ≤ x → x < p.f0 + p.f1 → putT T l en p.f0 p.f1 p.f2 x = true) ∧ rightB (freshP l en p.f0 p.f1 p.f2) = true := by
  obtain ⟨p0, p1, p2, p3⟩ := hp
  have hfin : p.f2 = false ↔ p.f0 + p.f1 = n := by
    rw [p3, decide_eq_false_iff_not]
    omega
  have ok : OkT T en p.f0 p.f1 p.f2 := ⟨p0, p1, by omega, fun he => ⟨fun _ => by rcases h.end_ with e | e <;> omega, fun hf => by have := hfin.1 hf; rcases h.end_ with e | e <;> omega⟩, fun _ hf x hx => by
    cases ht : T x with
    | false => rfl
    | true => have := h.sub x ht; have := hfin.1 hf; omega⟩
  have hok := (may_iff h.inv _ _ _).2 ok
  obtain ⟨hI, f1, f2⟩ := put_spec h.inv ok
  have e1 : freshP l en p.f0 p.f1 p.f2 = freshA l ⟨p.f0, p.f0 + p.f1⟩ := if_pos hok
  have e3 : leftP l en p.f0 p.f1 p.f2 = leftA l en p.f0 p.f1 p.f2 := if_pos hok
  have e4 : endP l en p.f0 p.f1 p.f2 = endA en p.f0 p.f1 p.f2 := if_pos hok
  have e5 : putT T l en p.f0 p.f1 p.f2 = put1T T p.f0 p.f1 := if_pos hok
  rw [e1, e3, e4, e5]
  have hend : (p.f2 = false → endA en p.f0 p.f1 p.f2 = n) ∧ (p.f2 = true → endA en p.f0 p.f1 p.f2 = en) := by
    unfold endA
    refine ⟨fun hf => ?_, fun hf => if_neg (by rintro ⟨h1, _⟩; rw [hf] at h1; cases h1)⟩
    have := hfin.1 hf
    split
    · exact this
    · rename_i hc
      rcases h.end_ with e | e
      · exact absurd ⟨hf, by omega⟩ hc
      · exact e
  refine ⟨hok, ⟨hI, fun x hx => ?_, ?_⟩, ?_, hend.1, hend.2, fun x hx => ?_, fun x h1 h2 => ?_, f1⟩
  · rcases (put1T_iff _ _ _ _).1 hx with hx | hx
    · exact h.sub x hx
    · omega
  · cases hm : p.f2 with
    | false => rw [hm] at hend; exact .inr (hend.1 rfl)
    | true => rw [hm] at hend; rw [hend.2 rfl]; exact h.end_
  · rw [size_cnt _ (-1) (by omega) f1]
    refine (cnt_or _ _ _ (fun x => ?_) (fun x hx => ?_) _).symm
    · rw [Bool.eq_iff_iff, Bool.or_eq_true, inB_iff, f2, put1T_iff]
      cases T x <;> simp
    · have := ((f2 x).1 ((inB_iff _ x).1 hx.2)).2
      rw [hx.1] at this
      cases this
  · exact (put1T_iff _ _ _ _).2 (.inl hx)
  · exact (put1T_iff _ _ _ _).2 (.inr ⟨h1, h2⟩)
/-- What is still to come. -/
structure Todo (n : Int) (T : Int → Bool) (en : Int) (R : List Pc) : Prop where
  good : ∀ p ∈ R, GoodP n p
  cover : ∀ x, 0 ≤ x → x < n → T x = true ∨ ∃ p ∈ R, p.f0 ≤ x ∧ x < p.f0 + p.f1
  last : en = n ∨ ∃ p ∈ R, p.f2 = false
theorem Todo.start {n : Int} (hn : 1 ≤ n) {L : List Pc} (h : Pieces n 0 L) : Todo n (fun _ => false) (-1) L := ⟨h.good, fun x h1 h2 => .inr (h.cover x h1 h2), .inr (h.last (by omega))⟩
theorem Todo.fin {n : Int} (hn : 1 ≤ n) (hn2 : n ≤ 65535) {T : Int → Bool} {l : List Sp} {en : Int} (h : CS n T l en) (t : Todo n T en []) : en = n ∧ cnt T 65535 = n ∧ l.length = 0 := by
  have he : en = n := by
    rcases t.last with h1 | ⟨p, hp, _⟩
    · exact h1
    · cases hp
  have hc : cnt T 65535 = n := by
    have : T = fun x => decide (0 ≤ x) && decide (x < n) := by
      funext x
      rw [Bool.eq_iff_iff, Bool.and_eq_true, decide_eq_true_eq, decide_eq_true_eq]
      constructor
      · exact fun hx => ⟨(h.inv.rng x hx).1, h.sub x hx⟩
      · rintro ⟨h1, h2⟩
        rcases t.cover x h1 h2 with hx | ⟨p, hp, _⟩
        · exact hx
        · cases hp
    rw [this, cnt_one 0 n (by omega) (by omega) _ (fun x => by simp) 65535, if_pos (by omega)]
    omega
  refine ⟨he, hc, (size_zero h.inv.right).2 ?_⟩
  have h1 := inv_size h.inv
  have hl : lim en = en := if_neg (by omega)
  omega
end Go.Proofs.Ytdlgocieecfpbaa.Q
