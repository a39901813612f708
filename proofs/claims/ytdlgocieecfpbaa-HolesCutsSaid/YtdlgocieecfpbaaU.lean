/- What the statement HolesOrders asks, on plain lists: pieces that may come in one order may come in every order, and leave the same. No condition. -/
import Derived.Test.YtdlgocieecfpbaaK
import Derived.Test.YtdlgocieecfpbaaQFmosaiclaw13rest
namespace Go.Proofs.Ytdlgocieecfpbaa.Q
open Go.RowKit Go.Proofs.YtdlgocieecfpbaaW.PrintWords Go.Proofs.YtdlgocieecfpbaaW.PrintLast Go.Proofs.YtdlgocieecfpbaaW.PrintMore Go.Proofs.Ytdlgocieecfpbaa.SL

abbrev Pc := S33
/-- Pieces of one datagram. -/
def Cons (L : List Pc) : Prop := ∀ p ∈ L, (0 ≤ p.f0 ∧ 1 ≤ p.f1 ∧ p.f0 + p.f1 ≤ 65535) ∧ (p.f2 = false → ∀ q ∈ L, q.f0 + q.f1 ≤ p.f0 + p.f1 ∧ (q.f2 = false → q.f0 + q.f1 = p.f0 + p.f1))
/-- Just these have come. -/
structure StOf (T : Int → Bool) (en : Int) (L : List Pc) : Prop where
  has : ∀ x, T x = true ↔ ∃ p ∈ L, p.f0 ≤ x ∧ x < p.f0 + p.f1
  no : en < 0 → ∀ p ∈ L, p.f2 = true
  yes : 0 ≤ en → ∃ p ∈ L, p.f2 = false ∧ p.f0 + p.f1 = en
  neg : en = -1 ∨ 0 ≤ en
theorem StOf.start : StOf (fun _ => false) (-1) [] := ⟨fun x => (by simp), fun _ p hp => (by cases hp), fun h => (by omega), .inl rfl⟩
theorem Cons.nil : Cons [] := fun p hp => by cases hp
theorem Cons.sub {L M : List Pc} (h : Cons L) (hs : ∀ p ∈ M, p ∈ L) : Cons M := fun p hp => ⟨(h p (hs p hp)).1, fun hf q hq => (h p (hs p hp)).2 hf q (hs q hq)⟩
theorem mem_snoc {α : Type} {L : List α} {p q : α} : q ∈ L ++ [p] ↔ q ∈ L ∨ q = p := by rw [List.mem_append, List.mem_singleton]
/-- One that was taken is of the datagram. -/
theorem cons_snoc {T : Int → Bool} {l : List Sp} {en : Int} {L : List Pc} {p : Pc} (h : Inv T l en) (s : StOf T en L) (hc : Cons L) (hok : mayA l en p.f0 p.f1 p.f2 = true) : Cons (L ++ [p]) := by
  have ok := (may_iff h _ _ _).1 hok
  have o1 := ok.off0
  have o2 := ok.n1
  have o3 := ok.lt
  intro q hq0
  rcases mem_snoc.1 hq0 with hq | rfl
  · refine ⟨(hc q hq).1, fun hf r hr0 => ?_⟩
    rcases mem_snoc.1 hr0 with hr | rfl
    · exact (hc q hq).2 hf r hr
    · have he : 0 ≤ en := by
        rcases Int.lt_or_le en 0 with h1 | h1
        · have := s.no h1 q hq
          rw [hf] at this
          cases this
        · exact h1
      obtain ⟨z, hz, hzf, hze⟩ := s.yes he
      have hqe := ((hc z hz).2 hzf q hq).2 hf
      have hk := ok.known he
      cases hm : r.f2 with
      | true => exact ⟨by have := hk.1 hm; omega, fun e => by cases e⟩
      | false => have := hk.2 hm; exact ⟨by omega, fun _ => by omega⟩
  · refine ⟨⟨o1, o2, o3⟩, fun hf r hr0 => ?_⟩
    rcases mem_snoc.1 hr0 with hr | rfl
    · rcases Int.lt_or_le en 0 with he | he
      · have hT := ok.new he hf
        have hrr := (hc r hr).1
        refine ⟨?_, fun hrf => ?_⟩
        · rcases Int.lt_or_le (q.f0 + q.f1) (r.f0 + r.f1) with h1 | h1
          · have h2 := hT (r.f0 + r.f1 - 1) (by omega)
            rw [(s.has _).2 ⟨r, hr, by omega, by omega⟩] at h2
            cases h2
          · exact h1
        · rw [s.no he r hr] at hrf
          cases hrf
      · obtain ⟨z, hz, hzf, hze⟩ := s.yes he
        have h1 := (ok.known he).2 hf
        have h2 := (hc z hz).2 hzf r hr
        exact ⟨by omega, fun hrf => by have := h2.2 hrf; omega⟩
    · exact ⟨Int.le_refl _, fun _ => rfl⟩
/-- One of the datagram may come at any time. -/
theorem may_of_cons {T : Int → Bool} {l : List Sp} {en : Int} {L : List Pc} {p : Pc} (h : Inv T l en) (s : StOf T en L) (hc : Cons (L ++ [p])) : mayA l en p.f0 p.f1 p.f2 = true := by
  have hp := hc p (mem_snoc.2 (.inr rfl))
  refine (may_iff h _ _ _).2 ⟨hp.1.1, hp.1.2.1, hp.1.2.2, fun he => ?_, fun he hf x hx => ?_⟩
  · obtain ⟨z, hz, hzf, hze⟩ := s.yes he
    have h1 := (hc z (mem_snoc.2 (.inl hz))).2 hzf p (mem_snoc.2 (.inr rfl))
    exact ⟨fun _ => by omega, fun hm => by have := h1.2 hm; omega⟩
  · cases ht : T x with
    | false => rfl
    | true =>
      obtain ⟨q, hq, hqx⟩ := (s.has x).1 ht
      have := (hp.2 hf q (mem_snoc.2 (.inl hq))).1
      omega
theorem StOf.next {T : Int → Bool} {l : List Sp} {en : Int} {L : List Pc} {p : Pc} (h : Inv T l en) (s : StOf T en L) (hok : mayA l en p.f0 p.f1 p.f2 = true) : StOf (putT T l en p.f0 p.f1 p.f2) (endP l en p.f0 p.f1 p.f2) (L ++ [p]) := by
  have ok := (may_iff h _ _ _).1 hok
  have o1 := ok.off0
  have o2 := ok.n1
  have e4 : endP l en p.f0 p.f1 p.f2 = endA en p.f0 p.f1 p.f2 := if_pos hok
  have e5 : putT T l en p.f0 p.f1 p.f2 = put1T T p.f0 p.f1 := if_pos hok
  rw [e4, e5]
  have hng := s.neg
  refine ⟨fun x => ?_, fun he q hq => ?_, fun he => ?_, ?_⟩
  · rw [put1T_iff, s.has]
    constructor
    · rintro (⟨q, hq, hx⟩ | hx)
      · exact ⟨q, mem_snoc.2 (.inl hq), hx⟩
      · exact ⟨p, mem_snoc.2 (.inr rfl), hx⟩
    · rintro ⟨q, hq, hx⟩
      rcases mem_snoc.1 hq with hq | rfl
      · exact .inl ⟨q, hq, hx⟩
      · exact .inr hx
  · unfold endA at he
    split at he
    · omega
    · rename_i hn
      rcases mem_snoc.1 hq with hq | rfl
      · exact s.no he q hq
      · cases hm : q.f2 with
        | true => rfl
        | false => exact absurd ⟨hm, he⟩ hn
  · unfold endA at he ⊢
    split at he
    · rename_i hn
      rw [if_pos hn]
      exact ⟨p, mem_snoc.2 (.inr rfl), hn.1, rfl⟩
    · rename_i hn
      rw [if_neg hn]
      obtain ⟨z, hz, hz1⟩ := s.yes he
      exact ⟨z, mem_snoc.2 (.inl hz), hz1⟩
  · unfold endA
    split
    · right; omega
    · exact hng
theorem StOf.same {T U : Int → Bool} {l m : List Sp} {en fn : Int} {L M : List Pc} (h : Inv T l en) (g : Inv U m fn) (s : StOf T en L) (t : StOf U fn M) (hc : Cons L) (hM : ∀ p, p ∈ M ↔ p ∈ L) : l = m ∧ en = fn := by
  have hTU : ∀ x, T x = U x := fun x => by
    rw [Bool.eq_iff_iff, s.has, t.has]
    constructor
    · rintro ⟨p, hp, hx⟩
      exact ⟨p, (hM p).2 hp, hx⟩
    · rintro ⟨p, hp, hx⟩
      exact ⟨p, (hM p).1 hp, hx⟩
  have h1 := s.neg
  have h2 := t.neg
  have he : en = fn := by
    rcases Int.lt_or_le en 0 with c | c
    · rcases Int.lt_or_le fn 0 with d | d
      · omega
      · obtain ⟨p, hp, hf, _⟩ := t.yes d
        rw [s.no c p ((hM p).1 hp)] at hf
        cases hf
    · obtain ⟨p, hp, hf, hpe⟩ := s.yes c
      rcases Int.lt_or_le fn 0 with d | d
      · rw [t.no d p ((hM p).2 hp)] at hf
        cases hf
      · obtain ⟨q, hq, hqf, hqe⟩ := t.yes d
        have := ((hc p hp).2 hf q ((hM q).1 hq)).2 hqf
        omega
  subst he
  exact ⟨right_unique h.right g.right fun x => by rw [h.has, g.has, hTU], rfl⟩
theorem rest_eval (a : Int) (n : Nat) (hn : n < 4000000000) : ∃ r : Nat, r ≤ n ∧ mosaiclaw13_rest.f a (n : Int) = some (r : Int) := by
  have hw : wrap64 ((n : Int) + 1) = (n : Int) + 1 := by unfold wrap64; omega
  unfold mosaiclaw13_rest.f
  rw [hw, if_neg (by omega)]
  have hb : (Int.tmod a ((n : Int) + 1)).natAbs < n + 1 := by
    rw [Int.natAbs_tmod]
    exact Nat.mod_lt _ (by omega)
  by_cases h : Int.tmod a ((n : Int) + 1) < 0
  · rw [if_pos h]
    refine ⟨(Int.tmod a ((n : Int) + 1) + n + 1).toNat, by omega, ?_⟩
    have h1 : wrap64 (Int.tmod a ((n : Int) + 1) + (n : Int)) = Int.tmod a ((n : Int) + 1) + n := by unfold wrap64; omega
    rw [h1]
    have h2 : wrap64 (Int.tmod a ((n : Int) + 1) + (n : Int) + 1) = Int.tmod a ((n : Int) + 1) + n + 1 := by unfold wrap64; omega
    rw [h2]
    congr 1
    omega
  · rw [if_neg h]
    exact ⟨(Int.tmod a ((n : Int) + 1)).toNat, by omega, by congr 1; omega⟩
end Go.Proofs.Ytdlgocieecfpbaa.Q
