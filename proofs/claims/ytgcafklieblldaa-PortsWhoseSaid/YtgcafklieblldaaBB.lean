/- Bind as an object's call; same; the statement's operations. No condition but sizes. -/
import Derived.Test.YtgcafklieblldaaBA
namespace Go.Proofs.Ytgcafklieblldaa.SL
open Go.RowKit Go.Proofs.YtgcafklieblldaaW.PrintWords Go.Proofs.YtgcafklieblldaaW.PrintLast Go.Proofs.YtgcafklieblldaaW.PrintMore
/-- What Bind tells and leaves. -/
structure BR where
  n : Int
  q : Int
  e : Int
  g : Int
  l : List Bd
def bindS (most g : Int) (l : List Bd) (a : Ad) (port : Int) : BR :=
  if ¬ (kindA a = 1 ∨ kindA a = 5) ∨ port < 0 ∨ 65535 < port then ⟨0, 0, 1, g, l⟩
  else if 0 < port ∧ 0 < findB l ⟨a, port⟩ then ⟨0, 0, 200, g, l⟩
  else if most ≤ (l.length : Int) then ⟨0, 0, 201, g, l⟩
  else if port = 0 then (if freeB l a = 0 then ⟨0, 0, 201, g, l⟩ else ⟨g + 1, freeB l a, 0, g + 1, l ++ [⟨g + 1, ⟨a, freeB l a⟩⟩]⟩)
  else ⟨g + 1, port, 0, g + 1, l ++ [⟨g + 1, ⟨a, port⟩⟩]⟩
section
variable {w0 w : World} {Γ : List Ob} {p : Nat} {v : Value} {most g : Int} {l : List Bd}
theorem St.sameT (h : St w0 w Γ) (i : Nat) (hi : Γ[i]? = some (obT p v most g l)) {w' : World} (hb : Below w.heap.size w w') : St w0 w' (Γ.set i (obT p v most g l)) := by
  have e : Γ.set i (obT p v most g l) = Γ := by
    obtain ⟨h1, h2⟩ := List.getElem?_eq_some_iff.1 hi
    rw [← h2, List.set_getElem_self]
  rw [e]; exact h.below hb
theorem c_bind (h : St w0 w Γ) (i : Nat) (hi : Γ[i]? = some (obT p v most g l)) (hg0 : 0 ≤ g) (hg1 : g < 4000000000000000000) (hsm : l.length ≤ 1000000) (a : Ad) (port : Int) :
    Calls Try.prog 9 #[.pointer (some ⟨p, 0, none⟩), .agg (aV a), .int .i64 port] w fun e w' => ∃ v', e = .returned (.tuple #[.int .i64 (bindS most g l a port).n, .int .i64 (bindS most g l a port).q, .int .i64 (bindS most g l a port).e]) ∧ St w0 w' (Γ.set i (obT p v' most (bindS most g l a port).g (bindS most g l a port).l)) := by
  have hT := h.get i hi
  have hT : TAt w p v most g l := hT
  unfold bindS
  by_cases h1 : ¬ (kindA a = 1 ∨ kindA a = 5) ∨ port < 0 ∨ 65535 < port
  · rw [if_pos h1]
    have hc : Calls Try.prog 9 #[.pointer (some ⟨p, 0, none⟩), .agg (aV a), .int .i64 port] w fun e w' => e = .returned (.tuple #[.int .i64 0, .int .i64 0, .int .i64 1]) ∧ Below w.heap.size w w' := by
      by_cases hk : kindA a = 1 ∨ kindA a = 5
      · by_cases hn : port < 0
        · exact bind_neg p v most g l a port w hT hsm hk hn
        · exact bind_big p v most g l a port w hT hsm hk (by rcases h1 with h1 | h1 | h1 <;> first | exact absurd hk h1 | omega)
      · exact bind_kind p v most g l a port w hT hsm hk
    exact hc.mono fun e w' ⟨he, hb⟩ => ⟨v, he, h.sameT i hi hb⟩
  · rw [if_neg h1]
    have hk : kindA a = 1 ∨ kindA a = 5 := Classical.byContradiction fun hn => h1 (.inl hn)
    have hp0 : 0 ≤ port := Classical.byContradiction fun hn => h1 (.inr (.inl (by omega)))
    have hp1 : port ≤ 65535 := Classical.byContradiction fun hn => h1 (.inr (.inr (by omega)))
    by_cases h2 : 0 < port ∧ 0 < findB l ⟨a, port⟩
    · rw [if_pos h2]
      exact (bind_use p v most g l a port w hT hsm hk h2.1 hp1 h2.2).mono fun e w' ⟨he, hb⟩ => ⟨v, he, h.sameT i hi hb⟩
    · rw [if_neg h2]
      by_cases h3 : most ≤ (l.length : Int)
      · rw [if_pos h3]
        by_cases hz : port = 0
        · exact (bind_full0 p v most g l a port w hT hsm hk hz h3).mono fun e w' ⟨he, hb⟩ => ⟨v, he, h.sameT i hi hb⟩
        · exact (bind_full p v most g l a port w hT hsm hk (by omega) hp1 (fun hf => h2 ⟨by omega, hf⟩) h3).mono fun e w' ⟨he, hb⟩ => ⟨v, he, h.sameT i hi hb⟩
      · rw [if_neg h3]
        by_cases hz : port = 0
        · rw [if_pos hz]
          by_cases hf : freeB l a = 0
          · rw [if_pos hf]
            exact (bind_none p v most g l a port w hT hsm hk hz (by omega) hf).mono fun e w' ⟨he, hb⟩ => ⟨v, he, h.sameT i hi hb⟩
          · rw [if_neg hf]
            exact (bind_yes0 p v most g l a port w hT hsm hg0 hg1 hk hz (by omega) hf).mono fun e w' ⟨v', he, hT', ht, hv⟩ => ⟨v', he, h.putT i hi hT' ht hv⟩
        · rw [if_neg hz]
          exact (bind_yes p v most g l a port w hT hsm hg0 hg1 hk (by omega) hp1 (fun hf => h2 ⟨by omega, hf⟩) (by omega)).mono fun e w' ⟨v', he, hT', ht, hv⟩ => ⟨v', he, h.putT i hi hT' ht hv⟩
theorem c_four (h : St w0 w Γ) (d : Int) : Calls Try.prog 10 #[.int .u8 d] w fun e w' => e = .returned (.agg (aV (fA d))) ∧ St w0 w' Γ := (four_calls d w).mono fun _ _ ⟨he, hb⟩ => ⟨he, h.below hb⟩
theorem c_kind (h : St w0 w Γ) (a : Ad) : Calls Try.prog 16 #[.agg (aV a)] w fun e w' => e = .returned (.int .i64 (kindA a)) ∧ St w0 w' Γ := (kind_calls a w).mono fun _ _ ⟨he, hb⟩ => ⟨he, h.below hb⟩
theorem cellsI (h : St w0 w Γ) (i : Nat) {A : Option Addr} {n c : Nat} {xs : List Int} (hi : Γ[i]? = some (obI (.slice A n c) xs)) (k : Nat) (hk : k < xs.length) : ∃ ad, A = some ad ∧ w.cell? (ad.add k) = some (.int .i64 (xs.getD k 0)) := by
  have hC := h.readW i hi
  obtain ⟨ad, c, hA, _, hK, hc⟩ := Kd.C_get hC 0 (k : Int) (by omega) (by omega)
  obtain rfl : c = [.int .i64 (xs.getD (k : Int).toNat 0)] := hK
  rw [Int.toNat_natCast] at hc
  have := hc 0 _ rfl
  exact ⟨ad, hA, by simpa [Kd.int, Kd.scalar] using this⟩
end
set_option maxHeartbeats 2000000 in
theorem c_same {w0 w : World} {Γ : List Ob} (h : St w0 w Γ) (i j : Nat) {A B : Option Addr} {c d : Nat} {x y : List Int} (hi : Γ[i]? = some (obI (.slice A x.length c) x)) (hj : Γ[j]? = some (obI (.slice B y.length d) y)) (hl : x.length ≤ 4000000000000) :
    Calls Try.prog 13 #[.slice A x.length c, .slice B y.length d] w fun e w' => e = .returned (.bool (decide (x = y))) ∧ St w0 w' Γ := by
  have HS := Lib.hid h
  have HI := Lib.hid hi
  have HJ := Lib.hid hj
  clear h hi hj
  by_cases hxy : x.length = y.length
  · have hb : ((x.length : Int) != (y.length : Int)) = false := by simp [hxy]
    have hyl : (y.length : Int) = (x.length : Int) := by omega
    go_enter Try.func13, Try.ntmps13
    go_wp2_with fail
    have HXY := Lib.hid hxy
    clear hxy hyl
    go_loopw [5] (fun v wr => ∃ k : Nat, k ≤ x.length ∧ v = .int .i64 k ∧ Hid (St w0 wr Γ) ∧ Hid (x.take k = y.take k)) (fun v _ => x.length - (intOf v).toNat)
    case atStart => exact ⟨0, Nat.zero_le _, rfl, HS, Lib.hid rfl⟩
    case round =>
      obtain ⟨k, hk, rfl, HS2, HE⟩ := hrel
      by_cases hlt : k < x.length
      · have hltz : (k : Int) < (x.length : Int) := by omega
        have hlty : (k : Int) < (y.length : Int) := by have := HXY.out; omega
        obtain ⟨ad, rfl, g1⟩ := cellsI HS2.out i HI.out k hlt
        obtain ⟨ae, rfl, g2⟩ := cellsI HS2.out j HJ.out k (by have := HXY.out; omega)
        have hstep : x.take (k + 1) = x.take k ++ [x.getD k 0] := by rw [List.take_succ_eq_append_getElem hlt, List.getD_eq_getElem?_getD, List.getElem?_eq_getElem hlt]; rfl
        have hstepy : y.take (k + 1) = y.take k ++ [y.getD k 0] := by have := HXY.out; rw [List.take_succ_eq_append_getElem (by omega), List.getD_eq_getElem?_getD, List.getElem?_eq_getElem (by omega)]; rfl
        have HT := Lib.hid (And.intro hstep hstepy)
        clear hstep hstepy
        generalize x.getD k 0 = u at g1 HT
        generalize y.getD k 0 = t at g2 HT
        by_cases hq : u = t
        · have hqb : (u != t) = false := by simpa using hq
          have HQ := Lib.hid hq
          clear hq
          go_wp2_with fail
          go_quiet (fail)
          go_wp2_with fail
          go_roundw
          case rel => exact ⟨k + 1, by omega, by go_num, Lib.hid (HS2.out.drewN _), Lib.hid (by rw [HT.out.1, HT.out.2, HE.out, HQ.out])⟩
          case measure => simp [intOf]; omega
        · have hqb : (u != t) = true := by simpa using hq
          have HQ := Lib.hid hq
          clear hq
          go_wp2_with fail
          go_quiet (fail)
          go_wp2_with fail
          go_ret
          refine ⟨?_, HS2.out.drewN _⟩
          have : x ≠ y := fun e => HQ.out (by
            subst e
            have := HT.out.1.symm.trans HT.out.2
            simpa using this)
          rw [decide_eq_false this]
          rfl
      · have hltz : ¬ (k : Int) < (x.length : Int) := by omega
        have hkx : k = x.length := by omega
        subst hkx
        go_wp2
        go_ret
        refine ⟨?_, HS2.out⟩
        have e := HE.out
        rw [List.take_length, HXY.out, List.take_length] at e
        rw [decide_eq_true e]
        rfl
  · have hb : ((x.length : Int) != (y.length : Int)) = true := by simp; omega
    go_enter Try.func13, Try.ntmps13
    go_wp2_with fail
    go_ret
    refine ⟨?_, HS.out⟩
    rw [decide_eq_false fun e => hxy (by rw [e])]
    rfl
end Go.Proofs.Ytgcafklieblldaa.SL
