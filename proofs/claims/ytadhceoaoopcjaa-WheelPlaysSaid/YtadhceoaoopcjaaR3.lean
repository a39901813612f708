/- The reference wheel's Next and New. No condition but sizes. -/
import Derived.Test.YtadhceoaoopcjaaR2
namespace Go.Proofs.Ytadhceoaoopcjaa.SL
open Go.RowKit Go.Proofs.YtadhceoaoopcjaaW.PrintWords Go.Proofs.YtadhceoaoopcjaaW.PrintLast Go.Proofs.YtadhceoaoopcjaaW.PrintMore
theorem getD_mem {L : List Du} {j : Nat} (h : j < L.length) : L.getD j ⟨0, 0, 0⟩ = L[j] := by rw [List.getD_eq_getElem?_getD, List.getElem?_eq_getElem h]; rfl
theorem best_next (s : Wh) : nextS s = if bestI s.L s.L.length < 0 then (0, false) else ((s.L.getD (bestI s.L s.L.length).toNat ⟨0, 0, 0⟩).t, true) := by
  obtain ⟨r1, r2, r3⟩ := bestI_rng s.L s.L.length
  have hle := bestI_le s.L s.L.length
  by_cases h : bestI s.L s.L.length < 0
  · rw [if_pos h]
    have hn : s.L = [] := List.length_eq_zero_iff.1 (by
      rcases Nat.eq_zero_or_pos s.L.length with e | e
      · exact e
      · have := r3 e; omega)
    unfold nextS
    rw [hn]
    rfl
  · rw [if_neg h]
    obtain ⟨B, hB⟩ : ∃ B : Nat, bestI s.L s.L.length = (B : Int) := ⟨(bestI s.L s.L.length).toNat, by omega⟩
    rw [hB] at hle r2 ⊢
    rw [Int.toNat_natCast] at hle ⊢
    have hBl : B < s.L.length := by omega
    rw [getD_mem hBl] at hle ⊢
    unfold nextS
    rw [minT_of (List.getElem_mem hBl) fun u hu => ?_]
    obtain ⟨j, hj, rfl⟩ := List.getElem_of_mem hu
    have := (hle j hj).1
    rw [getD_mem hj] at this
    exact this
section
variable {w0 w : World} {Γ Δ : List Ob}
set_option maxHeartbeats 4000000 in
theorem rnext_raw (x : RSt) (hk : WOk x.s) (h : St w0 w (x.G ++ Δ)) {r : Int} {is : Bool} (hr : nextS x.s = (r, is)) : Calls Try.prog 41 #[.pointer (some ⟨x.p, 0, none⟩)] w fun e w' => e = .returned (.tuple #[.int .i64 r, .bool is]) ∧ Below w.heap.size w w' := by
  have hbn := best_next x.s
  obtain ⟨r1, r2, r3⟩ := bestI_rng x.s.L x.s.L.length
  rw [hr] at hbn
  have HL := Lib.hid (least_raw x hk.len h)
  obtain ⟨p, A, c, s⟩ := x
  have hl : s.L.length ≤ 4096 := hk.len
  have H := Lib.hid h
  replace HL : Hid (Calls Try.prog 52 #[.pointer (some ⟨p, 0, none⟩)] w fun e w' => e = .returned (.int .i64 (bestI s.L s.L.length)) ∧ Below w.heap.size w w') := HL
  replace hbn : (r, is) = if bestI s.L s.L.length < 0 then (0, false) else ((s.L.getD (bestI s.L s.L.length).toNat ⟨0, 0, 0⟩).t, true) := hbn
  replace r1 : -1 ≤ bestI s.L s.L.length := r1
  replace r2 : bestI s.L s.L.length < (s.L.length : Int) := r2
  show Calls Try.prog _ #[.pointer (some ⟨p, 0, none⟩)] w _
  generalize bestI s.L s.L.length = b at *
  clear h hk hr r3
  by_cases hneg : b < 0
  · rw [if_pos hneg] at hbn
    obtain ⟨rfl, rfl⟩ := Prod.mk.inj hbn
    go_enter Try.func41, Try.ntmps41
    go_wp2_with (go_at_call 52; refine HL.out.mono ?_; rintro e w1 ⟨rfl, hb⟩; have HB := Lib.hid hb; clear hb)
    go_ret2
    exact ⟨rfl, HB.out⟩
  · rw [if_neg hneg] at hbn
    obtain ⟨rfl, rfl⟩ := Prod.mk.inj hbn
    obtain ⟨B, rfl⟩ : ∃ B : Nat, b = (B : Int) := ⟨b.toNat, by omega⟩
    rw [Int.toNat_natCast]
    have hBl : B < s.L.length := by omega
    rw [getD_mem hBl]
    have hB0 : (0 : Int) ≤ (B : Int) := by omega
    have HC : Hid (∀ W, Below w.heap.size w W → W.cell? ⟨p, 2, none⟩ = some (.slice A s.L.length c) ∧ ∃ g, A = some ⟨g, 0, none⟩ ∧ W.cell? ⟨g, B * 3 + 1, none⟩ = some (.int .i64 s.L[B].t)) := Lib.hid fun W hb => by
      obtain ⟨g, e, _, q1, _⟩ := (H.out.below hb).cellT 1 rfl B s.L[B] (List.getElem?_eq_getElem hBl)
      exact ⟨(RSt.cells (H.out.below hb)).2.2, g, e, q1⟩
    obtain ⟨_, g, rfl, _⟩ := HC.out w (Below.refl _ _)
    generalize s.L[B].t = t at *
    go_enter Try.func41, Try.ntmps41
    go_wp2_with (go_at_call 52; refine HL.out.mono ?_; rintro e w1 ⟨rfl, hb⟩; obtain ⟨c2, g', e', f1⟩ := HC.out w1 hb; obtain rfl : g = g' := (by injection e' with e'; injection e'); have HB := Lib.hid hb; clear hb e')
    go_ret2
    exact ⟨rfl, HB.out⟩
end
end Go.Proofs.Ytadhceoaoopcjaa.SL
