/- The walk of the document's Kind. No condition but that bytes are bytes. -/
import Derived.Test.YtgcafklieblldaaP3
namespace Go.Proofs.Ytgcafklieblldaa.SL
open Go.RowKit Go.Proofs.YtgcafklieblldaaW.PrintWords Go.Proofs.YtgcafklieblldaaW.PrintLast Go.Proofs.YtgcafklieblldaaW.PrintMore
set_option maxHeartbeats 4000000 in
theorem kindR_calls (a : Ad) (hok : bOk a.b) (w : World) :
    Calls Try.prog 33 #[.agg (aV a)] w fun e w' => e = .returned (.int .i64 (kindA a)) ∧ Below w.heap.size w w' := by
  have HB : Hid (Below w.heap.size w (w.alloc (.cells (aV a) 32))) := Lib.hid ((Touch.refl [] w).alloc _).below
  have hX := heap_alloc_new w (.cells (aV a) 32)
  have cV := cell_V hX
  have c0 := cell_Y hX 0 (by omega)
  have c15 := cell_Y hX 15 (by omega)
  have HY : Hid (∀ i, i < 16 → (w.alloc (.cells (aV a) 32)).cell? ⟨w.heap.size, 1 + i, none⟩ = some (.int .u8 (a.b.getD i 0))) := Lib.hid fun i hi => by rw [Nat.add_comm]; exact cell_Y hX i hi
  obtain ⟨x0, e0⟩ : ∃ z, a.b.getD 0 0 = z := ⟨_, rfl⟩
  obtain ⟨x15, e15⟩ : ∃ z, a.b.getD 15 0 = z := ⟨_, rfl⟩
  have h00 := hok.at_ 0
  have h15 := hok.at_ 15
  rw [e0] at c0 h00
  rw [e15] at c15 h15
  replace c0 : (w.alloc (.cells (aV a) 32)).cell? ⟨w.heap.size, 1, none⟩ = some (.int .u8 x0) := c0
  replace c15 : (w.alloc (.cells (aV a) 32)).cell? ⟨w.heap.size, 16, none⟩ = some (.int .u8 x15) := c15
  obtain ⟨y0, y1⟩ := h00
  obtain ⟨z0, z1⟩ := h15
  have HO := Lib.hid hok
  have E := Lib.hid (And.intro e0 e15)
  clear hok hX e0 e15
  go_enter Try.func33, Try.ntmps33
  by_cases h6 : a.v = 6
  · have b6 : (a.v == 6) = true := by simpa using h6
    by_cases h255 : x0 = 255
    · have b255 : (x0 == 255) = true := by simpa using h255
      have HK := Lib.hid (kind6_255 h6 (E.out.1.trans h255))
      clear h6 h255 c15
      go_wp2_with fail
      go_ret
      exact ⟨by rw [HK.out]; rfl, HB.out⟩
    · have b255 : (x0 == 255) = false := by simpa using h255
      have H6 := Lib.hid (And.intro h6 (show a.b.getD 0 0 ≠ 255 from fun e => h255 (E.out.1.symm.trans e)))
      clear h6 h255
      go_wp2_with fail
      generalize w.alloc (.cells (aV a) 32) = W at *
      go_loopw [3] (fun i wr => ∃ k : Nat, k ≤ 15 ∧ i = .int .i64 k ∧ wr = W ∧ Hid (zAll a.b k)) (fun i _ => 15 - (intOf i).toNat)
      case atStart => exact ⟨0, Nat.zero_le _, rfl, rfl, Lib.hid (fun j hj => absurd hj (Nat.not_lt_zero _))⟩
      case round =>
        obtain ⟨k, hk, rfl, rfl, AA⟩ := hrel
        by_cases hlt : k < 15
        · have hltz : (k : Int) < 15 := by omega
          have ck := HY.out k (by omega)
          clear c0 c15
          by_cases hz : a.b.getD k 0 = 0
          · have HZ := Lib.hid hz
            rw [hz] at ck
            clear hz
            go_wp2_with fail
            go_roundw
            case rel => exact ⟨k + 1, by omega, by go_num, trivial, Lib.hid (fun j hj => (Nat.lt_succ_iff_lt_or_eq.1 hj).elim (AA.out j) (fun e => by rw [e]; exact HZ.out))⟩
            case measure => simp [intOf]; omega
          · have hn : (a.b.getD k 0 != 0) = true := by simpa using hz
            have HK := Lib.hid (kind6_any H6.out.1 H6.out.2 hlt hz)
            generalize a.b.getD k 0 = x at ck hn
            clear hz
            go_wp2_with fail
            go_ret
            exact ⟨by rw [HK.out]; rfl, HB.out⟩
        · have hltz : ¬ (k : Int) < 15 := by omega
          have hkx : k = 15 := by omega
          subst hkx
          have hK := kind6_zero H6.out.1 AA.out (by rw [E.out.2]; exact z0)
          rw [E.out.2] at hK
          by_cases h1 : 1 < x15
          · have b1 : decide (x15 > 1) = true := by simpa using h1
            rw [if_pos h1] at hK
            have HK := Lib.hid hK
            clear hK h1
            go_wp2_with fail
            go_ret
            exact ⟨by rw [HK.out]; rfl, HB.out⟩
          · have b1 : decide (x15 > 1) = false := by simpa using h1
            rw [if_neg h1] at hK
            have HK := Lib.hid hK
            clear hK
            go_wp2_with fail
            go_ret
            exact ⟨by rw [HK.out]; rfl, HB.out⟩
  · have b6 : (a.v == 6) = false := by simpa using h6
    by_cases h4 : a.v = 4
    · have b4 : (a.v != 4) = false := by simpa using h4
      have H4 := Lib.hid h4
      clear h6 h4
      go_wp2_with fail
      generalize w.alloc (.cells (aV a) 32) = W at *
      go_loopw [4, 5] (fun s i wr => ∃ k : Nat, k ≤ 16 ∧ s = .int .i64 (sumB a.b k) ∧ i = .int .i64 k ∧ wr = W ∧ Hid (∀ j, 4 + j < k → a.b.getD (4 + j) 0 = 0)) (fun _ i _ => 16 - (intOf i).toNat)
      case atStart => exact ⟨0, Nat.zero_le _, rfl, rfl, rfl, Lib.hid (fun j hj => absurd hj (Nat.not_lt_zero _))⟩
      case round =>
        obtain ⟨k, hk, rfl, rfl, rfl, AA⟩ := hrel
        by_cases hlt : k < 16
        · have hltz : (k : Int) < 16 := by omega
          have ck := HY.out k (by omega)
          have HZ := Lib.hid (And.intro (sumB_step (b := a.b) (k := k) (by rw [a.hb]; exact hlt)) (sumB_le HO.out k))
          have hx := HO.out.at_ k
          have hs0 := HZ.out.2.1
          have hs1 := HZ.out.2.2
          generalize sumB a.b k = S at HZ hs0 hs1 ⊢
          obtain ⟨x, he⟩ : ∃ z, a.b.getD k 0 = z := ⟨_, rfl⟩
          rw [he] at ck hx
          obtain ⟨hx0, hx1⟩ := hx
          have HE := Lib.hid he
          have hS : S + x ≤ 10000 := by omega
          clear c0 c15 he
          by_cases hk4 : k < 4
          · have b4 : decide ((k : Int) ≥ 4) = false := by simp; omega
            go_wp2_with fail
            go_roundw
            case rel => exact ⟨k + 1, by omega, by rw [HZ.out.1, HE.out], by go_num, trivial, Lib.hid (fun j hj => absurd hj (by omega))⟩
            case measure => simp [intOf]; omega
          · have b4 : decide ((k : Int) ≥ 4) = true := by simp; omega
            by_cases hz : x = 0
            · have hn : (x != 0) = false := by simpa using hz
              have HX := Lib.hid hz
              clear hz
              go_wp2_with fail
              go_roundw
              case rel => exact ⟨k + 1, by omega, by rw [HZ.out.1, HE.out], by go_num, trivial, Lib.hid (fun j hj => (Nat.lt_succ_iff_lt_or_eq.1 hj).elim (AA.out j) (fun e => by rw [e, HE.out, HX.out]))⟩
              case measure => simp [intOf]; omega
            · have hn : (x != 0) = true := by simpa using hz
              have HK : Hid (kindA a = 0) := Lib.hid (kind4_bad (j := k - 4) H4.out (by omega) (by rw [show 4 + (k - 4) = k by omega, HE.out]; exact hz))
              clear hz
              go_wp2_with fail
              go_ret
              exact ⟨by rw [HK.out]; rfl, HB.out⟩
        · have hltz : ¬ (k : Int) < 16 := by omega
          have hkx : k = 16 := by omega
          subst hkx
          have hK := kind4 HO.out H4.out (fun j hj => AA.out j (by omega))
          rw [E.out.1] at hK
          generalize sumB a.b 16 = S at hK ⊢
          clear c15
          by_cases q1 : S = 0
          · have b1 : (S == 0) = true := by simpa using q1
            rw [if_pos q1] at hK
            have HK := Lib.hid hK
            clear hK q1
            go_wp2_with fail
            go_ret
            exact ⟨by rw [HK.out]; rfl, HB.out⟩
          rw [if_neg q1] at hK
          have b1 : (S == 0) = false := by simpa using q1
          by_cases q2 : S = 1020
          · have b2 : (S == 1020) = true := by simpa using q2
            rw [if_pos q2] at hK
            have HK := Lib.hid hK
            clear hK q1 q2
            go_wp2_with fail
            go_ret
            exact ⟨by rw [HK.out]; rfl, HB.out⟩
          rw [if_neg q2] at hK
          have b2 : (S == 1020) = false := by simpa using q2
          clear q1 q2
          by_cases q3 : x0 = 127
          · have b3 : (x0 == 127) = true := by simpa using q3
            rw [if_pos q3] at hK
            have HK := Lib.hid hK
            clear hK q3
            go_wp2_with fail
            go_ret
            exact ⟨by rw [HK.out]; rfl, HB.out⟩
          rw [if_neg q3] at hK
          have b3 : (x0 == 127) = false := by simpa using q3
          clear q3
          by_cases q4 : 224 ≤ x0
          · have b5 : decide (x0 ≥ 224) = true := by simpa using q4
            by_cases q5 : x0 ≤ 239
            · have b6 : decide (x0 ≤ 239) = true := by simpa using q5
              rw [if_pos ⟨q4, q5⟩] at hK
              have HK := Lib.hid hK
              clear hK q4 q5
              go_wp2_with fail
              go_ret
              exact ⟨by rw [HK.out]; rfl, HB.out⟩
            · have b6 : decide (x0 ≤ 239) = false := by simpa using q5
              rw [if_neg (fun h => q5 h.2)] at hK
              have HK := Lib.hid hK
              clear hK q4 q5
              go_wp2_with fail
              go_ret
              exact ⟨by rw [HK.out]; rfl, HB.out⟩
          · have b5 : decide (x0 ≥ 224) = false := by simpa using q4
            rw [if_neg (fun h => q4 h.1)] at hK
            have HK := Lib.hid hK
            clear hK q4
            go_wp2_with fail
            go_ret
            exact ⟨by rw [HK.out]; rfl, HB.out⟩
    · have b4 : (a.v != 4) = true := by simpa using h4
      have HK := Lib.hid (kind_bad h6 h4)
      clear h6 h4
      go_wp2_with fail
      go_ret
      exact ⟨by rw [HK.out]; rfl, HB.out⟩
end Go.Proofs.Ytgcafklieblldaa.SL
