/- The document's Valid and Less of an address, its floor, what a message means to it. No condition. -/
import Derived.Test.YtdinkhhaomblcaaDoorZ1
import Derived.BigQuiet
import Derived.Deep.QuietTactic
namespace Go.Proofs.YtdinkhhaomblcaaDoor.SL
open Go.RowKit Go.Proofs.YtdinkhhaomblcaaDoorW.PrintWords Go.Proofs.YtdinkhhaomblcaaDoorW.PrintLast Go.Proofs.YtdinkhhaomblcaaDoorW.PrintMore
theorem drewN_below {w : World} (n : Nat) : Below w.heap.size w (w.drewN n) := ((Touch.refl [] w).drewN n).below
theorem drewN_onto {B : Nat} {w wr : World} (h : Below B w wr) (hB : B ≤ wr.heap.size) (n : Nat) : Below B w (wr.drewN n) := h.trans ((drewN_below n).mono hB)
theorem valid_of {a : Ad} (h6 : a.v ≠ 6) (hz : ∀ j, 4 ≤ j → j < 16 → a.b.getD j 0 = 0) : validA a = (a.v == 4) := by
  unfold validA bitsA
  by_cases h4 : a.v = 4
  · rw [if_pos h4, if_pos, show (a.v == 4) = true by simpa using h4]
    · rfl
    · rw [List.all_eq_true]
      intro x hx
      obtain ⟨j, hj, rfl⟩ := List.getElem_of_mem hx
      have hb := a.hb
      rw [List.length_drop] at hj
      have := hz (4 + j) (by omega) (by omega)
      rw [List.getD_eq_getElem?_getD, List.getElem?_eq_getElem (by omega)] at this
      simpa using this
  · rw [if_neg h4, if_neg h6, show (a.v == 4) = false by simpa using h4]
    rfl
theorem valid_not {a : Ad} (h6 : a.v ≠ 6) {j : Nat} (h1 : 4 ≤ j) (h2 : j < 16) (hz : a.b.getD j 0 ≠ 0) : validA a = false := by
  unfold validA bitsA
  by_cases h4 : a.v = 4
  · rw [if_pos h4, if_neg]
    · rfl
    · intro hall
      rw [List.all_eq_true] at hall
      have hb := a.hb
      have hm : (a.b.drop 4)[j - 4]? = some (a.b.getD j 0) := by
        rw [List.getElem?_drop, show 4 + (j - 4) = j by omega, List.getD_eq_getElem?_getD, List.getElem?_eq_getElem (by omega)]
        rfl
      exact hz (by simpa using hall _ (List.mem_of_getElem? hm))
  · rw [if_neg h4, if_neg h6]
    rfl
set_option maxHeartbeats 2000000 in
theorem rvalid_calls (a : Ad) (w : World) : Calls Tryd.prog 41 #[.agg (aV a)] w fun e w' => e = .returned (.bool (validA a)) ∧ Below w.heap.size w w' := by
  have hB0 : Below w.heap.size w (w.alloc (.cells (aV a) 32)) := ((Touch.refl [] w).alloc _).below
  have HB := Lib.hid hB0
  have hb := heap_alloc_new w (.cells (aV a) 32)
  have v0 := cell_V hb
  have HX := Lib.hid hb
  clear hB0 hb
  go_enter Tryd.func41, Tryd.ntmps41
  by_cases h6 : a.v = 6
  · have hd6 : (a.v == 6) = true := by simpa using h6
    go_wp2_with fail
    go_ret
    refine ⟨?_, HB.out⟩
    rw [show validA a = true by unfold validA bitsA; rw [if_neg (by omega), if_pos h6]; rfl]
    rfl
  · have hd6 : (a.v == 6) = false := by simpa using h6
    have H6 := Lib.hid h6
    clear h6
    go_wp2_with fail
    generalize hW : w.alloc (.cells (aV a) 32) = W at HB HX v0 ⊢
    generalize w.heap.size = B at HX v0 ⊢
    clear hW
    go_loopw [3] (fun i wr => ∃ k : Nat, 4 ≤ k ∧ k ≤ 16 ∧ i = .int .i64 k ∧ wr = W ∧ Hid (∀ j, 4 ≤ j → j < k → a.b.getD j 0 = 0)) (fun i _ => 16 - (intOf i).toNat)
    case atStart => exact ⟨4, by omega, by omega, rfl, rfl, Lib.hid (fun j h1 h2 => absurd h2 (by omega))⟩
    case round =>
      obtain ⟨k, hk4, hk, rfl, rfl, AA⟩ := hrel
      by_cases hlt : k < 16
      · have hltz : (k : Int) < 16 := by omega
        have hk0 : (0 : Int) ≤ (k : Int) := by omega
        have c0 := cell_Y HX.out k (by omega)
        have c1 : wr.cell? ⟨B, 1 + k, none⟩ = some (.int .u8 (a.b.getD k 0)) := by rw [Nat.add_comm]; exact c0
        clear c0
        have hn0 : Hid (a.b.getD k 0 ≠ 0 → validA a = false) := Lib.hid fun h => valid_not H6.out hk4 hlt h
        generalize hy : a.b.getD k 0 = y at c1 hn0
        have HY := Lib.hid hy
        clear hy
        by_cases hq : y = 0
        · have hq' : (y != 0) = false := by simpa using hq
          go_wp2_with fail
          go_roundw
          case rel => exact ⟨k + 1, by omega, by omega, by go_num, by trivial, Lib.hid (fun j h1 hj => by
            by_cases e : j = k
            · subst e; rw [HY.out]; exact hq
            · exact AA.out j h1 (by omega))⟩
          case measure => simp [intOf]; omega
        · have hq' : (y != 0) = true := by simpa using hq
          go_wp2_with fail
          go_ret
          exact ⟨by rw [hn0.out hq]; rfl, HB.out⟩
      · have hltz : ¬ (k : Int) < 16 := by omega
        have HV : Hid (validA a = (a.v == 4)) := Lib.hid (valid_of H6.out fun j h1 h2 => AA.out j h1 (by omega))
        go_wp2_with fail
        go_ret
        exact ⟨by rw [HV.out]; rfl, HB.out⟩
theorem ltL_drop {x y : List Int} (hl : x.length = y.length) (k : Nat) (hk : k < x.length) : ltL (x.drop k) (y.drop k) = if x.getD k 0 = y.getD k 0 then ltL (x.drop (k + 1)) (y.drop (k + 1)) else decide (x.getD k 0 < y.getD k 0) := by
  rw [List.drop_eq_getElem_cons hk, List.drop_eq_getElem_cons (show k < y.length by omega), List.getD_eq_getElem?_getD, List.getD_eq_getElem?_getD, List.getElem?_eq_getElem hk, List.getElem?_eq_getElem (show k < y.length by omega)]
  rfl
set_option maxHeartbeats 4000000 in
theorem rless_calls (x y : Ad) (w : World) : Calls Tryd.prog 50 #[.agg (aV x), .agg (aV y)] w fun e w' => e = .returned (.bool (ltA x y)) ∧ Below w.heap.size w w' := by
  have hB0 : Below w.heap.size w ((w.alloc (.cells (aV x) 32)).alloc (.cells (aV y) 32)) := (((Touch.refl [] w).alloc _).alloc _).below
  have HB := Lib.hid hB0
  have hx0 := heap_alloc_new w (.cells (aV x) 32)
  have hx : ((w.alloc (.cells (aV x) 32)).alloc (.cells (aV y) 32)).heap[w.heap.size]? = some (.cells (aV x) 32 (0, 0)) := (heap_alloc_old _ _ (lt_of_block hx0)).trans hx0
  have hy : ((w.alloc (.cells (aV x) 32)).alloc (.cells (aV y) 32)).heap[w.heap.size + 1]? = some (.cells (aV y) 32 (0, 0)) := by
    have := heap_alloc_new (w.alloc (.cells (aV x) 32)) (.cells (aV y) 32)
    rwa [show (w.alloc (.cells (aV x) 32)).heap.size = w.heap.size + 1 by simp] at this
  have v0 := cell_V hx
  have v1 := cell_V hy
  have HX := Lib.hid hx
  have HY := Lib.hid hy
  clear hB0 hx0 hx hy
  go_enter Tryd.func50, Tryd.ntmps50
  by_cases hv : x.v = y.v
  · have hd : (x.v != y.v) = false := by simpa using hv
    have HL : Hid (ltA x y = ltL (x.b.drop 0) (y.b.drop 0)) := Lib.hid (by unfold ltA; rw [if_pos hv]; rfl)
    clear hv
    go_wp2_with fail
    have HBS := Lib.hid HB.out.size
    generalize (w.alloc (.cells (aV x) 32)).alloc (.cells (aV y) 32) = W at HB HBS HX HY v0 v1 ⊢
    generalize w.heap.size + 1 = B1 at HY v1 ⊢
    generalize hBB : w.heap.size = B at HB HBS HX v0 ⊢
    have HBB := Lib.hid hBB
    clear hBB
    clear v0 v1 hd
    go_loopw [5] (fun i wr => ∃ k : Nat, k ≤ 16 ∧ i = .int .i64 k ∧ Hid (Below W.heap.size W wr) ∧ Hid (ltA x y = ltL (x.b.drop k) (y.b.drop k))) (fun i _ => 16 - (intOf i).toNat)
    case atStart => exact ⟨0, by omega, rfl, Lib.hid (Below.refl _ _), HL⟩
    case round =>
      clear HL
      obtain ⟨k, hk, rfl, HW, HL⟩ := hrel
      have hk0 : (0 : Int) ≤ (k : Int) := by omega
      have hxl := x.hb
      have hyl := y.hb
      by_cases hlt : k < 16
      · have hltz : (k : Int) < 16 := by omega
        have HC : Hid (∀ W', Below W.heap.size W W' → W'.cell? ⟨B, 1 + k, none⟩ = some (.int .u8 (x.b.getD k 0)) ∧ W'.cell? ⟨B1, 1 + k, none⟩ = some (.int .u8 (y.b.getD k 0))) := Lib.hid fun W' hW => by
          rw [Nat.add_comm]
          exact ⟨cell_Y ((hW.block _ (lt_of_block HX.out)).trans HX.out) k hlt, cell_Y ((hW.block _ (lt_of_block HY.out)).trans HY.out) k hlt⟩
        have HD : Hid (ltL (x.b.drop k) (y.b.drop k) = if x.b.getD k 0 = y.b.getD k 0 then ltL (x.b.drop (k + 1)) (y.b.drop (k + 1)) else decide (x.b.getD k 0 < y.b.getD k 0)) := Lib.hid (ltL_drop (by omega) k (by omega))
        obtain ⟨c0, c1⟩ := HC.out wr HW.out
        generalize x.b.getD k 0 = p at *
        generalize y.b.getD k 0 = q at *
        clear hxl hyl
        by_cases hpq : p = q
        · have hq : (p != q) = false := by simpa using hpq
          have HE : Hid (ltA x y = ltL (x.b.drop (k + 1)) (y.b.drop (k + 1))) := Lib.hid (HL.out.trans (HD.out.trans (if_pos hpq)))
          clear hpq
          go_wp2_with fail
          go_quiet (fail)
          go_wp2_with fail
          go_roundw
          case rel => exact ⟨k + 1, by omega, by go_num, Lib.hid (drewN_onto HW.out HW.out.size _), HE⟩
          case measure => simp [intOf]; omega
        · have hq : (p != q) = true := by simpa using hpq
          have HE : Hid (ltA x y = decide (p < q)) := Lib.hid (HL.out.trans (HD.out.trans (if_neg hpq)))
          clear hpq
          go_wp2_with fail
          go_quiet (fail)
          go_wp2_with fail
          go_quiet (fail)
          go_wp2_with fail
          go_ret
          have h1 := HB.out.trans (HW.out.mono HBS.out)
          have h2 := Nat.le_trans HBS.out HW.out.size
          refine ⟨by rw [HE.out]; rfl, ?_⟩
          rw [HBB.out]
          first
          | exact drewN_onto h1 h2 _
          | exact drewN_onto (drewN_onto h1 h2 _) h2 _
      · have hltz : ¬ (k : Int) < 16 := by omega
        obtain rfl : k = 16 := by omega
        have HF : Hid (ltA x y = false) := Lib.hid (by rw [HL.out, List.drop_eq_nil_of_le (by omega)]; rfl)
        go_wp2_with fail
        go_ret
        exact ⟨by rw [HF.out]; rfl, by rw [HBB.out]; exact HB.out.trans (HW.out.mono HBS.out)⟩
  · have hd : (x.v != y.v) = true := by simpa using hv
    have HL : Hid (ltA x y = decide (x.v < y.v)) := Lib.hid (by unfold ltA; rw [if_neg hv])
    clear hv
    go_wp2_with fail
    go_ret
    exact ⟨by rw [HL.out]; rfl, HB.out⟩
theorem rfloor_calls (a : Ad) (w : World) : Calls Tryd.prog 42 #[.agg (aV a)] w fun e w' => e = .returned (.int .i64 (floorA a)) ∧ Below w.heap.size w w' := by
  have HB := Lib.hid (show Below w.heap.size w (w.alloc (.cells (aV a) 32)) from ((Touch.refl [] w).alloc _).below)
  have v0 := cell_V (heap_alloc_new w (.cells (aV a) 32))
  go_enter Tryd.func42, Tryd.ntmps42
  by_cases h6 : a.v = 6
  · have hd : (a.v == 6) = true := by simpa using h6
    have HF := Lib.hid (show floorA a = 1280 from if_pos h6)
    go_wp2_with fail
    go_ret
    exact ⟨by rw [HF.out]; rfl, HB.out⟩
  · have hd : (a.v == 6) = false := by simpa using h6
    have HF := Lib.hid (show floorA a = 68 from if_neg h6)
    go_wp2_with fail
    go_ret
    exact ⟨by rw [HF.out]; rfl, HB.out⟩
theorem rmeant_calls (a : Ad) (mtu length : Int) (w : World) : Calls Tryd.prog 44 #[.agg (aV a), .int .i64 mtu, .int .i64 length] w fun e w' => e = .returned (.int .i64 (meantR a mtu length)) ∧ Below w.heap.size w w' := by
  have HB := Lib.hid (show Below w.heap.size w (w.alloc (.cells (aV a) 32)) from ((Touch.refl [] w).alloc _).below)
  have v0 := cell_V (heap_alloc_new w (.cells (aV a) 32))
  have HBE := Lib.hid fun W => rbelow_any length W
  have hm : meantR a mtu length = if a.v = 6 then (if mtu < 1280 then 0 else mtu) else if mtu = 0 then below length else max mtu 68 := rfl
  go_enter Tryd.func44, Tryd.ntmps44
  by_cases h6 : a.v = 6
  · have hd : (a.v == 6) = true := by simpa using h6
    rw [if_pos h6] at hm
    by_cases hlt : mtu < 1280
    · rw [if_pos hlt] at hm
      have HM := Lib.hid hm
      clear hm
      go_wp2_with fail
      go_ret
      exact ⟨by rw [HM.out]; rfl, HB.out⟩
    · rw [if_neg hlt] at hm
      have HM := Lib.hid hm
      clear hm
      go_wp2_with fail
      go_ret
      exact ⟨by rw [HM.out]; rfl, HB.out⟩
  · have hd : (a.v == 6) = false := by simpa using h6
    rw [if_neg h6] at hm
    by_cases h0 : mtu = 0
    · have hd0 : (mtu == 0) = true := by simpa using h0
      rw [if_pos h0] at hm
      have HM := Lib.hid hm
      clear hm
      go_wp2_with (go_at_call 53; refine (HBE.out _).mono ?_; rintro e w2 ⟨rfl, rfl⟩)
      go_ret
      exact ⟨by rw [HM.out]; rfl, HB.out⟩
    · have hd0 : (mtu == 0) = false := by simpa using h0
      rw [if_neg h0] at hm
      have HM := Lib.hid hm
      clear hm
      go_wp2_with fail
      go_ret
      exact ⟨by rw [HM.out]; rfl, HB.out⟩
end Go.Proofs.YtdinkhhaomblcaaDoor.SL
