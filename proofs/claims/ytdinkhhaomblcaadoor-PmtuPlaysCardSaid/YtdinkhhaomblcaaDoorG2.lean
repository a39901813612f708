/- The walk of Get. No condition. -/
import Derived.Test.YtdinkhhaomblcaaDoorG1
import Derived.Test.YtdinkhhaomblcaaDoorMw
import Derived.Deep.RegionHeld3
import Derived.Deep.DrawnRows
namespace Go.Proofs.YtdinkhhaomblcaaDoor.SL
open Go.RowKit Go.Proofs.YtdinkhhaomblcaaDoorW.PrintWords Go.Proofs.YtdinkhhaomblcaaDoorW.PrintLast Go.Proofs.YtdinkhhaomblcaaDoorW.PrintMore
theorem lvMap (a : Addr) : loadVar 78 a = (do if ← isAgg 78 then pure (.agg (← loadCells a (← sizeOf 78))) else load a) := rfl
theorem lv64 (a : Addr) : loadVar 2 a = (do if ← isAgg 2 then pure (.agg (← loadCells a (← sizeOf 2))) else load a) := rfl
/-- What a look-up in the cache's map reads. -/
structure CaRd (p b : Nat) (M : Mp) (B : Nat) (a : Ad) (W : World) : Prop where
  c2 : W.cell? ⟨p, 2, none⟩ = some (.map (some b))
  rg : W.rangeAt B 0 (aL a)
  lk : (Instr.lookup 78 (.map (some b)) (.agg (aV a)) true).run Tryd.prog W = .ok (.tuple #[beV ((lookM M a).getD zBel), .bool (lookM M a).isSome]) W
theorem CaRd.all {p b : Nat} {c : Ca} {B : Nat} {a : Ad} {w W : World} {T : TypeId} {fr : Nat × Nat} (h : CaAt w p b c) (hB : w.heap[B]? = some (.cells (aV a) T fr)) (hb : Below w.heap.size w W) : CaRd p b c.M B a W := by
  have h2 := h.below hb
  refine ⟨h2.cells.2.2.1, range_A ((hb.block B (lt_of_block hB)).trans hB), ?_⟩
  have := run_lookM h2.mp a true
  simpa using this
attribute [-go_sem] loadVar
attribute [local go_sem] lv3 lvMap
attribute [local go_sem ↓] Go.wp_at_zero Go.wp_at_succ
set_option maxHeartbeats 4000000 in
theorem get_calls (p b : Nat) (c : Ca) (a : Ad) (first : Int) (w : World) (h : CaAt w p b c) :
    Calls Tryd.prog 26 #[.pointer (some ⟨p, 0, none⟩), .agg (aV a), .int .i64 first] w fun e w' => e = .returned (.tuple #[.int .i64 (getS c.M a first).1, .int .i64 (getS c.M a first).2]) ∧ Below w.heap.size w w' := by
  have hB0 : Below w.heap.size w (w.alloc (.cells (aV a) 32)) := ((Touch.refl [] w).alloc _).below
  have HZ := Lib.hid hB0
  have HC : Hid (∀ W : World, Below (w.alloc (.cells (aV a) 32)).heap.size (w.alloc (.cells (aV a) 32)) W → CaRd p b c.M w.heap.size a W) := Lib.hid fun W hb => CaRd.all (h.below hB0) (heap_alloc_new w _) hb
  have HB : Hid (Below (w.alloc (.cells (aV a) 32)).heap.size (w.alloc (.cells (aV a) 32)) (w.alloc (.cells (aV a) 32))) := Lib.hid (Below.refl _ _)
  have HE : Hid (Below w.heap.size w (w.alloc (.cells (aV a) 32))) := Lib.hid hB0
  clear h hB0
  go_enter Tryd.func26, Tryd.ntmps26
  by_cases hv : validA a = false
  · have HG := Lib.hid (show getS c.M a first = (0, 1) from if_pos (.inl hv))
    go_wp2_with (first | (go_at_call 37; refine (valid_calls a _).mono ?_; rintro e w1 ⟨rfl, hb1⟩; replace HB := Lib.hid (HB.out.trans (hb1.mono HB.out.size)); clear hb1) | (refine gate_ (.load 32 (.tmp 4)) rfl ?_; go_must (refine ld_A (.tmp 4) rfl rfl (HC.out _ HB.out).rg rfl ?_)))
    go_ret2
    exact ⟨by rw [HG.out]; rfl, HE.out.trans (HB.out.mono HE.out.size)⟩
  have hv : validA a = true := by simpa using hv
  by_cases hf : first < floorA a
  · have HG := Lib.hid (show getS c.M a first = (0, 1) from if_pos (.inr (.inl hf)))
    have hd : decide (first < floorA a) = true := decide_eq_true hf
    go_wp2_with (first | (go_at_call 37; refine (valid_calls a _).mono ?_; rintro e w1 ⟨rfl, hb1⟩; replace HB := Lib.hid (HB.out.trans (hb1.mono HB.out.size)); clear hb1) | (go_at_call 38; refine (floor_calls a _).mono ?_; rintro e w1 ⟨rfl, hb1⟩; replace HB := Lib.hid (HB.out.trans (hb1.mono HB.out.size)); clear hb1) | (refine gate_ (.load 32 (.tmp 4)) rfl ?_; first | (refine ld_A (.tmp 4) rfl rfl (HC.out _ HB.out).rg rfl ?_) | (refine wpList_guarded (by rfl) ?_; refine ld_A (.tmp 4) rfl rfl (HC.out _ HB.out).rg rfl ?_)))
    go_ret2
    exact ⟨by rw [HG.out]; rfl, HE.out.trans (HB.out.mono HE.out.size)⟩
  have hd : decide (first < floorA a) = false := decide_eq_false hf
  by_cases h6 : 65535 < first
  · have HG := Lib.hid (show getS c.M a first = (0, 1) from if_pos (.inr (.inr h6)))
    have hd2 : decide (first > 65535) = true := decide_eq_true h6
    go_wp2_with (first | (go_at_call 37; refine (valid_calls a _).mono ?_; rintro e w1 ⟨rfl, hb1⟩; replace HB := Lib.hid (HB.out.trans (hb1.mono HB.out.size)); clear hb1) | (go_at_call 38; refine (floor_calls a _).mono ?_; rintro e w1 ⟨rfl, hb1⟩; replace HB := Lib.hid (HB.out.trans (hb1.mono HB.out.size)); clear hb1) | (refine gate_ (.load 32 (.tmp 4)) rfl ?_; first | (refine ld_A (.tmp 4) rfl rfl (HC.out _ HB.out).rg rfl ?_) | (refine wpList_guarded (by rfl) ?_; refine ld_A (.tmp 4) rfl rfl (HC.out _ HB.out).rg rfl ?_)))
    go_ret2
    exact ⟨by rw [HG.out]; rfl, HE.out.trans (HB.out.mono HE.out.size)⟩
  have hd2 : decide (first > 65535) = false := decide_eq_false h6
  have HF : getS c.M a first = match lookM c.M a with | some x => (if x.est < first then x.est else first, 0) | none => (first, 0) := if_neg fun h => h.elim (fun h => by rw [hv] at h; cases h) (fun h => h.elim hf h6)
  obtain ⟨y, tt, hy, hr⟩ : ∃ (y : Bel) (tt : Bool), (∀ W : World, Below (w.alloc (.cells (aV a) 32)).heap.size (w.alloc (.cells (aV a) 32)) W → W.cell? ⟨p, 2, none⟩ = some (.map (some b)) ∧ W.rangeAt w.heap.size 0 (aL a) ∧ (Instr.lookup 78 (.map (some b)) (.agg (aV a)) true).run Tryd.prog W = .ok (.tuple #[.agg #[.int .i64 y.est, .int .i64 y.fst, .int .i64 y.clk, .int .i64 y.hrd], .bool tt]) W) ∧ getS c.M a first = if tt = true then (if y.est < first then y.est else first, 0) else (first, 0) := by
    cases hl : lookM c.M a with
    | none => exact ⟨zBel, false, fun W hb => ⟨(HC.out W hb).c2, (HC.out W hb).rg, by have := (HC.out W hb).lk; rw [hl] at this; exact this⟩, by rw [HF, hl]; rfl⟩
    | some x => exact ⟨x, true, fun W hb => ⟨(HC.out W hb).c2, (HC.out W hb).rg, by have := (HC.out W hb).lk; rw [hl] at this; exact this⟩, by rw [HF, hl]; rfl⟩
  have HG := Lib.hid hr
  have HC2 := Lib.hid hy
  clear HF hr hy
  have hLD : ∀ W : World, W.rangeAt w.heap.size 0 (aL a) → (loadVar 32 ⟨w.heap.size, 0, none⟩).run Tryd.prog W = .ok (.agg (aV a)) W := fun W h => lvA h
  go_wp2_with (first | (go_at_call 37; refine (valid_calls a _).mono ?_; rintro e w1 ⟨rfl, hb1⟩; replace HB := Lib.hid (HB.out.trans (hb1.mono HB.out.size)); clear hb1) | (go_at_call 38; refine (floor_calls a _).mono ?_; rintro e w1 ⟨rfl, hb1⟩; replace HB := Lib.hid (HB.out.trans (hb1.mono HB.out.size)); clear hb1) | (refine gate_ (.load 32 (.tmp 4)) rfl ?_; first | (refine ld_A (.tmp 4) rfl rfl (HC.out _ HB.out).rg rfl ?_) | (refine wpList_guarded (by rfl) ?_; refine ld_A (.tmp 4) rfl rfl (HC.out _ HB.out).rg rfl ?_)))
  go_region_held3 (fun W => W.cell? ⟨p, 2, none⟩ = some (.map (some b)) ∧ W.rangeAt w.heap.size 0 (aL a) ∧ (Instr.lookup 78 (.map (some b)) (.agg (aV a)) true).run Tryd.prog W = .ok (.tuple #[.agg #[.int .i64 y.est, .int .i64 y.fst, .int .i64 y.clk, .int .i64 y.hrd], .bool tt]) W) ((refine HC2.out _ ?_; first | exact HB.out.drew | exact (HB.out.alloc HB.out.size _).drew)) (first | fail)
  all_goals
    have HB2 := Lib.hid (HE.out.trans ((HB.out.alloc HB.out.size (.cells #[.int .i64 y.est, .int .i64 y.fst, .int .i64 y.clk, .int .i64 y.hrd] 90)).mono HE.out.size))
    have g0 : (w1.alloc (.cells #[.int .i64 y.est, .int .i64 y.fst, .int .i64 y.clk, .int .i64 y.hrd] 90)).cell? ⟨w1.heap.size, 0, none⟩ = some (.int .i64 y.est) := cell_of_row _ _ 0 _ _ _ (heap_alloc_new w1 _)
    cases tt with
    | false =>
      go_wp2_with fail
      go_ret2
      exact ⟨by rw [HG.out]; rfl, by first | exact HB2.out | exact HB2.out.drew⟩
    | true =>
      by_cases hlt : y.est < first
      · replace HG := Lib.hid (show getS c.M a first = (y.est, 0) by rw [HG.out, if_pos rfl, if_pos hlt])
        go_wp2_with fail
        go_ret2
        exact ⟨by rw [HG.out]; rfl, by first | exact HB2.out | exact HB2.out.drew⟩
      · replace HG := Lib.hid (show getS c.M a first = (first, 0) by rw [HG.out, if_pos rfl, if_neg hlt])
        go_wp2_with fail
        go_ret2
        exact ⟨by rw [HG.out]; rfl, by first | exact HB2.out | exact HB2.out.drew⟩
end Go.Proofs.YtdinkhhaomblcaaDoor.SL
