/- The walks of bytes.Compare at two addresses' bytes, addr.Less, the closure of ordered. No condition. -/
import Derived.Test.YtdinkhhaomblcaaDoorG1
import Derived.Test.YtdinkhhaomblcaaDoorLt
import Derived.Lib.BytesEntry
import Derived.Laws.Externs
import Derived.Sort.Grow
import Derived.Sort.Row
import Derived.Deep.RegionHeld3
import Derived.Deep.DrawnRows
namespace Go.Proofs.YtdinkhhaomblcaaDoor.SL
open Go.Sort Go.RowKit Go.Proofs.YtdinkhhaomblcaaDoorW.PrintWords Go.Proofs.YtdinkhhaomblcaaDoorW.PrintLast Go.Proofs.YtdinkhhaomblcaaDoorW.PrintMore
/-- Bytes are bytes. -/
def BOk (a : Ad) : Prop := ∀ x ∈ a.b, 0 ≤ x ∧ x < 256
theorem cmp_lt : ∀ (x y : List Int), (∀ u ∈ x, 0 ≤ u ∧ u < 256) → (∀ u ∈ y, 0 ≤ u ∧ u < 256) → x.length = y.length → decide (Lib.compareBytes (Lib.bytesOf x) (Lib.bytesOf y) < 0) = ltL x y
  | [], [], _, _, _ => rfl
  | [], _ :: _, _, _, h => by simp at h
  | _ :: _, [], _, _, h => by simp at h
  | u :: x, v :: y, h1, h2, h => by
    have ih := cmp_lt x y (fun z hz => h1 z (List.mem_cons_of_mem _ hz)) (fun z hz => h2 z (List.mem_cons_of_mem _ hz)) (by simpa using h)
    have hu := h1 u List.mem_cons_self
    have hv := h2 v List.mem_cons_self
    have key : ∀ {s t : Int}, 0 ≤ s ∧ s < 256 → 0 ≤ t ∧ t < 256 → (s.toNat.toUInt8 < t.toNat.toUInt8 ↔ s < t) := by
      intro s t hs ht
      rw [UInt8.lt_iff_toNat_lt]
      simp only [Nat.toUInt8, UInt8.toNat_ofNat']
      omega
    show decide ((if u.toNat.toUInt8 < v.toNat.toUInt8 then (-1 : Int) else if v.toNat.toUInt8 < u.toNat.toUInt8 then 1 else Lib.compareBytes (Lib.bytesOf x) (Lib.bytesOf y)) < 0) = if u = v then ltL x y else decide (u < v)
    by_cases e : u = v
    · subst e
      rw [if_pos rfl, if_neg (by rw [key hu hu]; omega), if_neg (by rw [key hu hu]; omega), ih]
    · rw [if_neg e]
      by_cases hlt : u < v
      · rw [if_pos ((key hu hv).2 hlt), decide_eq_true hlt]; rfl
      · rw [if_neg (fun h => hlt ((key hu hv).1 h)), if_pos ((key hv hu).2 (by omega)), decide_eq_false hlt]; rfl
def cmpA (x y : Ad) : Int := Lib.compareBytes (Lib.bytesOf x.b) (Lib.bytesOf y.b)
theorem run_compareBy {w : World} {b1 b2 c1 c2 : Nat} {x y : Ad} (h1 : w.rangeAt b1 1 (yL x.b)) (h2 : w.rangeAt b2 1 (yL y.b)) :
    (Extern.BytealgCompare.compare #[.slice (some ⟨b1, 1, none⟩) 16 c1, .slice (some ⟨b2, 1, none⟩) 16 c2]).run Tryd.prog w = .ok (.int .i64 (cmpA x y)) w := by
  have ld : ∀ (b : Nat) (z : Ad), w.rangeAt b 1 (yL z.b) → (Extern.Bytes.loadBytes ⟨b, 1, none⟩ 16 .empty).run Tryd.prog w = .ok ⟨(Lib.bytesOf z.b).toArray⟩ w := by
    intro b z h
    have := Lib.run_loadBytesX (P := Tryd.prog) w z.b ⟨b, 1, none⟩ .empty (fun j u hj => by
      have e : (⟨b, 1, none⟩ : Addr).add j = ⟨b, 1 + j, none⟩ := by unfold Addr.add; split <;> simp_all
      rw [e]
      exact (h j (.int .u8 u) (by unfold yL; rw [List.getElem?_map, hj]; rfl)))
    rw [z.hb] at this
    rw [this]
    congr 1
    apply ByteArray.ext
    show (#[] : Array UInt8) ++ (Lib.bytesOf z.b).toArray = (Lib.bytesOf z.b).toArray
    simp
  change Sem.run Tryd.prog (do pure (goInt (Extern.BytealgCompare.cmp (← Extern.Bytes.bytesOf (.slice (some ⟨b1, 1, none⟩) 16 c1)) (← Extern.Bytes.bytesOf (.slice (some ⟨b2, 1, none⟩) 16 c2))))) w = _
  simp only [Extern.Bytes.bytesOf, Sem.run_bind, Sem.run_pure, ld b1 x h1, ld b2 y h2, Result.andThen]
  rw [Lib.cmp_eq]
  rfl
theorem compare_calls (b1 b2 c1 c2 : Nat) (x y : Ad) (w : World) (h1 : w.rangeAt b1 1 (yL x.b)) (h2 : w.rangeAt b2 1 (yL y.b)) :
    Calls Tryd.prog 57 #[.slice (some ⟨b1, 1, none⟩) 16 c1, .slice (some ⟨b2, 1, none⟩) 16 c2] w fun e w' => e = .returned (.int .i64 (cmpA x y)) ∧ w' = w := by
  have hrun := run_compareBy (c1 := c1) (c2 := c2) h1 h2
  clear h1 h2
  go_enter Tryd.func57, Tryd.ntmps57
  go_wp2
  rw [run_callFunc_extern Tryd.func68 (by kernel_rfl) (by kernel_rfl) (by kernel_rfl) (e := Extern.BytealgCompare.compare) (by kernel_rfl), hrun]
  simp only [Result.andThen]
  rw [Oper.upon_value]
  go_wp2
  go_ret
  exact ⟨rfl, rfl⟩
attribute [-go_sem] loadVar
attribute [local go_sem] lv3
attribute [local go_sem ↓] Go.wp_at_zero Go.wp_at_succ
set_option maxHeartbeats 4000000 in
theorem less_calls (x y : Ad) (hx : BOk x) (hy : BOk y) (w : World) :
    Calls Tryd.prog 49 #[.agg (aV x), .agg (aV y)] w fun e w' => e = .returned (.bool (ltA x y)) ∧ ∃ q os', w' = grow (w.drewN q) os' := by
  have b0 := heap_alloc_old (w.alloc (.cells (aV x) 32)) (.cells (aV y) 32) (show w.heap.size < (w.alloc (.cells (aV x) 32)).heap.size by simp)
  have hX := b0.trans (heap_alloc_new w (.cells (aV x) 32))
  have hY := heap_alloc_new (w.alloc (.cells (aV x) 32)) (.cells (aV y) 32)
  replace hY : ((w.alloc (.cells (aV x) 32)).alloc (.cells (aV y) 32)).heap[w.heap.size + 1]? = some (.cells (aV y) 32 (0, 0)) := by simpa using hY
  have cX := cell_V hX
  have cY := cell_V hY
  have RX := Lib.hid (range_Y hX)
  have RY := Lib.hid (range_Y hY)
  have RX2 : Hid (World.rangeAt ((w.alloc (.cells (aV x) 32)).alloc (.cells (aV y) 32)).drew w.heap.size 1 (yL x.b)) := Lib.hid (fun j u h => RX.out j u h)
  have RY2 : Hid (World.rangeAt ((w.alloc (.cells (aV x) 32)).alloc (.cells (aV y) 32)).drew (w.heap.size + 1) 1 (yL y.b)) := Lib.hid (fun j u h => RY.out j u h)
  clear b0 hX hY
  go_enter Tryd.func49, Tryd.ntmps49
  by_cases hv : x.v = y.v
  · have hL := cmp_lt x.b y.b hx hy (by rw [x.hb, y.hb])
    have HL := Lib.hid (show ltA x y = decide (cmpA x y < 0) by unfold ltA cmpA; rw [if_pos hv, hL])
    have hb : (x.v != y.v) = false := by simpa using hv
    clear hv hL
    go_wp2_with fail
    go_region_held3 (fun W => W.rangeAt w.heap.size 1 (yL x.b) ∧ W.rangeAt (w.heap.size + 1) 1 (yL y.b)) (exact ⟨RX.out, RY.out⟩) ((go_at_call 57; refine (compare_calls _ _ _ _ x y _ RX2.out RY2.out).mono ?_; rintro e w1 ⟨rfl, rfl⟩))
    all_goals
      go_wp2_with fail
      go_ret
      exact ⟨by rw [HL.out]; rfl, 1, #[.cells (aV x) 32 (0, 0), .cells (aV y) 32 (0, 0)], by rw [alloc_eq_grow, alloc_eq_grow, grow_grow]; rfl⟩
  · have HL := Lib.hid (show ltA x y = decide (x.v < y.v) from if_neg hv)
    have hb : (x.v != y.v) = true := by simpa using hv
    go_wp2_with fail
    go_ret
    exact ⟨by rw [HL.out]; rfl, 0, #[.cells (aV x) 32 (0, 0), .cells (aV y) 32 (0, 0)], by rw [alloc_eq_grow, alloc_eq_grow, grow_grow]; rfl⟩
set_option maxHeartbeats 4000000 in
theorem cmp_closure (x y : Ad) (hx : BOk x) (hy : BOk y) (w : World) :
    Calls Tryd.prog 48 #[.agg (aV x), .agg (aV y)] w fun e w' => e = .returned (.int .i64 (cfA x y)) ∧ ∃ q os', w' = grow (w.drewN q) os' := by
  have b0 := heap_alloc_old (w.alloc (.cells (aV x) 32)) (.cells (aV y) 32) (show w.heap.size < (w.alloc (.cells (aV x) 32)).heap.size by simp)
  have hX := b0.trans (heap_alloc_new w (.cells (aV x) 32))
  have hY := heap_alloc_new (w.alloc (.cells (aV x) 32)) (.cells (aV y) 32)
  replace hY : ((w.alloc (.cells (aV x) 32)).alloc (.cells (aV y) 32)).heap[w.heap.size + 1]? = some (.cells (aV y) 32 (0, 0)) := by simpa using hY
  have RX := Lib.hid (range_A hX)
  have RY := Lib.hid (range_A hY)
  have HC := Lib.hid (less_calls x y hx hy ((w.alloc (.cells (aV x) 32)).alloc (.cells (aV y) 32)))
  have HG : Hid (∃ q os', (w.alloc (.cells (aV x) 32)).alloc (.cells (aV y) 32) = grow (w.drewN q) os') := Lib.hid ⟨0, #[.cells (aV x) 32 (0, 0), .cells (aV y) 32 (0, 0)], by rw [alloc_eq_grow, alloc_eq_grow, grow_grow]; rfl⟩
  clear b0 hX hY
  go_enter Tryd.func48, Tryd.ntmps48
  cases hq : ltA x y with
  | true =>
    have HF := Lib.hid (show cfA x y = -1 by unfold cfA; rw [hq]; rfl)
    rw [hq] at HC
    clear hq
    go_wp2_with (first | (refine gate_ (.load 32 (.tmp 2)) rfl ?_; go_must (refine ld_A (.tmp 2) rfl rfl RX.out rfl ?_)) | (refine gate_ (.load 32 (.tmp 3)) rfl ?_; go_must (refine ld_A (.tmp 3) rfl rfl RY.out rfl ?_)) | (go_at_call 49; refine HC.out.mono ?_; rintro e w1 ⟨rfl, hg⟩; have HG2 := Lib.hid hg; clear hg))
    go_ret
    obtain ⟨q, os, e⟩ := HG.out
    obtain ⟨q2, os2, e2⟩ := HG2.out
    exact ⟨by rw [HF.out]; rfl, q + q2, os ++ os2, by rw [e2, e]; unfold grow World.drewN; simp [Nat.add_assoc]⟩
  | false =>
    have HF := Lib.hid (show cfA x y = 1 by unfold cfA; rw [hq]; rfl)
    rw [hq] at HC
    clear hq
    go_wp2_with (first | (refine gate_ (.load 32 (.tmp 2)) rfl ?_; go_must (refine ld_A (.tmp 2) rfl rfl RX.out rfl ?_)) | (refine gate_ (.load 32 (.tmp 3)) rfl ?_; go_must (refine ld_A (.tmp 3) rfl rfl RY.out rfl ?_)) | (go_at_call 49; refine HC.out.mono ?_; rintro e w1 ⟨rfl, hg⟩; have HG2 := Lib.hid hg; clear hg))
    go_ret
    obtain ⟨q, os, e⟩ := HG.out
    obtain ⟨q2, os2, e2⟩ := HG2.out
    exact ⟨by rw [HF.out]; rfl, q + q2, os ++ os2, by rw [e2, e]; unfold grow World.drewN; simp [Nat.add_assoc]⟩
end Go.Proofs.YtdinkhhaomblcaaDoor.SL
