/- The walks of free and Find. No condition but sizes. -/
import Derived.Test.YtgcafklieblldaaB2
namespace Go.Proofs.Ytgcafklieblldaa.SL
open Go.RowKit Go.Proofs.YtgcafklieblldaaW.PrintWords Go.Proofs.YtgcafklieblldaaW.PrintLast Go.Proofs.YtgcafklieblldaaW.PrintMore
def freeFrom (l : List Bd) (a : Ad) : Nat → Int → Int
  | 0, _ => 0
  | n + 1, q => if findB l ⟨a, q⟩ = 0 then q else freeFrom l a n (q + 1)
def freeB (l : List Bd) (a : Ad) : Int := freeFrom l a 16384 49152
def findP (l : List Bd) (a : Ad) (port : Int) : Int := if 0 < findB l ⟨a, port⟩ then findB l ⟨a, port⟩ else findB l ⟨zA a.v, port⟩
set_option maxHeartbeats 2000000 in
theorem free_calls (p : Nat) (v : Value) (most g : Int) (l : List Bd) (a : Ad) (w : World) (h : TAt w p v most g l) :
    Calls Try.prog 22 #[.pointer (some ⟨p, 0, none⟩), .agg (aV a)] w fun e w' => e = .returned (.int .i64 (freeB l a)) ∧ Below w.heap.size w w' := by
  have hB0 : Below w.heap.size w (w.alloc (.cells (aV a) 32)) := ((Touch.refl [] w).alloc _).below
  have HT := Lib.hid (h.below hB0)
  have HB := Lib.hid hB0
  clear h hB0
  go_enter Try.func22, Try.ntmps22
  go_wp2_with fail
  generalize hW : w.alloc (.cells (aV a) 32) = W at HB HT ⊢
  have hBW : W.heap[w.heap.size]? = some (.cells (aV a) 32 (0, 0)) := by rw [← hW]; exact heap_alloc_new w _
  have HX := Lib.hid hBW
  have hBs : w.heap.size < W.heap.size := lt_of_block hBW
  clear hW hBW
  generalize hBe : w.heap.size = B at HX hBs ⊢
  have HE := Lib.hid hBe
  clear hBe
  go_loopw [5] (fun i wr => ∃ k : Nat, k ≤ 16384 ∧ i = .int .i64 (49152 + k) ∧ Hid (Below W.heap.size W wr) ∧ Hid (freeB l a = freeFrom l a (16384 - k) (49152 + k))) (fun i _ => 65536 - (intOf i).toNat)
  case atStart => exact ⟨0, Nat.zero_le _, rfl, Lib.hid (Below.refl _ _), Lib.hid rfl⟩
  case round =>
    obtain ⟨k, hk, rfl, BW, AA⟩ := hrel
    have HR := Lib.hid (range_A ((BW.out.block B hBs).trans HX.out))
    have hT := HT.out.below BW.out
    have HC := Lib.hid (at_calls p v most g l ⟨a, 49152 + k⟩ wr hT)
    clear hT
    by_cases hlt : k < 16384
    · have hltz : 49152 + (k : Int) ≤ 65535 := by omega
      have e1 : 16384 - k = (16384 - (k + 1)) + 1 := by omega
      by_cases hq : findB l ⟨a, 49152 + k⟩ = 0
      · have hA := AA.out
        rw [e1, freeFrom, if_pos hq] at hA
        have HA := Lib.hid hA
        rw [hq] at HC
        clear hq hA e1 AA
        go_wp2_with (first | (refine gate_ (.load 32 (.tmp 3)) rfl ?_; go_must (refine ld_A (.tmp 3) rfl rfl HR.out rfl ?_)) | (refine gate_ (.build 64 #[(0, .tmp 11), (1, .tmp 12)]) rfl ?_; go_must (refine wpList_buildA rfl 64 #[(0, .tmp 11), (1, .tmp 12)] rfl [(0, .agg (aV a)), (1, .int .i64 (49152 + (k : Int)))] rfl (built_pl a (49152 + (k : Int))) ?_)) | (go_at_call 21; refine HC.out.mono ?_; rintro e w' ⟨rfl, hb'⟩))
        go_ret
        refine ⟨?_, HB.out.trans ((BW.out.trans (hb'.mono BW.out.size)).mono (by rw [HE.out]; exact Nat.le_of_lt hBs))⟩
        rw [HA.out]
        rfl
      · have hA := AA.out
        rw [e1, freeFrom, if_neg hq] at hA
        have HA := Lib.hid hA
        have hd : (findB l ⟨a, 49152 + k⟩ == 0) = false := by simpa using hq
        generalize findB l ⟨a, 49152 + k⟩ = f at HC hd
        clear hq hA e1 AA
        go_wp2_with (first | (refine gate_ (.load 32 (.tmp 3)) rfl ?_; go_must (refine ld_A (.tmp 3) rfl rfl HR.out rfl ?_)) | (refine gate_ (.build 64 #[(0, .tmp 11), (1, .tmp 12)]) rfl ?_; go_must (refine wpList_buildA rfl 64 #[(0, .tmp 11), (1, .tmp 12)] rfl [(0, .agg (aV a)), (1, .int .i64 (49152 + (k : Int)))] rfl (built_pl a (49152 + (k : Int))) ?_)) | (go_at_call 21; refine HC.out.mono ?_; rintro e w' ⟨rfl, hb'⟩))
        go_roundw
        case rel => exact ⟨k + 1, by omega, by congr 1, Lib.hid (BW.out.trans (hb'.mono BW.out.size)), Lib.hid (by rw [HA.out]; congr 1)⟩
        case measure => simp [intOf]; omega
    · have hltz : ¬ (49152 + (k : Int) ≤ 65535) := by omega
      have hkx : k = 16384 := by omega
      have hA := AA.out
      rw [hkx, Nat.sub_self, freeFrom] at hA
      have HA := Lib.hid hA
      clear hkx hA AA
      go_wp2
      go_ret
      refine ⟨?_, HB.out.trans (BW.out.mono (by rw [HE.out]; exact Nat.le_of_lt hBs))⟩
      rw [HA.out]
      rfl
set_option maxHeartbeats 2000000 in
theorem find_calls (p : Nat) (v : Value) (most g : Int) (l : List Bd) (a : Ad) (port : Int) (w : World) (h : TAt w p v most g l) :
    Calls Try.prog 18 #[.pointer (some ⟨p, 0, none⟩), .agg (aV a), .int .i64 port] w fun e w' => e = .returned (.int .i64 (findP l a port)) ∧ Below w.heap.size w w' := by
  have hB0 : Below w.heap.size w (w.alloc (.cells (aV a) 32)) := ((Touch.refl [] w).alloc _).below
  have HT := Lib.hid (h.below hB0)
  have HB := Lib.hid hB0
  clear h hB0
  go_enter Try.func18, Try.ntmps18
  have HR := Lib.hid (range_A (heap_alloc_new w (.cells (aV a) 32)))
  have HC := Lib.hid (at_calls p v most g l ⟨a, port⟩ _ HT.out)
  by_cases hq : 0 < findB l ⟨a, port⟩
  · have hd : decide (findB l ⟨a, port⟩ > 0) = true := decide_eq_true hq
    have HA := Lib.hid (show findP l a port = findB l ⟨a, port⟩ from if_pos hq)
    generalize findB l ⟨a, port⟩ = f at HC hd hq HA
    go_wp2_with (first | (refine gate_ (.load 32 (.tmp 4)) rfl ?_; go_must (refine ld_A (.tmp 4) rfl rfl HR.out rfl ?_)) | (refine gate_ (.build 64 #[(0, .tmp 9), (1, .tmp 10)]) rfl ?_; go_must (refine wpList_buildA rfl 64 #[(0, .tmp 9), (1, .tmp 10)] rfl [(0, .agg (aV a)), (1, .int .i64 port)] rfl (built_pl a port) ?_)) | (go_at_call 21; refine HC.out.mono ?_; rintro e w' ⟨rfl, hb'⟩))
    go_ret
    refine ⟨by rw [HA.out]; rfl, HB.out.trans (hb'.mono HB.out.size)⟩
  · have hd : decide (findB l ⟨a, port⟩ > 0) = false := decide_eq_false hq
    have HA := Lib.hid (show findP l a port = findB l ⟨zA a.v, port⟩ from if_neg hq)
    generalize findB l ⟨a, port⟩ = f at HC hd hq
    have hV := cell_of_row _ _ 0 _ _ _ (heap_alloc_new w (.cells (aV a) 32))
    replace hV : (w.alloc (.cells (aV a) 32)).cell? ⟨w.heap.size, 0, none⟩ = some (.int .i64 a.v) := hV
    have hs : w.heap.size < (w.alloc (.cells (aV a) 32)).heap.size := lt_of_block (heap_alloc_new w _)
    have HC2 := Lib.hid (HC.out.mono fun e w' (h : _ ∧ _) => (⟨h.1, (World.cell?_of_block (h.2.block w.heap.size hs)).trans hV, h.2⟩ : _ ∧ w'.cell? ⟨w.heap.size, 0, none⟩ = some (.int .i64 a.v) ∧ _))
    have HC3 := Lib.hid (fun w' (hb : Below (w.alloc (.cells (aV a) 32)).heap.size (w.alloc (.cells (aV a) 32)) w') => at_calls p v most g l ⟨zA a.v, port⟩ w' (HT.out.below hb))
    clear HC hV hs
    go_wp2_with (first | (refine gate_ (.load 32 (.tmp 4)) rfl ?_; go_must (refine ld_A (.tmp 4) rfl rfl HR.out rfl ?_)) | (refine gate_ (.build 64 #[(0, .tmp 9), (1, .tmp 10)]) rfl ?_; go_must (refine wpList_buildA rfl 64 #[(0, .tmp 9), (1, .tmp 10)] rfl [(0, .agg (aV a)), (1, .int .i64 port)] rfl (built_pl a port) ?_)) | (refine gate_ (.build 32 #[(0, .tmp 18)]) rfl ?_; go_must (refine wpList_buildA rfl 32 #[(0, .tmp 18)] rfl [(0, .int .i64 a.v)] rfl (built_z a.v) ?_)) | (refine gate_ (.build 64 #[(0, .tmp 19), (1, .tmp 20)]) rfl ?_; go_must (refine wpList_buildA rfl 64 #[(0, .tmp 19), (1, .tmp 20)] rfl [(0, .agg (aV (zA a.v))), (1, .int .i64 port)] rfl (built_pl (zA a.v) port) ?_)) | (go_at_call 21; with_reducible refine HC2.out.mono ?_; rintro e w' ⟨rfl, c0, hb'⟩) | (go_at_call 21; refine (HC3.out _ hb').mono ?_; rintro e w2 ⟨rfl, hb2⟩))
    go_ret
    refine ⟨by rw [HA.out]; rfl, HB.out.trans ((hb'.trans (hb2.mono hb'.size)).mono HB.out.size)⟩
end Go.Proofs.Ytgcafklieblldaa.SL
