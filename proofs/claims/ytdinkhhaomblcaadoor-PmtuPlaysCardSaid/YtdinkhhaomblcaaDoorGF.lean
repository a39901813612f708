/- The walk of alive. No condition but that the table stands in its variable. -/
import Derived.Test.YtdinkhhaomblcaaDoorGE
namespace Go.Proofs.YtdinkhhaomblcaaDoor.SL
open Go.RowKit Go.Proofs.YtdinkhhaomblcaaDoorW.PrintWords Go.Proofs.YtdinkhhaomblcaaDoorW.PrintLast Go.Proofs.YtdinkhhaomblcaaDoorW.PrintMore
theorem St.tab (w : World) (hT : Tab w) : St w w [obG] := St.read (fun o ho => by obtain rfl := List.mem_singleton.1 ho; rfl) (fun o ho => by obtain rfl := List.mem_singleton.1 ho; exact hT)
attribute [-go_sem] loadVar Instr.buildSlice
attribute [local go_sem] lv3 bls_A
attribute [local go_sem ↓] Go.wp_at_zero Go.wp_at_succ
set_option maxHeartbeats 8000000 in
set_option maxRecDepth 100000 in
theorem alive_calls (w : World) (hT : Tab w) : Calls Tryd.prog 9 #[] w fun e w' => e = .returned (.bool true) ∧ Below w.heap.size w w' := by
  have HS : Hid (St w w [obG]) := Lib.hid (St.tab w hT)
  clear hT
  go_enter Tryd.func9, Tryd.ntmps9
  go_wp2_with (first
    | (go_at_call 10; refine (c_new_yes HS.out 2 100 (by omega)).mono ?_; rintro e w1 ⟨p, b, rfl, hs⟩; have HS1 : Hid (St w w1 [obG, obC p b l0]) := Lib.hid hs; clear hs)
    | (go_at_call 28; refine (c_four HS1.out _).mono ?_; rintro e w2 ⟨rfl, hs⟩; have HS2 := Lib.hid hs; clear hs HS1)
    | (refine gate_ (.alloc 32) rfl ?_; go_must (refine wpList_alloc_B rfl 32 rfl _ zeroA _ rfl HS2.out ?_; intro w3 hz hs; clear hz; have HS3 := Lib.hid hs; clear hs HS2))
    | (refine gate_ (.store 32 (.tmp 3) (.tmp 29)) rfl ?_; go_must (refine wpList_store_B HS3.out 2 rfl rfl rfl 32 (.tmp 3) (.tmp 29) rfl (aV (fA 1)) rfl rfl (by rw [aV_size]; exact sizA) (by rw [aV_size]; exact aV_size _) (aV_one _) ?_; intro w4 hs; replace HS : Hid (St w w4 [obG, obC p b l0, obB w2.heap.size (aV (fA 1)) 32]) := Lib.hid hs; clear hs HS3))
    | (refine gate_ (.load 32 (.tmp 3)) rfl ?_; go_must (refine ld_A (.tmp 3) rfl rfl (range_A (HS.out.get 2 rfl)) rfl ?_))
    | (go_at_call 27; refine (c_hearK HS.out 1 rfl 0 rfl o0 (by decide) (fA 1) 1500 576 1500 0 r1).mono ?_; rintro e w5 ⟨rfl, hs⟩; replace HS : Hid (St w w5 [obG, obC p b l1, obB w2.heap.size (aV (fA 1)) 32]) := Lib.hid hs; clear hs)
    | (go_at_call 27; refine (c_hearK HS.out 1 rfl 0 rfl o1 (by decide) (fA 1) 1500 576 1500 0 r2).mono ?_; rintro e w5 ⟨rfl, hs⟩; replace HS : Hid (St w w5 [obG, obC p b l1, obB w2.heap.size (aV (fA 1)) 32]) := Lib.hid hs; clear hs)
    | (go_at_call 26; refine (c_getK HS.out 1 rfl (fA 1) 1500 r3).mono ?_; rintro e w5 ⟨rfl, hs⟩; replace HS := Lib.hid hs; clear hs))
  have HSd : Hid (St w w5.drew [obG, obC p b l1, obB w2.heap.size (aV (fA 1)) 32]) := Lib.hid HS.out.drew
  have HSb : Hid (St w (w5.drew.alloc (.cells (aV (fA 1)) 32)) [obG, obC p b l1, obB w2.heap.size (aV (fA 1)) 32, obB w5.heap.size (aV (fA 1)) 32]) := Lib.hid (HSd.out.box _ _)
  have hLD : ∀ W : World, W.rangeAt w2.heap.size 0 (aL (fA 1)) → (loadVar 32 ⟨w2.heap.size, 0, none⟩).run Tryd.prog W = .ok (.agg (aV (fA 1))) W := fun W h => lvA h
  go_region_held3 (fun W => W.rangeAt w2.heap.size 0 (aL (fA 1)))
    (first | exact range_A (HS.out.get 2 rfl) | exact range_A (HSd.out.get 2 rfl) | exact range_A (HSb.out.get 2 rfl) | exact range_A (HSA.out.get 2 rfl) | exact range_A ((HSA.out.alloc0 _).get 2 rfl) | exact range_A (HSZ.out.get 2 rfl))
    (first
      | (go_at_call 14; refine (c_allK HSd.out 1 rfl o1 a1 r4).mono ?_; rintro e w6 ⟨A1, n1, rfl, hs⟩; have HSA : Hid (St w w6 [obG, obC p b l1, obB w2.heap.size (aV (fA 1)) 32, obAd (.slice A1 1 n1) [fA 1]]) := Lib.hid hs; have HSR := Lib.hid (hs.box (aV (fA 1)) 32); clear hs)
      | (go_at_call 14; refine (c_allK HSb.out 1 rfl o1 a1 r4).mono ?_; rintro e w6 ⟨A1, n1, rfl, hs⟩; have HSA : Hid (St w w6 [obG, obC p b l1, obB w2.heap.size (aV (fA 1)) 32, obB w5.heap.size (aV (fA 1)) 32, obAd (.slice A1 1 n1) [fA 1]]) := Lib.hid hs; clear hs)
      | (go_at_call 13; refine (c_same HSR.out (HSR.out.rd 3 rfl) (RdA.one (HSR.out.get 4 rfl)) (by decide) (r := true) (by decide)).mono ?_; rintro e w7 ⟨rfl, hs⟩; have HSZ : Hid (St w w7 [obG, obC p b l1, obB w2.heap.size (aV (fA 1)) 32]) := Lib.hid (St.front (Γ := [_, _, _]) (Δ := [_, _]) hs); clear hs)
      | (go_at_call 13; refine (c_same HSA.out (HSA.out.rd 4 rfl) (RdA.one (HSA.out.get 3 rfl)) (by decide) (r := true) (by decide)).mono ?_; rintro e w7 ⟨rfl, hs⟩; have HSZ : Hid (St w w7 [obG, obC p b l1, obB w2.heap.size (aV (fA 1)) 32]) := Lib.hid (St.front (Γ := [_, _, _]) (Δ := [_, _]) hs); clear hs))
  all_goals
    go_wp2_with (first
      | (refine gate_ (.load 32 (.tmp 3)) rfl ?_; first | (refine ld_A (.tmp 3) rfl rfl (range_A (HS2.out.get 2 rfl)) rfl ?_) | (refine wpList_guarded (by rfl) ?_; refine ld_A (.tmp 3) rfl rfl (range_A (HS3.out.get 2 rfl)) rfl ?_))
      | (go_at_call 19; refine (c_tickK HSZ.out 1 rfl 0 rfl o1 a1 99 r5 r6).mono ?_; rintro e w8 ⟨A2, n2, rfl, hs⟩; have HS1 : Hid (St w w8 [obG, obC p b l2, obB w2.heap.size (aV (fA 1)) 32, obAd (.slice A2 0 n2) []]) := Lib.hid hs; clear hs HSZ)
      | (go_at_call 19; refine (c_tickK HS1.out 1 rfl 0 rfl o2 a2 100 r7 r8).mono ?_; rintro e w9 ⟨A3, n3, rfl, hs⟩; have HS2 : Hid (St w w9 [obG, obC p b l3, obB w2.heap.size (aV (fA 1)) 32, obAd (.slice A2 0 n2) [], obAd (.slice A3 1 n3) [fA 1]]) := Lib.hid hs; clear hs HS1)
      | (go_at_call 26; refine (c_getK HS2.out 1 rfl (fA 1) 1500 r9).mono ?_; rintro e w10 ⟨rfl, hs⟩; replace HS2 := Lib.hid hs; clear hs)
      | (go_at_call 19; refine (c_tickK HS2.out 1 rfl 0 rfl o3 a3 99 r10 r11).mono ?_; rintro e w11 ⟨A4, n4, rfl, hs⟩; have HS3 : Hid (St w w11 [obG, obC p b l3, obB w2.heap.size (aV (fA 1)) 32, obAd (.slice A2 0 n2) [], obAd (.slice A3 1 n3) [fA 1], obAd (.slice A4 0 n4) []]) := Lib.hid hs; clear hs HS2; have HSQ := Lib.hid (HS3.out.box (aV (fA 1)) 32))
      | (go_at_call 13; refine (c_same HSQ.out (HSQ.out.rd 4 rfl) (RdA.one (HSQ.out.get 6 rfl)) (by decide) (r := true) (by decide)).mono ?_; rintro e w12 ⟨rfl, hs⟩; have HS4 := Lib.hid hs; clear hs))
    go_ret
    exact ⟨rfl, HS4.out.bl⟩
end Go.Proofs.YtdinkhhaomblcaaDoor.SL
