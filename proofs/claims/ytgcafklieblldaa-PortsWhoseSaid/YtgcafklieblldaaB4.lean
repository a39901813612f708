/- The walks of addr's bits, Valid and Kind. No condition. -/
import Derived.Test.YtgcafklieblldaaB3
namespace Go.Proofs.Ytgcafklieblldaa.SL
open Go.RowKit Go.Proofs.YtgcafklieblldaaW.PrintWords Go.Proofs.YtgcafklieblldaaW.PrintLast Go.Proofs.YtgcafklieblldaaW.PrintMore
def yL (b : List Int) : List Value := b.map (.int .u8 ·)
def yV (b : List Int) : Array Value := (yL b).toArray
theorem yL_len (b : List Int) (h : b.length = 16) : (yL b).length = 16 := by unfold yL; rw [List.length_map, h]
theorem yV_at (b : List Int) (hb : b.length = 16) (i : Nat) (h : i < 16) : (yV b)[i]? = some (.int .u8 (b.getD i 0)) := by
  unfold yV yL
  simp [List.getD_eq_getElem?_getD, show i < b.length by omega]
theorem eqBy (w : World) (d : Nat) (x y : List Int) (hx : x.length = 16) (hy : y.length = 16) : (Op.equalIn (d + 2) 30 (.agg (yV x)) (.agg (yV y))).run Try.prog w = .ok (decide (x = y)) w := by
  obtain ⟨i, hi⟩ := info_of_underlying Try.underlying5
  rw [run_equalIn_array (P := Try.prog) w (d + 1) _ _ Try.underlying30 hi, cells1, eqItems_ints w d 5 .u8 Try.underlying5 _ _ (fun i => x.getD i 0) (fun i => y.getD i 0) (List.range 16) (fun j hj => ⟨yV_at x hx j (List.mem_range.1 hj), yV_at y hy j (List.mem_range.1 hj)⟩), bytes_eq x y hx hy]
theorem eql_by (w : World) (x y : List Int) (hx : x.length = 16) (hy : y.length = 16) : (binOp .eql 30 (.agg (yV x)) (.agg (yV y))).run Try.prog w = .ok (.bool (decide (x = y))) w := by
  rw [run_eql_struct, show (10000 : Nat) = 9998 + 2 from rfl, eqBy w _ x y hx hy]; rfl
theorem sizY : (Try.prog.info? 30).map (·.size) = some 16 := by kernel_rfl
section
variable {ops : Array Oper} {rest : List Oper} {o : Oper} {a : Act} {Q : Exit → Act → World → Prop} {w W : World}
theorem ld_Y (x : Operand) (hgd : o.guard = none) (ho : o.op = .load 30 x) {b k : Nat} {y : List Int} (hy : y.length = 16) (hc : w.rangeAt b k (yL y)) (hx : a.eval x = .pointer (some ⟨b, k, none⟩)) (h : wpList Try.prog ops Q rest (a.put o.dst (.agg (yV y))) w) : wpList Try.prog ops Q (o :: rest) a w :=
  wpList_load_mid hgd _ x ho b k hx (yL y) _ hc Try.underlying30 rfl (by rw [yL_len y hy]; exact sizY) h
end
theorem range_Y {w : World} {b : Nat} {y : Ad} {T : TypeId} {fr : Nat × Nat} (h : w.heap[b]? = some (.cells (aV y) T fr)) : w.rangeAt b 1 (yL y.b) := rangeAt_row h 1 _ fun j u hu => by
  unfold aV aL
  rw [List.getElem?_toArray, Nat.add_comm, List.getElem?_cons_succ]
  exact hu
theorem cell_V {w : World} {b : Nat} {y : Ad} {T : TypeId} {fr : Nat × Nat} (h : w.heap[b]? = some (.cells (aV y) T fr)) : w.cell? ⟨b, 0, none⟩ = some (.int .i64 y.v) := by
  rw [cell_of_row _ _ _ _ _ _ h]; rfl
theorem cell_Y {w : World} {b : Nat} {y : Ad} {T : TypeId} {fr : Nat × Nat} (h : w.heap[b]? = some (.cells (aV y) T fr)) (i : Nat) (hi : i < 16) : w.cell? ⟨b, i + 1, none⟩ = some (.int .u8 (y.b.getD i 0)) := by
  rw [cell_of_row _ _ _ _ _ _ h]; exact aV_at y i hi
def bitsA (a : Ad) : Int := if a.v = 4 then (if (a.b.drop 4).all (· == 0) then 32 else 0) else if a.v = 6 then 128 else 0
set_option maxHeartbeats 2000000 in
theorem bits_calls (a : Ad) (w : World) :
    Calls Try.prog 36 #[.agg (aV a)] w fun e w' => e = .returned (.int .i64 (bitsA a)) ∧ Below w.heap.size w w' := by
  have hB0 : Below w.heap.size w (w.alloc (.cells (aV a) 32)) := ((Touch.refl [] w).alloc _).below
  have HB := Lib.hid hB0
  have hb := heap_alloc_new w (.cells (aV a) 32)
  have v0 := cell_V hb
  have HX := Lib.hid hb
  clear hB0 hb
  go_enter Try.func36, Try.ntmps36
  by_cases h4 : a.v = 4
  · have hd : (a.v == 4) = true := by simpa using h4
    go_wp2_with fail
    generalize hW : w.alloc (.cells (aV a) 32) = W at HB HX v0 ⊢
    generalize w.heap.size = B at HX v0 ⊢
    clear hW v0
    go_loopw [4, 12] (fun _ i wr => ∃ k : Nat, k ≤ 12 ∧ i = .int .i64 k ∧ wr = W ∧ Hid (∀ j, j < k → a.b.getD (4 + j) 0 = 0)) (fun _ i _ => 12 - (intOf i).toNat)
    case atStart => exact ⟨0, by omega, rfl, rfl, Lib.hid (fun j hj => absurd hj (Nat.not_lt_zero _))⟩
    case round =>
      obtain ⟨k, hk, rfl, rfl, AA⟩ := hrel
      by_cases hlt : k < 12
      · have hltz : (k : Int) < 12 := by omega
        have c0 := cell_Y HX.out (4 + k) (by omega)
        rw [show 4 + k + 1 = 5 + k by omega] at c0
        generalize hy : a.b.getD (4 + k) 0 = y at c0
        have HY := Lib.hid hy
        clear hy
        by_cases hq : y = 0
        · have hq' : (y == 0) = true := by simpa using hq
          go_wp2_with fail
          go_roundw
          case rel => exact ⟨k + 1, by omega, by go_num, by trivial, Lib.hid (fun j hj => by
            by_cases e : j = k
            · subst e; rw [HY.out]; exact hq
            · exact AA.out j (by omega))⟩
          case measure => simp [intOf]; omega
        · have hq' : (y == 0) = false := by simpa using hq
          go_wp2_with fail
          go_ret
          refine ⟨?_, HB.out⟩
          have : bitsA a = 0 := by
            unfold bitsA
            rw [if_pos h4, if_neg]
            intro hall
            rw [List.all_eq_true] at hall
            apply hq
            have hb := a.hb
            have hm : (a.b.drop 4)[k]? = some y := by
              rw [List.getElem?_drop, List.getElem?_eq_getElem (by omega)]
              rw [← HY.out, List.getD_eq_getElem?_getD, List.getElem?_eq_getElem (by omega)]
              rfl
            simpa using hall y (List.mem_of_getElem? hm)
          rw [this]
          rfl
      · have hltz : ¬ (k : Int) < 12 := by omega
        have hkx : k = 12 := by omega
        go_wp2
        go_ret
        refine ⟨?_, HB.out⟩
        have : bitsA a = 32 := by
          unfold bitsA
          rw [if_pos h4, if_pos]
          rw [List.all_eq_true]
          intro x hx
          obtain ⟨j, hj, rfl⟩ := List.getElem_of_mem hx
          have hb := a.hb
          rw [List.length_drop] at hj
          have := AA.out j (by omega)
          rw [List.getD_eq_getElem?_getD, List.getElem?_eq_getElem (by omega)] at this
          simpa using this
        rw [this]
        rfl
  · have hd : (a.v == 4) = false := by simpa using h4
    by_cases h6 : a.v = 6
    · have hd6 : (a.v == 6) = true := by simpa using h6
      go_wp2_with fail
      go_ret
      refine ⟨?_, HB.out⟩
      rw [show bitsA a = 128 by unfold bitsA; rw [if_neg h4, if_pos h6]]
      rfl
    · have hd6 : (a.v == 6) = false := by simpa using h6
      go_wp2_with fail
      go_ret
      refine ⟨?_, HB.out⟩
      rw [show bitsA a = 0 by unfold bitsA; rw [if_neg h4, if_neg h6]]
      rfl
def validA (a : Ad) : Bool := decide (0 < bitsA a)
theorem valid_calls (a : Ad) (w : World) :
    Calls Try.prog 30 #[.agg (aV a)] w fun e w' => e = .returned (.bool (validA a)) ∧ Below w.heap.size w w' := by
  have hB0 : Below w.heap.size w (w.alloc (.cells (aV a) 32)) := ((Touch.refl [] w).alloc _).below
  have HB := Lib.hid hB0
  have HR := Lib.hid (range_A (heap_alloc_new w (.cells (aV a) 32)))
  have HC := Lib.hid (bits_calls a (w.alloc (.cells (aV a) 32)))
  have HV := Lib.hid (show validA a = decide (0 < bitsA a) from rfl)
  generalize bitsA a = f at HC HV
  clear hB0
  go_enter Try.func30, Try.ntmps30
  go_wp2_with (first | (refine gate_ (.load 32 (.tmp 1)) rfl ?_; go_must (refine ld_A (.tmp 1) rfl rfl HR.out rfl ?_)) | (go_at_call 36; refine HC.out.mono ?_; rintro e w' ⟨rfl, hb'⟩))
  go_ret
  refine ⟨by rw [HV.out]; rfl, HB.out.trans (hb'.mono HB.out.size)⟩
def z16 : List Int := List.replicate 16 0
def o16 : List Int := List.replicate 15 0 ++ [1]
def f16 : List Int := [255, 255, 255, 255] ++ List.replicate 12 0
theorem built_y0 : Try.prog.built 30 [] = some (yV z16) := by kernel_rfl
theorem built_y1 : Try.prog.built 30 [(15, .int .u8 1)] = some (yV o16) := by kernel_rfl
theorem built_y2 : Try.prog.built 30 [(0, .int .u8 255), (1, .int .u8 255), (2, .int .u8 255), (3, .int .u8 255)] = some (yV f16) := by kernel_rfl
theorem eql_y0 (w : World) (a : Ad) : (binOp .eql 30 (.agg (yV a.b)) (.agg (yV z16))).run Try.prog w = .ok (.bool (decide (a.b = z16))) w := eql_by w _ _ a.hb rfl
theorem eql_y1 (w : World) (a : Ad) : (binOp .eql 30 (.agg (yV a.b)) (.agg (yV o16))).run Try.prog w = .ok (.bool (decide (a.b = o16))) w := eql_by w _ _ a.hb rfl
theorem eql_y2 (w : World) (a : Ad) : (binOp .eql 30 (.agg (yV a.b)) (.agg (yV f16))).run Try.prog w = .ok (.bool (decide (a.b = f16))) w := eql_by w _ _ a.hb rfl
attribute [local go_sem high] eql_y0 eql_y1 eql_y2
def kindK (bv : Bool) (b0 : Int) (a : Ad) : Int := if bv = false then 0 else if a.b = z16 then 1 else if a.v = 6 then (if a.b = o16 then 2 else if b0 = 255 then 3 else 5)
  else if b0 = 127 then 2 else if 224 ≤ b0 ∧ b0 ≤ 239 then 3 else if a.b = f16 then 4 else 5
theorem oz16 : o16 ≠ z16 := by decide
theorem fz16 : f16 ≠ z16 := by decide
/-- The kind of an address. -/
def kindA (a : Ad) : Int := kindK (validA a) (a.b.getD 0 0) a
set_option maxHeartbeats 4000000 in
theorem kind_calls (a : Ad) (w : World) :
    Calls Try.prog 16 #[.agg (aV a)] w fun e w' => e = .returned (.int .i64 (kindA a)) ∧ Below w.heap.size w w' := by
  have hB0 : Below w.heap.size w (w.alloc (.cells (aV a) 32)) := ((Touch.refl [] w).alloc _).below
  have HB := Lib.hid hB0
  have hX := heap_alloc_new w (.cells (aV a) 32)
  have hs := lt_of_block hX
  have HR := Lib.hid (range_A hX)
  have HC : Hid (Calls Try.prog 30 #[.agg (aV a)] (w.alloc (.cells (aV a) 32)) fun e w' => e = .returned (.bool (validA a)) ∧ w'.cell? ⟨w.heap.size, 0, none⟩ = some (.int .i64 a.v) ∧ w'.cell? ⟨w.heap.size, 1, none⟩ = some (.int .u8 (a.b.getD 0 0)) ∧
      Hid (w'.rangeAt w.heap.size 1 (yL a.b)) ∧ Hid (Below w.heap.size w w')) := by
    refine Lib.hid ((valid_calls a _).mono ?_)
    rintro e w' ⟨h1, h2⟩
    have hX' := (h2.block w.heap.size hs).trans hX
    exact ⟨h1, cell_V hX', cell_Y hX' 0 (by omega), Lib.hid (range_Y hX'), Lib.hid (HB.out.trans (h2.mono HB.out.size))⟩
  have HK := Lib.hid (show kindA a = kindK (validA a) (a.b.getD 0 0) a from rfl)
  have HG := Lib.hid grd_by
  generalize validA a = bv at HC HK
  generalize a.b.getD 0 0 = b0 at HC HK
  clear hB0 hX hs
  go_enter Try.func16, Try.ntmps16
  cases bv
  case false =>
    go_wp2_with (first | (refine gate_ (.load 32 (.tmp 1)) rfl ?_; go_must (refine ld_A (.tmp 1) rfl rfl HR.out rfl ?_)) | (go_at_call 30; refine HC.out.mono ?_; rintro e w' ⟨rfl, c0, c1, hR, hb'⟩) | (refine gate_ (.build 30 #[]) rfl ?_; go_must (refine wpList_buildA rfl 30 #[] rfl [] rfl built_y0 ?_)) | (refine gate_ (.build 30 #[(15, (.const (.int .u8 1)))]) rfl ?_; go_must (refine wpList_buildA rfl 30 #[(15, (.const (.int .u8 1)))] rfl [(15, .int .u8 1)] rfl built_y1 ?_)) | (refine gate_ (.build 30 #[(0, (.const (.int .u8 255))), (1, (.const (.int .u8 255))), (2, (.const (.int .u8 255))), (3, (.const (.int .u8 255)))]) rfl ?_; go_must (refine wpList_buildA rfl 30 #[(0, (.const (.int .u8 255))), (1, (.const (.int .u8 255))), (2, (.const (.int .u8 255))), (3, (.const (.int .u8 255)))] rfl [(0, .int .u8 255), (1, .int .u8 255), (2, .int .u8 255), (3, .int .u8 255)] rfl built_y2 ?_)) | (refine gate_ (.load 30 (.tmp 6)) rfl ?_; go_must (refine ld_Y (.tmp 6) rfl rfl a.hb hR.out rfl ?_)) | (refine gate_ (.load 30 (.tmp 14)) rfl ?_; go_must (refine ld_Y (.tmp 14) rfl rfl a.hb hR.out rfl ?_)) | (refine gate_ (.load 30 (.tmp 40)) rfl ?_; go_must (refine ld_Y (.tmp 40) rfl rfl a.hb hR.out rfl ?_)))
    go_ret
    refine ⟨?_, hb'.out⟩
    rw [HK.out]
    have hoz := oz16
    have hfz := fz16
    simp [kindK, *]
    try omega
    try (split <;> first | rfl | omega)
    try rfl
  case true =>
    by_cases hz : a.b = z16
    · have hz' : decide (a.b = z16) = true := by simpa using hz
      have HZ := Lib.hid hz
      clear hz
      go_wp2_with (first | (refine gate_ (.load 32 (.tmp 1)) rfl ?_; go_must (refine ld_A (.tmp 1) rfl rfl HR.out rfl ?_)) | (go_at_call 30; refine HC.out.mono ?_; rintro e w' ⟨rfl, c0, c1, hR, hb'⟩) | (refine gate_ (.build 30 #[]) rfl ?_; go_must (refine wpList_buildA rfl 30 #[] rfl [] rfl built_y0 ?_)) | (refine gate_ (.build 30 #[(15, (.const (.int .u8 1)))]) rfl ?_; go_must (refine wpList_buildA rfl 30 #[(15, (.const (.int .u8 1)))] rfl [(15, .int .u8 1)] rfl built_y1 ?_)) | (refine gate_ (.build 30 #[(0, (.const (.int .u8 255))), (1, (.const (.int .u8 255))), (2, (.const (.int .u8 255))), (3, (.const (.int .u8 255)))]) rfl ?_; go_must (refine wpList_buildA rfl 30 #[(0, (.const (.int .u8 255))), (1, (.const (.int .u8 255))), (2, (.const (.int .u8 255))), (3, (.const (.int .u8 255)))] rfl [(0, .int .u8 255), (1, .int .u8 255), (2, .int .u8 255), (3, .int .u8 255)] rfl built_y2 ?_)) | (refine gate_ (.load 30 (.tmp 6)) rfl ?_; go_must (refine ld_Y (.tmp 6) rfl rfl a.hb hR.out rfl ?_)) | (refine gate_ (.load 30 (.tmp 14)) rfl ?_; go_must (refine ld_Y (.tmp 14) rfl rfl a.hb hR.out rfl ?_)) | (refine gate_ (.load 30 (.tmp 40)) rfl ?_; go_must (refine ld_Y (.tmp 40) rfl rfl a.hb hR.out rfl ?_)))
      go_ret
      refine ⟨?_, hb'.out⟩
      rw [HK.out]
      have hz := HZ.out
      have hoz := oz16
      have hfz := fz16
      simp [kindK, *]
      try omega
      try (split <;> first | rfl | omega)
      try rfl
    · have hz' : decide (a.b = z16) = false := by simpa using hz
      have HZ := Lib.hid hz
      clear hz
      by_cases h6 : a.v = 6
      · have h6' : (a.v == 6) = true := by simpa using h6
        by_cases ho : a.b = o16
        · have ho' : decide (a.b = o16) = true := by simpa using ho
          have HO := Lib.hid ho
          clear ho
          go_wp2_with (first | (refine gate_ (.load 32 (.tmp 1)) rfl ?_; go_must (refine ld_A (.tmp 1) rfl rfl HR.out rfl ?_)) | (go_at_call 30; refine HC.out.mono ?_; rintro e w' ⟨rfl, c0, c1, hR, hb'⟩) | (refine gate_ (.build 30 #[]) rfl ?_; go_must (refine wpList_buildA rfl 30 #[] rfl [] rfl built_y0 ?_)) | (refine gate_ (.build 30 #[(15, (.const (.int .u8 1)))]) rfl ?_; go_must (refine wpList_buildA rfl 30 #[(15, (.const (.int .u8 1)))] rfl [(15, .int .u8 1)] rfl built_y1 ?_)) | (refine gate_ (.build 30 #[(0, (.const (.int .u8 255))), (1, (.const (.int .u8 255))), (2, (.const (.int .u8 255))), (3, (.const (.int .u8 255)))]) rfl ?_; go_must (refine wpList_buildA rfl 30 #[(0, (.const (.int .u8 255))), (1, (.const (.int .u8 255))), (2, (.const (.int .u8 255))), (3, (.const (.int .u8 255)))] rfl [(0, .int .u8 255), (1, .int .u8 255), (2, .int .u8 255), (3, .int .u8 255)] rfl built_y2 ?_)) | (refine gate_ (.load 30 (.tmp 6)) rfl ?_; go_must (refine ld_Y (.tmp 6) rfl rfl a.hb hR.out rfl ?_)) | (refine gate_ (.load 30 (.tmp 14)) rfl ?_; go_must (refine ld_Y (.tmp 14) rfl rfl a.hb hR.out rfl ?_)) | (refine gate_ (.load 30 (.tmp 40)) rfl ?_; go_must (refine ld_Y (.tmp 40) rfl rfl a.hb hR.out rfl ?_)))
          go_ret
          refine ⟨?_, hb'.out⟩
          rw [HK.out]
          have hz := HZ.out
          have ho := HO.out
          have hoz := oz16
          have hfz := fz16
          simp [kindK, *]
          try omega
          try (split <;> first | rfl | omega)
          try rfl
        · have ho' : decide (a.b = o16) = false := by simpa using ho
          have HO := Lib.hid ho
          clear ho
          by_cases hf : b0 = 255
          · have hf' : (b0 == 255) = true := by simpa using hf
            go_wp2_with (first | (refine gate_ (.load 32 (.tmp 1)) rfl ?_; go_must (refine ld_A (.tmp 1) rfl rfl HR.out rfl ?_)) | (go_at_call 30; refine HC.out.mono ?_; rintro e w' ⟨rfl, c0, c1, hR, hb'⟩) | (refine gate_ (.build 30 #[]) rfl ?_; go_must (refine wpList_buildA rfl 30 #[] rfl [] rfl built_y0 ?_)) | (refine gate_ (.build 30 #[(15, (.const (.int .u8 1)))]) rfl ?_; go_must (refine wpList_buildA rfl 30 #[(15, (.const (.int .u8 1)))] rfl [(15, .int .u8 1)] rfl built_y1 ?_)) | (refine gate_ (.build 30 #[(0, (.const (.int .u8 255))), (1, (.const (.int .u8 255))), (2, (.const (.int .u8 255))), (3, (.const (.int .u8 255)))]) rfl ?_; go_must (refine wpList_buildA rfl 30 #[(0, (.const (.int .u8 255))), (1, (.const (.int .u8 255))), (2, (.const (.int .u8 255))), (3, (.const (.int .u8 255)))] rfl [(0, .int .u8 255), (1, .int .u8 255), (2, .int .u8 255), (3, .int .u8 255)] rfl built_y2 ?_)) | (refine gate_ (.load 30 (.tmp 6)) rfl ?_; go_must (refine ld_Y (.tmp 6) rfl rfl a.hb hR.out rfl ?_)) | (refine gate_ (.load 30 (.tmp 14)) rfl ?_; go_must (refine ld_Y (.tmp 14) rfl rfl a.hb hR.out rfl ?_)) | (refine gate_ (.load 30 (.tmp 40)) rfl ?_; go_must (refine ld_Y (.tmp 40) rfl rfl a.hb hR.out rfl ?_)))
            go_ret
            refine ⟨?_, hb'.out⟩
            rw [HK.out]
            have hz := HZ.out
            have ho := HO.out
            have hoz := oz16
            have hfz := fz16
            simp [kindK, *]
            try omega
            try (split <;> first | rfl | omega)
            try rfl
          · have hf' : (b0 == 255) = false := by simpa using hf
            go_wp2_with (first | (refine gate_ (.load 32 (.tmp 1)) rfl ?_; go_must (refine ld_A (.tmp 1) rfl rfl HR.out rfl ?_)) | (go_at_call 30; refine HC.out.mono ?_; rintro e w' ⟨rfl, c0, c1, hR, hb'⟩) | (refine gate_ (.build 30 #[]) rfl ?_; go_must (refine wpList_buildA rfl 30 #[] rfl [] rfl built_y0 ?_)) | (refine gate_ (.build 30 #[(15, (.const (.int .u8 1)))]) rfl ?_; go_must (refine wpList_buildA rfl 30 #[(15, (.const (.int .u8 1)))] rfl [(15, .int .u8 1)] rfl built_y1 ?_)) | (refine gate_ (.build 30 #[(0, (.const (.int .u8 255))), (1, (.const (.int .u8 255))), (2, (.const (.int .u8 255))), (3, (.const (.int .u8 255)))]) rfl ?_; go_must (refine wpList_buildA rfl 30 #[(0, (.const (.int .u8 255))), (1, (.const (.int .u8 255))), (2, (.const (.int .u8 255))), (3, (.const (.int .u8 255)))] rfl [(0, .int .u8 255), (1, .int .u8 255), (2, .int .u8 255), (3, .int .u8 255)] rfl built_y2 ?_)) | (refine gate_ (.load 30 (.tmp 6)) rfl ?_; go_must (refine ld_Y (.tmp 6) rfl rfl a.hb hR.out rfl ?_)) | (refine gate_ (.load 30 (.tmp 14)) rfl ?_; go_must (refine ld_Y (.tmp 14) rfl rfl a.hb hR.out rfl ?_)) | (refine gate_ (.load 30 (.tmp 40)) rfl ?_; go_must (refine ld_Y (.tmp 40) rfl rfl a.hb hR.out rfl ?_)))
            go_ret
            refine ⟨?_, hb'.out⟩
            rw [HK.out]
            have hz := HZ.out
            have ho := HO.out
            have hoz := oz16
            have hfz := fz16
            simp [kindK, *]
            try omega
            try (split <;> first | rfl | omega)
            try rfl
      · have h6' : (a.v == 6) = false := by simpa using h6
        by_cases hl : b0 = 127
        · have hl' : (b0 == 127) = true := by simpa using hl
          go_wp2_with (first | (refine gate_ (.load 32 (.tmp 1)) rfl ?_; go_must (refine ld_A (.tmp 1) rfl rfl HR.out rfl ?_)) | (go_at_call 30; refine HC.out.mono ?_; rintro e w' ⟨rfl, c0, c1, hR, hb'⟩) | (refine gate_ (.build 30 #[]) rfl ?_; go_must (refine wpList_buildA rfl 30 #[] rfl [] rfl built_y0 ?_)) | (refine gate_ (.build 30 #[(15, (.const (.int .u8 1)))]) rfl ?_; go_must (refine wpList_buildA rfl 30 #[(15, (.const (.int .u8 1)))] rfl [(15, .int .u8 1)] rfl built_y1 ?_)) | (refine gate_ (.build 30 #[(0, (.const (.int .u8 255))), (1, (.const (.int .u8 255))), (2, (.const (.int .u8 255))), (3, (.const (.int .u8 255)))]) rfl ?_; go_must (refine wpList_buildA rfl 30 #[(0, (.const (.int .u8 255))), (1, (.const (.int .u8 255))), (2, (.const (.int .u8 255))), (3, (.const (.int .u8 255)))] rfl [(0, .int .u8 255), (1, .int .u8 255), (2, .int .u8 255), (3, .int .u8 255)] rfl built_y2 ?_)) | (refine gate_ (.load 30 (.tmp 6)) rfl ?_; go_must (refine ld_Y (.tmp 6) rfl rfl a.hb hR.out rfl ?_)) | (refine gate_ (.load 30 (.tmp 14)) rfl ?_; go_must (refine ld_Y (.tmp 14) rfl rfl a.hb hR.out rfl ?_)) | (refine gate_ (.load 30 (.tmp 40)) rfl ?_; go_must (refine ld_Y (.tmp 40) rfl rfl a.hb hR.out rfl ?_)))
          go_ret
          refine ⟨?_, hb'.out⟩
          rw [HK.out]
          have hz := HZ.out
          have hoz := oz16
          have hfz := fz16
          simp [kindK, *]
          try omega
          try (split <;> first | rfl | omega)
          try rfl
        · have hl' : (b0 == 127) = false := by simpa using hl
          by_cases hge : 224 ≤ b0
          · have hge' : decide (b0 ≥ 224) = true := by simpa using hge
            by_cases hle : b0 ≤ 239
            · have hle' : decide (b0 ≤ 239) = true := by simpa using hle
              go_wp2_with (first | (refine gate_ (.load 32 (.tmp 1)) rfl ?_; go_must (refine ld_A (.tmp 1) rfl rfl HR.out rfl ?_)) | (go_at_call 30; refine HC.out.mono ?_; rintro e w' ⟨rfl, c0, c1, hR, hb'⟩) | (refine gate_ (.build 30 #[]) rfl ?_; go_must (refine wpList_buildA rfl 30 #[] rfl [] rfl built_y0 ?_)) | (refine gate_ (.build 30 #[(15, (.const (.int .u8 1)))]) rfl ?_; go_must (refine wpList_buildA rfl 30 #[(15, (.const (.int .u8 1)))] rfl [(15, .int .u8 1)] rfl built_y1 ?_)) | (refine gate_ (.build 30 #[(0, (.const (.int .u8 255))), (1, (.const (.int .u8 255))), (2, (.const (.int .u8 255))), (3, (.const (.int .u8 255)))]) rfl ?_; go_must (refine wpList_buildA rfl 30 #[(0, (.const (.int .u8 255))), (1, (.const (.int .u8 255))), (2, (.const (.int .u8 255))), (3, (.const (.int .u8 255)))] rfl [(0, .int .u8 255), (1, .int .u8 255), (2, .int .u8 255), (3, .int .u8 255)] rfl built_y2 ?_)) | (refine gate_ (.load 30 (.tmp 6)) rfl ?_; go_must (refine ld_Y (.tmp 6) rfl rfl a.hb hR.out rfl ?_)) | (refine gate_ (.load 30 (.tmp 14)) rfl ?_; go_must (refine ld_Y (.tmp 14) rfl rfl a.hb hR.out rfl ?_)) | (refine gate_ (.load 30 (.tmp 40)) rfl ?_; go_must (refine ld_Y (.tmp 40) rfl rfl a.hb hR.out rfl ?_)))
              go_ret
              refine ⟨?_, hb'.out⟩
              rw [HK.out]
              have hz := HZ.out
              have hoz := oz16
              have hfz := fz16
              simp [kindK, *]
              try omega
              try (split <;> first | rfl | omega)
              try rfl
            · have hle' : decide (b0 ≤ 239) = false := by simpa using hle
              by_cases h4 : a.b = f16
              · have h4' : decide (a.b = f16) = true := by simpa using h4
                have H4 := Lib.hid h4
                clear h4
                go_wp2_with (first | (refine gate_ (.load 32 (.tmp 1)) rfl ?_; go_must (refine ld_A (.tmp 1) rfl rfl HR.out rfl ?_)) | (go_at_call 30; refine HC.out.mono ?_; rintro e w' ⟨rfl, c0, c1, hR, hb'⟩) | (refine gate_ (.build 30 #[]) rfl ?_; go_must (refine wpList_buildA rfl 30 #[] rfl [] rfl built_y0 ?_)) | (refine gate_ (.build 30 #[(15, (.const (.int .u8 1)))]) rfl ?_; go_must (refine wpList_buildA rfl 30 #[(15, (.const (.int .u8 1)))] rfl [(15, .int .u8 1)] rfl built_y1 ?_)) | (refine gate_ (.build 30 #[(0, (.const (.int .u8 255))), (1, (.const (.int .u8 255))), (2, (.const (.int .u8 255))), (3, (.const (.int .u8 255)))]) rfl ?_; go_must (refine wpList_buildA rfl 30 #[(0, (.const (.int .u8 255))), (1, (.const (.int .u8 255))), (2, (.const (.int .u8 255))), (3, (.const (.int .u8 255)))] rfl [(0, .int .u8 255), (1, .int .u8 255), (2, .int .u8 255), (3, .int .u8 255)] rfl built_y2 ?_)) | (refine gate_ (.load 30 (.tmp 6)) rfl ?_; go_must (refine ld_Y (.tmp 6) rfl rfl a.hb hR.out rfl ?_)) | (refine gate_ (.load 30 (.tmp 14)) rfl ?_; go_must (refine ld_Y (.tmp 14) rfl rfl a.hb hR.out rfl ?_)) | (refine gate_ (.load 30 (.tmp 40)) rfl ?_; go_must (refine ld_Y (.tmp 40) rfl rfl a.hb hR.out rfl ?_)))
                go_ret
                refine ⟨?_, hb'.out⟩
                rw [HK.out]
                have hz := HZ.out
                have h4 := H4.out
                have hoz := oz16
                have hfz := fz16
                simp [kindK, *]
                try omega
                try (split <;> first | rfl | omega)
                try rfl
              · have h4' : decide (a.b = f16) = false := by simpa using h4
                have H4 := Lib.hid h4
                clear h4
                go_wp2_with (first | (refine gate_ (.load 32 (.tmp 1)) rfl ?_; go_must (refine ld_A (.tmp 1) rfl rfl HR.out rfl ?_)) | (go_at_call 30; refine HC.out.mono ?_; rintro e w' ⟨rfl, c0, c1, hR, hb'⟩) | (refine gate_ (.build 30 #[]) rfl ?_; go_must (refine wpList_buildA rfl 30 #[] rfl [] rfl built_y0 ?_)) | (refine gate_ (.build 30 #[(15, (.const (.int .u8 1)))]) rfl ?_; go_must (refine wpList_buildA rfl 30 #[(15, (.const (.int .u8 1)))] rfl [(15, .int .u8 1)] rfl built_y1 ?_)) | (refine gate_ (.build 30 #[(0, (.const (.int .u8 255))), (1, (.const (.int .u8 255))), (2, (.const (.int .u8 255))), (3, (.const (.int .u8 255)))]) rfl ?_; go_must (refine wpList_buildA rfl 30 #[(0, (.const (.int .u8 255))), (1, (.const (.int .u8 255))), (2, (.const (.int .u8 255))), (3, (.const (.int .u8 255)))] rfl [(0, .int .u8 255), (1, .int .u8 255), (2, .int .u8 255), (3, .int .u8 255)] rfl built_y2 ?_)) | (refine gate_ (.load 30 (.tmp 6)) rfl ?_; go_must (refine ld_Y (.tmp 6) rfl rfl a.hb hR.out rfl ?_)) | (refine gate_ (.load 30 (.tmp 14)) rfl ?_; go_must (refine ld_Y (.tmp 14) rfl rfl a.hb hR.out rfl ?_)) | (refine gate_ (.load 30 (.tmp 40)) rfl ?_; go_must (refine ld_Y (.tmp 40) rfl rfl a.hb hR.out rfl ?_)))
                go_ret
                refine ⟨?_, hb'.out⟩
                rw [HK.out]
                have hz := HZ.out
                have h4 := H4.out
                have hoz := oz16
                have hfz := fz16
                simp [kindK, *]
                try omega
                try (split <;> first | rfl | omega)
                try rfl
          · have hge' : decide (b0 ≥ 224) = false := by simpa using hge
            by_cases h4 : a.b = f16
            · have h4' : decide (a.b = f16) = true := by simpa using h4
              have H4 := Lib.hid h4
              clear h4
              go_wp2_with (first | (refine gate_ (.load 32 (.tmp 1)) rfl ?_; go_must (refine ld_A (.tmp 1) rfl rfl HR.out rfl ?_)) | (go_at_call 30; refine HC.out.mono ?_; rintro e w' ⟨rfl, c0, c1, hR, hb'⟩) | (refine gate_ (.build 30 #[]) rfl ?_; go_must (refine wpList_buildA rfl 30 #[] rfl [] rfl built_y0 ?_)) | (refine gate_ (.build 30 #[(15, (.const (.int .u8 1)))]) rfl ?_; go_must (refine wpList_buildA rfl 30 #[(15, (.const (.int .u8 1)))] rfl [(15, .int .u8 1)] rfl built_y1 ?_)) | (refine gate_ (.build 30 #[(0, (.const (.int .u8 255))), (1, (.const (.int .u8 255))), (2, (.const (.int .u8 255))), (3, (.const (.int .u8 255)))]) rfl ?_; go_must (refine wpList_buildA rfl 30 #[(0, (.const (.int .u8 255))), (1, (.const (.int .u8 255))), (2, (.const (.int .u8 255))), (3, (.const (.int .u8 255)))] rfl [(0, .int .u8 255), (1, .int .u8 255), (2, .int .u8 255), (3, .int .u8 255)] rfl built_y2 ?_)) | (refine gate_ (.load 30 (.tmp 6)) rfl ?_; go_must (refine ld_Y (.tmp 6) rfl rfl a.hb hR.out rfl ?_)) | (refine gate_ (.load 30 (.tmp 14)) rfl ?_; go_must (refine ld_Y (.tmp 14) rfl rfl a.hb hR.out rfl ?_)) | (refine gate_ (.load 30 (.tmp 40)) rfl ?_; go_must (refine ld_Y (.tmp 40) rfl rfl a.hb hR.out rfl ?_)))
              go_ret
              refine ⟨?_, hb'.out⟩
              rw [HK.out]
              have hz := HZ.out
              have h4 := H4.out
              have hoz := oz16
              have hfz := fz16
              simp [kindK, *]
              try omega
              try (split <;> first | rfl | omega)
              try rfl
            · have h4' : decide (a.b = f16) = false := by simpa using h4
              have H4 := Lib.hid h4
              clear h4
              go_wp2_with (first | (refine gate_ (.load 32 (.tmp 1)) rfl ?_; go_must (refine ld_A (.tmp 1) rfl rfl HR.out rfl ?_)) | (go_at_call 30; refine HC.out.mono ?_; rintro e w' ⟨rfl, c0, c1, hR, hb'⟩) | (refine gate_ (.build 30 #[]) rfl ?_; go_must (refine wpList_buildA rfl 30 #[] rfl [] rfl built_y0 ?_)) | (refine gate_ (.build 30 #[(15, (.const (.int .u8 1)))]) rfl ?_; go_must (refine wpList_buildA rfl 30 #[(15, (.const (.int .u8 1)))] rfl [(15, .int .u8 1)] rfl built_y1 ?_)) | (refine gate_ (.build 30 #[(0, (.const (.int .u8 255))), (1, (.const (.int .u8 255))), (2, (.const (.int .u8 255))), (3, (.const (.int .u8 255)))]) rfl ?_; go_must (refine wpList_buildA rfl 30 #[(0, (.const (.int .u8 255))), (1, (.const (.int .u8 255))), (2, (.const (.int .u8 255))), (3, (.const (.int .u8 255)))] rfl [(0, .int .u8 255), (1, .int .u8 255), (2, .int .u8 255), (3, .int .u8 255)] rfl built_y2 ?_)) | (refine gate_ (.load 30 (.tmp 6)) rfl ?_; go_must (refine ld_Y (.tmp 6) rfl rfl a.hb hR.out rfl ?_)) | (refine gate_ (.load 30 (.tmp 14)) rfl ?_; go_must (refine ld_Y (.tmp 14) rfl rfl a.hb hR.out rfl ?_)) | (refine gate_ (.load 30 (.tmp 40)) rfl ?_; go_must (refine ld_Y (.tmp 40) rfl rfl a.hb hR.out rfl ?_)))
              go_ret
              refine ⟨?_, hb'.out⟩
              rw [HK.out]
              have hz := HZ.out
              have h4 := H4.out
              have hoz := oz16
              have hfz := fz16
              simp [kindK, *]
              try omega
              try (split <;> first | rfl | omega)
              try rfl
end Go.Proofs.Ytgcafklieblldaa.SL
