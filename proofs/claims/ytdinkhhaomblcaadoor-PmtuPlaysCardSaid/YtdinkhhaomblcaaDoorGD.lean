/- The walks of four, six and sameAddrs. No condition but sizes. -/
import Derived.Test.YtdinkhhaomblcaaDoorGC
namespace Go.Proofs.YtdinkhhaomblcaaDoor.SL
open Go.RowKit Go.Proofs.YtdinkhhaomblcaaDoorW.PrintWords Go.Proofs.YtdinkhhaomblcaaDoorW.PrintLast Go.Proofs.YtdinkhhaomblcaaDoorW.PrintMore
/-- Address number d of version 6. -/
def sA (d : Int) : Ad := ⟨6, 32 :: 1 :: 13 :: 184 :: (List.replicate 11 0 ++ [d]), rfl⟩
theorem built_four (d : Int) : Tryd.prog.built 30 [(0, .int .u8 10), (1, .int .u8 0), (2, .int .u8 0), (3, .int .u8 d)] = some (yV (fA d).b) := by kernel_rfl
theorem built_six (d : Int) : Tryd.prog.built 30 [(0, .int .u8 32), (1, .int .u8 1), (2, .int .u8 13), (3, .int .u8 184), (15, .int .u8 d)] = some (yV (sA d).b) := by kernel_rfl
theorem built_adr (a : Ad) : Tryd.prog.built 32 [(0, .int .i64 a.v), (1, .agg (yV a.b))] = some (aV a) := by
  obtain ⟨v, b, hb⟩ := a
  obtain ⟨b0, b1, b2, b3, b4, b5, b6, b7, b8, b9, b10, b11, b12, b13, b14, b15, rfl⟩ := list16 b hb
  kernel_rfl
theorem four_ok (d : Int) (h : 0 ≤ d ∧ d < 256) : BOk (fA d) := by
  intro x hx
  simp only [fA, List.mem_cons, List.mem_replicate] at hx
  rcases hx with rfl | rfl | rfl | rfl | ⟨_, rfl⟩ <;> omega
theorem six_ok (d : Int) (h : 0 ≤ d ∧ d < 256) : BOk (sA d) := by
  intro x hx
  simp only [sA, List.mem_cons, List.mem_append, List.mem_replicate, List.not_mem_nil, or_false] at hx
  rcases hx with rfl | rfl | rfl | rfl | ⟨_, rfl⟩ | rfl <;> omega
set_option maxHeartbeats 2000000 in
theorem four_calls (d : Int) (w : World) :
    Calls Tryd.prog 28 #[.int .u8 d] w fun e w' => e = .returned (.agg (aV (fA d))) ∧ Below w.heap.size w w' := by
  have HB : Hid (Below w.heap.size w (w.alloc (.cells (aV (fA d)) 32))) := Lib.hid ((Touch.refl [] w).alloc _).below
  go_enter Tryd.func28, Tryd.ntmps28
  go_wp2_with (first | (refine gate_ (.build 30 #[(0, .const (.int .u8 10)), (1, .const (.int .u8 0)), (2, .const (.int .u8 0)), (3, .tmp 3)]) rfl ?_; go_must (refine wpList_buildA rfl 30 #[(0, .const (.int .u8 10)), (1, .const (.int .u8 0)), (2, .const (.int .u8 0)), (3, .tmp 3)] rfl [(0, .int .u8 10), (1, .int .u8 0), (2, .int .u8 0), (3, .int .u8 d)] rfl (built_four d) ?_)) | (refine gate_ (.build 32 #[(0, .const (.int .i64 4)), (1, .tmp 4)]) rfl ?_; go_must (refine wpList_buildA rfl 32 #[(0, .const (.int .i64 4)), (1, .tmp 4)] rfl [(0, .int .i64 4), (1, .agg (yV (fA d).b))] rfl (built_adr (fA d)) ?_)) | (refine gate_ (.store 32 (.tmp 2) (.tmp 5)) rfl ?_; go_must (refine st_A (.tmp 2) (.tmp 5) rfl rfl rfl rfl rfl ?_)))
  refine bodyPost_ret (results_cell_row rfl _ _ w.heap.size _ (aV (fA d)) _ _ rfl (heap_alloc_new w _) Tryd.underlying32 rfl (by rw [aV_size]; exact sizA)) rfl ?_
  exact ⟨rfl, HB.out⟩
set_option maxHeartbeats 2000000 in
theorem six_calls (d : Int) (w : World) :
    Calls Tryd.prog 36 #[.int .u8 d] w fun e w' => e = .returned (.agg (aV (sA d))) ∧ Below w.heap.size w w' := by
  have HB : Hid (Below w.heap.size w (w.alloc (.cells (aV (sA d)) 32))) := Lib.hid ((Touch.refl [] w).alloc _).below
  go_enter Tryd.func36, Tryd.ntmps36
  go_wp2_with (first | (refine gate_ (.build 30 #[(0, .const (.int .u8 32)), (1, .const (.int .u8 1)), (2, .const (.int .u8 13)), (3, .const (.int .u8 184)), (15, .tmp 3)]) rfl ?_; go_must (refine wpList_buildA rfl 30 #[(0, .const (.int .u8 32)), (1, .const (.int .u8 1)), (2, .const (.int .u8 13)), (3, .const (.int .u8 184)), (15, .tmp 3)] rfl [(0, .int .u8 32), (1, .int .u8 1), (2, .int .u8 13), (3, .int .u8 184), (15, .int .u8 d)] rfl (built_six d) ?_)) | (refine gate_ (.build 32 #[(0, .const (.int .i64 6)), (1, .tmp 4)]) rfl ?_; go_must (refine wpList_buildA rfl 32 #[(0, .const (.int .i64 6)), (1, .tmp 4)] rfl [(0, .int .i64 6), (1, .agg (yV (sA d).b))] rfl (built_adr (sA d)) ?_)) | (refine gate_ (.store 32 (.tmp 2) (.tmp 5)) rfl ?_; go_must (refine st_A (.tmp 2) (.tmp 5) rfl rfl rfl rfl rfl ?_)))
  refine bodyPost_ret (results_cell_row rfl _ _ w.heap.size _ (aV (sA d)) _ _ rfl (heap_alloc_new w _) Tryd.underlying32 rfl (by rw [aV_size]; exact sizA)) rfl ?_
  exact ⟨rfl, HB.out⟩
/-- A row of addresses that can be read, in a block from its beginning on. -/
def RdA (w : World) (v : Value) (xs : List Ad) : Prop := ∃ A c, v = .slice A xs.length c ∧ xs.length ≤ 9223372036854775807 ∧ ∀ k x, xs[k]? = some x → ∃ g, A = some ⟨g, 0, none⟩ ∧ w.rangeAt g (k * 17) (aL x) ∧ g < w.heap.size
theorem RdA.of_R {w : World} {base : Nat} {ok : Nat → Prop} {v : Value} {xs : List Ad} (h : kA.R 32 w base ok v xs) : RdA w v xs := by
  obtain ⟨A, c, e, hl, hC⟩ := Kd.R_reads h
  refine ⟨A, c, e, hC.2.1, fun k x hk => ?_⟩
  obtain ⟨g, c', e', h1, h2⟩ := RA_at h k x hk
  rw [e] at e'
  injection e' with e1
  exact ⟨g, e1, h1, h2⟩
theorem RdA.one {w : World} {b : Nat} {x : Ad} {T : TypeId} {fr : Nat × Nat} (h : w.heap[b]? = some (.cells (aV x) T fr)) : RdA w (.slice (some ⟨b, 0, none⟩) 1 1) [x] :=
  ⟨_, 1, rfl, by simp, fun k y hk => by
    cases k with
    | zero =>
      obtain rfl : x = y := by simpa using hk
      exact ⟨b, rfl, by rw [Nat.zero_mul]; exact range_A h, lt_of_block h⟩
    | succ k => simp at hk⟩
theorem RdA.below {w w' : World} {v : Value} {xs : List Ad} (h : RdA w v xs) (hb : Below w.heap.size w w') : RdA w' v xs := by
  obtain ⟨A, c, e, hl, hk⟩ := h
  exact ⟨A, c, e, hl, fun k x hx => by
    obtain ⟨g, h1, h2, h3⟩ := hk k x hx
    exact ⟨g, h1, rangeAt_below h2 h3 hb, Nat.lt_of_lt_of_le h3 hb.size⟩⟩
attribute [-go_sem] loadVar
attribute [local go_sem] lv3
attribute [local go_sem high] neq_ad
attribute [local go_sem ↓] Go.wp_at_zero Go.wp_at_succ
set_option maxHeartbeats 4000000 in
set_option maxRecDepth 100000 in
theorem same_calls (v u : Value) (x y : List Ad) (w : World) (hx : RdA w v x) (hy : RdA w u y) (hl : x.length < 1000000000) :
    Calls Tryd.prog 13 #[v, u] w fun e w' => e = .returned (.bool (decide (x = y))) ∧ Below w.heap.size w w' := by
  obtain ⟨A, c, rfl, hx1, HX⟩ := hx
  obtain ⟨B, d, rfl, hy1, HY⟩ := hy
  have HX := Lib.hid HX
  have HY := Lib.hid HY
  by_cases hxy : x.length = y.length
  · have hb : ((x.length : Int) != (y.length : Int)) = false := by simp [hxy]
    have hyl : (y.length : Int) = (x.length : Int) := by omega
    go_enter Tryd.func13, Tryd.ntmps13
    go_wp2_with fail
    have HXY := Lib.hid hxy
    clear hxy hyl
    go_loopw [5] (fun i wr => ∃ k : Nat, k ≤ x.length ∧ i = .int .i64 k ∧ Hid (Below w.heap.size w wr) ∧ Hid (x.take k = y.take k)) (fun i _ => x.length - (intOf i).toNat)
    case atStart => exact ⟨0, Nat.zero_le _, rfl, Lib.hid (Below.refl _ _), Lib.hid rfl⟩
    case round =>
      obtain ⟨k, hk, rfl, HB, HE⟩ := hrel
      by_cases hlt : k < x.length
      · have hltz : (k : Int) < (x.length : Int) := by omega
        have hlty : (k : Int) < (y.length : Int) := by have := HXY.out; omega
        have hk0 : (0 : Int) ≤ (k : Int) := by omega
        obtain ⟨g, rfl, hr1, hg1⟩ := HX.out k _ (List.getElem?_eq_getElem hlt)
        obtain ⟨g2, rfl, hr2, hg2⟩ := HY.out k _ (List.getElem?_eq_getElem (show k < y.length by have := HXY.out; omega))
        have HT := Lib.hid (And.intro (List.take_succ_eq_append_getElem hlt) (List.take_succ_eq_append_getElem (show k < y.length by have := HXY.out; omega)))
        have R1 := Lib.hid (rangeAt_below hr1 hg1 HB.out)
        have R2 := Lib.hid (rangeAt_below hr2 hg2 HB.out)
        clear hr1 hr2 hg1 hg2
        generalize x[k] = s at R1 HT
        generalize y[k] = t at R2 HT
        have hLD1 : ∀ W : World, W.rangeAt g (k * 17) (aL s) → (loadVar 32 ⟨g, k * 17, none⟩).run Tryd.prog W = .ok (.agg (aV s)) W := fun W h => lvA h
        have hLD2 : ∀ W : World, W.rangeAt g2 (k * 17) (aL t) → (loadVar 32 ⟨g2, k * 17, none⟩).run Tryd.prog W = .ok (.agg (aV t)) W := fun W h => lvA h
        have R1d : Hid (wr.drew.rangeAt g (k * 17) (aL s)) := Lib.hid (fun j u h => R1.out j u h)
        have R2d : Hid (wr.drew.rangeAt g2 (k * 17) (aL t)) := Lib.hid (fun j u h => R2.out j u h)
        go_wp2_with fail
        go_region_held3 (fun W => W.rangeAt g (k * 17) (aL s) ∧ W.rangeAt g2 (k * 17) (aL t)) (first | exact ⟨R1.out, R2.out⟩ | exact ⟨R1d.out, R2d.out⟩) (fail)
        generalize hq : decide (s = t) = q
        have HQ := Lib.hid hq
        clear hq
        cases q with
        | true =>
          go_wp2_with fail
          go_roundw
          case rel => exact ⟨k + 1, by omega, by go_num, Lib.hid HB.out.drew, Lib.hid (by rw [HT.out.1, HT.out.2, HE.out, of_decide_eq_true HQ.out])⟩
          case measure => simp [intOf]; omega
        | false =>
          go_wp2_with fail
          go_ret
          refine ⟨?_, HB.out.drew⟩
          have : x ≠ y := fun e => of_decide_eq_false HQ.out (by
            subst e
            have := HT.out.1.symm.trans HT.out.2
            simpa using this)
          rw [decide_eq_false this]
          rfl
      · have hltz : ¬ (k : Int) < (x.length : Int) := by omega
        have hkx : k = x.length := by omega
        subst hkx
        go_wp2
        go_ret
        refine ⟨?_, HB.out⟩
        have e := HE.out
        rw [List.take_length, HXY.out, List.take_length] at e
        rw [decide_eq_true e]
        rfl
  · have hb : ((x.length : Int) != (y.length : Int)) = true := by simp; omega
    go_enter Tryd.func13, Tryd.ntmps13
    go_wp2_with fail
    go_ret
    refine ⟨?_, Below.refl _ _⟩
    rw [decide_eq_false fun e => hxy (by rw [e])]
    rfl
section
variable {w0 w : World} {Γ : List Ob}
theorem c_four (h : St w0 w Γ) (d : Int) : Calls Tryd.prog 28 #[.int .u8 d] w fun e w' => e = .returned (.agg (aV (fA d))) ∧ St w0 w' Γ := (four_calls d w).mono fun _ _ ⟨he, hb⟩ => ⟨he, h.below hb⟩
theorem c_six (h : St w0 w Γ) (d : Int) : Calls Tryd.prog 36 #[.int .u8 d] w fun e w' => e = .returned (.agg (aV (sA d))) ∧ St w0 w' Γ := (six_calls d w).mono fun _ _ ⟨he, hb⟩ => ⟨he, h.below hb⟩
theorem c_same (h : St w0 w Γ) {v u : Value} {x y : List Ad} (hx : RdA w v x) (hy : RdA w u y) (hl : x.length < 1000000000) {r : Bool} (hr : decide (x = y) = r) :
    Calls Tryd.prog 13 #[v, u] w fun e w' => e = .returned (.bool r) ∧ St w0 w' Γ := by
  subst hr
  exact (same_calls v u x y w hx hy hl).mono fun _ _ ⟨he, hb⟩ => ⟨he, h.below hb⟩
theorem St.rd (h : St w0 w Γ) (i : Nat) {v : Value} {xs : List Ad} (hi : Γ[i]? = some (obAd v xs)) : RdA w v xs := RdA.of_R (show kA.R _ _ _ _ _ _ from h.get i hi)
end
end Go.Proofs.YtdinkhhaomblcaaDoor.SL
