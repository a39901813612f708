/- What functions of the program compute, and that they do: written by this session's program mk.py, over the kit's print. No condition. -/
import Derived.Test.YtmfckkgebdfhjaaQx0
import Derived.Test.YtmfckkgebdfhjaaQFspanNorm
import Derived.Test.YtmfckkgebdfhjaaQFmosaiclaw09same
import Derived.Test.YtmfckkgebdfhjaaQFspanRight
import Derived.Test.YtmfckkgebdfhjaaQFmosaiclaw09alive
import Derived.Test.YtmfckkgebdfhjaaQFmosaiclaw09own
namespace Go.Proofs.Ytmfckkgebdfhjaa.Q
open Go.RowKit Go.Proofs.YtmfckkgebdfhjaaW.PrintWords Go.Proofs.YtmfckkgebdfhjaaW.PrintLast Go.Proofs.YtmfckkgebdfhjaaW.PrintMore
attribute [local go_sem] max2_int min2_int max_two min_two max_three min_three max_four min_four   -- for this text's walks alone
set_option linter.unusedVariables false
set_option linter.unusedSimpArgs false

/-! ### mosaiclaw09_SpanNorms: function 5 -/
mutual
def mosaiclaw09_SpanNorms.l0 : Nat → List (S24) → Int → List (S24) → Int → List (S24) → Int → Option (Bool)
  | 0, _, _, _, _, _, _ => none
  | k + 1, x0, x1, x6, x7, x8, x9 => if x9 ≥ 0 then (if 0 ≤ x9 then (if x9 < (x0.length : Int) then (if x8.length < 8796093022208 then (mosaiclaw09_SpanNorms.l0 k x0 x1 x6 x7 (x8 ++ [(⟨(rd_T24 x0 x9).f0, (rd_T24 x0 x9).f1⟩ : S24)]) (wrap64 (x9 - 1))) else (none)) else (none)) else (none)) else (if x1 < 0 then (mosaiclaw09_SpanNorms.j1 k x0 (wrap64 ((-1) - x1)) x6 x7 x8) else (mosaiclaw09_SpanNorms.j1 k x0 x1 x6 x7 x8))
def mosaiclaw09_SpanNorms.j1 : Nat → List (S24) → Int → List (S24) → Int → List (S24) → Option (Bool)
  | 0, _, _, _, _, _ => none
  | k + 1, x0, x1, x6, x7, x8 => mosaiclaw09_SpanNorms.l1 k x0 x1 x6 x7 x8 0
def mosaiclaw09_SpanNorms.l1 : Nat → List (S24) → Int → List (S24) → Int → List (S24) → Int → Option (Bool)
  | 0, _, _, _, _, _, _ => none
  | k + 1, x0, x1, x6, x7, x8, x10 => if x10 < (x0.length : Int) then (mosaiclaw09_SpanNorms.j3 k x0 x1 x6 x7 x8 x10 (decide ((x0.length : Int) > 0))) else (mosaiclaw09_SpanNorms.j3 k x0 x1 x6 x7 x8 x10 false)
def mosaiclaw09_SpanNorms.j3 : Nat → List (S24) → Int → List (S24) → Int → List (S24) → Int → Bool → Option (Bool)
  | 0, _, _, _, _, _, _, _ => none
  | k + 1, x0, x1, x6, x7, x8, x10, x50 => if x50 = true then (if (Int.tmod x10 2) = (Int.tmod x1 2) then (if 0 ≤ x10 then (if x10 < (x0.length : Int) then (if x8.length < 8796093022208 then (mosaiclaw09_SpanNorms.l1 k x0 x1 x6 x7 (x8 ++ [(⟨(rd_T24 x0 x10).f0, (rd_T24 x0 x10).f1⟩ : S24)]) (wrap64 (x10 + 1))) else (none)) else (none)) else (none)) else (mosaiclaw09_SpanNorms.l1 k x0 x1 x6 x7 x8 (wrap64 (x10 + 1)))) else ((span_Norm.f k x8).bind fun bt456 => (if x7 = bt456.2 then ((mosaiclaw09_same.f k x6 bt456.1).bind fun t460 => (mosaiclaw09_SpanNorms.j4 k x0 x6 x7 (!t460))) else (mosaiclaw09_SpanNorms.j4 k x0 x6 x7 true)))
def mosaiclaw09_SpanNorms.j4 : Nat → List (S24) → List (S24) → Int → Bool → Option (Bool)
  | 0, _, _, _, _ => none
  | k + 1, x0, x6, x7, x78 => if x78 = true then (some false) else (if x7 = 0 then ((mosaiclaw09_own.f k x6).bind fun t465 => ((span_Norm.f k t465).bind fun bt468 => (if bt468.2 = 0 then ((mosaiclaw09_same.f k bt468.1 x6).bind fun t472 => (if t472 = true then ((mosaiclaw09_own.f k x6).bind fun t473 => ((span_Right.f k t473).bind fun t476 => (if t476 = true then ((mosaiclaw09_own.f k x0).bind fun t477 => ((span_Right.f k t477).bind fun t480 => ((mosaiclaw09_same.f k x6 x0).bind fun t481 => (some (t480 == t481))))) else (some false)))) else (some false))) else (some false)))) else (if x7 = 1 then (if (x6.length : Int) = 0 then ((mosaiclaw09_own.f k x0).bind fun t461 => ((span_Right.f k t461).bind fun t464 => (some (!t464)))) else (some false)) else (some false)))
end
def mosaiclaw09_SpanNorms.f (k : Nat) (l0 : List (S24)) (a1 : Int) : Option (Bool) := (mosaiclaw09_alive.f k).bind fun t440 => (if t440 = true then ((mosaiclaw09_own.f k l0).bind fun t441 => ((span_Norm.f k t441).bind fun bt444 => (mosaiclaw09_SpanNorms.l0 k l0 a1 bt444.1 bt444.2 ([] : List (S24)) (wrap64 ((l0.length : Int) - 1))))) else (some false))
theorem mosaiclaw09_SpanNorms.mono_l : ∀ k, (∀ y0 y1 y2 y3 y4 y5, LeO (mosaiclaw09_SpanNorms.l0 k y0 y1 y2 y3 y4 y5) (mosaiclaw09_SpanNorms.l0 (k + 1) y0 y1 y2 y3 y4 y5)) ∧ (∀ y0 y1 y2 y3 y4, LeO (mosaiclaw09_SpanNorms.j1 k y0 y1 y2 y3 y4) (mosaiclaw09_SpanNorms.j1 (k + 1) y0 y1 y2 y3 y4)) ∧ (∀ y0 y1 y2 y3 y4 y5, LeO (mosaiclaw09_SpanNorms.l1 k y0 y1 y2 y3 y4 y5) (mosaiclaw09_SpanNorms.l1 (k + 1) y0 y1 y2 y3 y4 y5)) ∧ (∀ y0 y1 y2 y3 y4 y5 y6, LeO (mosaiclaw09_SpanNorms.j3 k y0 y1 y2 y3 y4 y5 y6) (mosaiclaw09_SpanNorms.j3 (k + 1) y0 y1 y2 y3 y4 y5 y6)) ∧ (∀ y0 y1 y2 y3, LeO (mosaiclaw09_SpanNorms.j4 k y0 y1 y2 y3) (mosaiclaw09_SpanNorms.j4 (k + 1) y0 y1 y2 y3))
  | 0 => ⟨fun _ _ _ _ _ _ r h => by simp [mosaiclaw09_SpanNorms.l0] at h, fun _ _ _ _ _ r h => by simp [mosaiclaw09_SpanNorms.j1] at h, fun _ _ _ _ _ _ r h => by simp [mosaiclaw09_SpanNorms.l1] at h, fun _ _ _ _ _ _ _ r h => by simp [mosaiclaw09_SpanNorms.j3] at h, fun _ _ _ _ r h => by simp [mosaiclaw09_SpanNorms.j4] at h⟩
  | k + 1 => by
    obtain ⟨ih0, ih1, ih2, ih3, ih4⟩ := mosaiclaw09_SpanNorms.mono_l k
    refine ⟨?_, ?_, ?_, ?_, ?_⟩
    · intro y0 y1 y2 y3 y4 y5
      unfold mosaiclaw09_SpanNorms.l0
      repeat' first
      | (with_reducible exact ih0 _ _ _ _ _ _)
      | (with_reducible exact ih1 _ _ _ _ _)
      | (with_reducible exact ih2 _ _ _ _ _ _)
      | (with_reducible exact ih3 _ _ _ _ _ _ _)
      | (with_reducible exact ih4 _ _ _ _)
      | (with_reducible exact mosaiclaw09_alive.mono _)
      | (with_reducible exact mosaiclaw09_own.mono _ _)
      | (with_reducible exact mosaiclaw09_same.mono _ _ _)
      | (with_reducible exact span_Norm.mono _ _)
      | (with_reducible exact span_Right.mono _ _)
      | (with_reducible exact LeO.refl _)
      | (with_reducible exact LeO.none _)
      | (with_reducible refine LeO.ite ?_ ?_)
      | (with_reducible refine LeO.bind ?_ (fun _ => ?_))
      | exact ih0 _ _ _ _ _ _
      | exact ih1 _ _ _ _ _
      | exact ih2 _ _ _ _ _ _
      | exact ih3 _ _ _ _ _ _ _
      | exact ih4 _ _ _ _
      | exact mosaiclaw09_alive.mono _
      | exact mosaiclaw09_own.mono _ _
      | exact mosaiclaw09_same.mono _ _ _
      | exact span_Norm.mono _ _
      | exact span_Right.mono _ _
      | exact LeO.none _
      | refine LeO.ite ?_ ?_
      | refine LeO.bind ?_ (fun _ => ?_)
    · intro y0 y1 y2 y3 y4
      unfold mosaiclaw09_SpanNorms.j1
      repeat' first
      | (with_reducible exact ih0 _ _ _ _ _ _)
      | (with_reducible exact ih1 _ _ _ _ _)
      | (with_reducible exact ih2 _ _ _ _ _ _)
      | (with_reducible exact ih3 _ _ _ _ _ _ _)
      | (with_reducible exact ih4 _ _ _ _)
      | (with_reducible exact mosaiclaw09_alive.mono _)
      | (with_reducible exact mosaiclaw09_own.mono _ _)
      | (with_reducible exact mosaiclaw09_same.mono _ _ _)
      | (with_reducible exact span_Norm.mono _ _)
      | (with_reducible exact span_Right.mono _ _)
      | (with_reducible exact LeO.refl _)
      | (with_reducible exact LeO.none _)
      | (with_reducible refine LeO.ite ?_ ?_)
      | (with_reducible refine LeO.bind ?_ (fun _ => ?_))
      | exact ih0 _ _ _ _ _ _
      | exact ih1 _ _ _ _ _
      | exact ih2 _ _ _ _ _ _
      | exact ih3 _ _ _ _ _ _ _
      | exact ih4 _ _ _ _
      | exact mosaiclaw09_alive.mono _
      | exact mosaiclaw09_own.mono _ _
      | exact mosaiclaw09_same.mono _ _ _
      | exact span_Norm.mono _ _
      | exact span_Right.mono _ _
      | exact LeO.none _
      | refine LeO.ite ?_ ?_
      | refine LeO.bind ?_ (fun _ => ?_)
    · intro y0 y1 y2 y3 y4 y5
      unfold mosaiclaw09_SpanNorms.l1
      repeat' first
      | (with_reducible exact ih0 _ _ _ _ _ _)
      | (with_reducible exact ih1 _ _ _ _ _)
      | (with_reducible exact ih2 _ _ _ _ _ _)
      | (with_reducible exact ih3 _ _ _ _ _ _ _)
      | (with_reducible exact ih4 _ _ _ _)
      | (with_reducible exact mosaiclaw09_alive.mono _)
      | (with_reducible exact mosaiclaw09_own.mono _ _)
      | (with_reducible exact mosaiclaw09_same.mono _ _ _)
      | (with_reducible exact span_Norm.mono _ _)
      | (with_reducible exact span_Right.mono _ _)
      | (with_reducible exact LeO.refl _)
      | (with_reducible exact LeO.none _)
      | (with_reducible refine LeO.ite ?_ ?_)
      | (with_reducible refine LeO.bind ?_ (fun _ => ?_))
      | exact ih0 _ _ _ _ _ _
      | exact ih1 _ _ _ _ _
      | exact ih2 _ _ _ _ _ _
      | exact ih3 _ _ _ _ _ _ _
      | exact ih4 _ _ _ _
      | exact mosaiclaw09_alive.mono _
      | exact mosaiclaw09_own.mono _ _
      | exact mosaiclaw09_same.mono _ _ _
      | exact span_Norm.mono _ _
      | exact span_Right.mono _ _
      | exact LeO.none _
      | refine LeO.ite ?_ ?_
      | refine LeO.bind ?_ (fun _ => ?_)
    · intro y0 y1 y2 y3 y4 y5 y6
      unfold mosaiclaw09_SpanNorms.j3
      repeat' first
      | (with_reducible exact ih0 _ _ _ _ _ _)
      | (with_reducible exact ih1 _ _ _ _ _)
      | (with_reducible exact ih2 _ _ _ _ _ _)
      | (with_reducible exact ih3 _ _ _ _ _ _ _)
      | (with_reducible exact ih4 _ _ _ _)
      | (with_reducible exact mosaiclaw09_alive.mono _)
      | (with_reducible exact mosaiclaw09_own.mono _ _)
      | (with_reducible exact mosaiclaw09_same.mono _ _ _)
      | (with_reducible exact span_Norm.mono _ _)
      | (with_reducible exact span_Right.mono _ _)
      | (with_reducible exact LeO.refl _)
      | (with_reducible exact LeO.none _)
      | (with_reducible refine LeO.ite ?_ ?_)
      | (with_reducible refine LeO.bind ?_ (fun _ => ?_))
      | exact ih0 _ _ _ _ _ _
      | exact ih1 _ _ _ _ _
      | exact ih2 _ _ _ _ _ _
      | exact ih3 _ _ _ _ _ _ _
      | exact ih4 _ _ _ _
      | exact mosaiclaw09_alive.mono _
      | exact mosaiclaw09_own.mono _ _
      | exact mosaiclaw09_same.mono _ _ _
      | exact span_Norm.mono _ _
      | exact span_Right.mono _ _
      | exact LeO.none _
      | refine LeO.ite ?_ ?_
      | refine LeO.bind ?_ (fun _ => ?_)
    · intro y0 y1 y2 y3
      unfold mosaiclaw09_SpanNorms.j4
      repeat' first
      | (with_reducible exact ih0 _ _ _ _ _ _)
      | (with_reducible exact ih1 _ _ _ _ _)
      | (with_reducible exact ih2 _ _ _ _ _ _)
      | (with_reducible exact ih3 _ _ _ _ _ _ _)
      | (with_reducible exact ih4 _ _ _ _)
      | (with_reducible exact mosaiclaw09_alive.mono _)
      | (with_reducible exact mosaiclaw09_own.mono _ _)
      | (with_reducible exact mosaiclaw09_same.mono _ _ _)
      | (with_reducible exact span_Norm.mono _ _)
      | (with_reducible exact span_Right.mono _ _)
      | (with_reducible exact LeO.refl _)
      | (with_reducible exact LeO.none _)
      | (with_reducible refine LeO.ite ?_ ?_)
      | (with_reducible refine LeO.bind ?_ (fun _ => ?_))
      | exact ih0 _ _ _ _ _ _
      | exact ih1 _ _ _ _ _
      | exact ih2 _ _ _ _ _ _
      | exact ih3 _ _ _ _ _ _ _
      | exact ih4 _ _ _ _
      | exact mosaiclaw09_alive.mono _
      | exact mosaiclaw09_own.mono _ _
      | exact mosaiclaw09_same.mono _ _ _
      | exact span_Norm.mono _ _
      | exact span_Right.mono _ _
      | exact LeO.none _
      | refine LeO.ite ?_ ?_
      | refine LeO.bind ?_ (fun _ => ?_)
theorem mosaiclaw09_SpanNorms.mono : ∀ a0 a1 k, LeO (mosaiclaw09_SpanNorms.f k a0 a1) (mosaiclaw09_SpanNorms.f (k + 1) a0 a1) := by
  intro a0 a1 k
  obtain ⟨ih0, ih1, ih2, ih3, ih4⟩ := mosaiclaw09_SpanNorms.mono_l k
  unfold mosaiclaw09_SpanNorms.f
  repeat' first
      | (with_reducible exact ih0 _ _ _ _ _ _)
      | (with_reducible exact ih1 _ _ _ _ _)
      | (with_reducible exact ih2 _ _ _ _ _ _)
      | (with_reducible exact ih3 _ _ _ _ _ _ _)
      | (with_reducible exact ih4 _ _ _ _)
      | (with_reducible exact mosaiclaw09_alive.mono _)
      | (with_reducible exact mosaiclaw09_own.mono _ _)
      | (with_reducible exact mosaiclaw09_same.mono _ _ _)
      | (with_reducible exact span_Norm.mono _ _)
      | (with_reducible exact span_Right.mono _ _)
      | (with_reducible exact LeO.refl _)
      | (with_reducible exact LeO.none _)
      | (with_reducible refine LeO.ite ?_ ?_)
      | (with_reducible refine LeO.bind ?_ (fun _ => ?_))
      | exact ih0 _ _ _ _ _ _
      | exact ih1 _ _ _ _ _
      | exact ih2 _ _ _ _ _ _
      | exact ih3 _ _ _ _ _ _ _
      | exact ih4 _ _ _ _
      | exact mosaiclaw09_alive.mono _
      | exact mosaiclaw09_own.mono _ _
      | exact mosaiclaw09_same.mono _ _ _
      | exact span_Norm.mono _ _
      | exact span_Right.mono _ _
      | exact LeO.none _
      | refine LeO.ite ?_ ?_
      | refine LeO.bind ?_ (fun _ => ?_)
set_option maxHeartbeats 8000000 in
set_option maxRecDepth 100000 in
theorem mosaiclaw09_SpanNorms.calls (k : Nat) (A0 : Option Addr) (c0 : Nat) (l0 : List (S24)) (a1 : Int) (r : Bool) (w : World) (hr0 : Kd.C k24 w A0 l0.length l0) (hc0 : l0.length ≤ c0) (h : mosaiclaw09_SpanNorms.f k l0 a1 = some r) :
    Calls Try.prog 5 #[.slice A0 l0.length c0, .int .i64 a1] w fun e w' => e = .returned (.bool r) ∧ Below w.heap.size w w' := by
  have hu24 := Try.underlying24
  have HR0 := Aside0.mk hr0
  have HC0 := Aside0.mk hc0
  clear hr0 hc0
  have HB := Aside0.mk (Below.refl w.heap.size w)
  have H : ((mosaiclaw09_alive.f k).bind fun t440 => (if t440 = true then ((mosaiclaw09_own.f k l0).bind fun t441 => ((span_Norm.f k t441).bind fun bt444 => (mosaiclaw09_SpanNorms.l0 k l0 a1 bt444.1 bt444.2 ([] : List (S24)) (wrap64 ((l0.length : Int) - 1))))) else (some false))) = some r := h
  clear h
  replace H := Option.bind_eq_some_iff.mp H
  obtain ⟨t440, A30, H⟩ := H
  replace H : (if t440 = true then ((mosaiclaw09_own.f k l0).bind fun t441 => ((span_Norm.f k t441).bind fun bt444 => (mosaiclaw09_SpanNorms.l0 k l0 a1 bt444.1 bt444.2 ([] : List (S24)) (wrap64 ((l0.length : Int) - 1))))) else (some false)) = some r := H
  have A3 := Aside0.mk A30
  clear A30
  by_cases c4 : t440 = true
  · subst c4
    have H1 : ((mosaiclaw09_own.f k l0).bind fun t441 => ((span_Norm.f k t441).bind fun bt444 => (mosaiclaw09_SpanNorms.l0 k l0 a1 bt444.1 bt444.2 ([] : List (S24)) (wrap64 ((l0.length : Int) - 1))))) = some r := by rw [if_pos rfl] at H; exact H
    clear H
    have H := H1
    clear H1
    replace H := Option.bind_eq_some_iff.mp H
    obtain ⟨t441, A50, H⟩ := H
    replace H : ((span_Norm.f k t441).bind fun bt444 => (mosaiclaw09_SpanNorms.l0 k l0 a1 bt444.1 bt444.2 ([] : List (S24)) (wrap64 ((l0.length : Int) - 1)))) = some r := H
    have A5 := Aside0.mk A50
    clear A50
    replace H := Option.bind_eq_some_iff.mp H
    obtain ⟨⟨t444, t445⟩, A60, H⟩ := H
    replace H : (mosaiclaw09_SpanNorms.l0 k l0 a1 t444 t445 ([] : List (S24)) (wrap64 ((l0.length : Int) - 1))) = some r := H
    have A6 := Aside0.mk A60
    clear A60
    have H' := Aside0.mk H
    clear H
    go_enter Try.func5, Try.ntmps5
    go_wp2_with (first | ((with_reducible refine gate_callee (f := 8) rfl ?_); refine goesL_ (some 15) rfl rfl Try.func8 (by kernel_rfl) rfl #[] rfl (by (try simp only [List.map_toArray, List.map_cons, List.map_nil]); first | done | rfl | (simp only [List.length_drop, List.length_take]; rfl)) ?_; (with_reducible refine (mosaiclaw09_alive.calls k  true _ A3.out).mono ?_); rintro e w7 ⟨rfl, hb⟩; refine ⟨_, rfl, ?_⟩; have n0_ := Aside0.mk (below_step (by repeat (first | (with_reducible first | exact HB.out | apply below_alloc | apply pw_below_drewN | apply below_drew1) | exact HB.out)) hb); clear HB; have HB := n0_; clear n0_; (try clear hb); (try clear hb2); (try clear hk); (try clear hi)) | ((with_reducible refine gate_callee (f := 10) rfl ?_); refine goesL_ (some 20) rfl rfl Try.func10 (by kernel_rfl) rfl #[.slice A0 l0.length c0] rfl (by (try simp only [List.map_toArray, List.map_cons, List.map_nil]); first | done | rfl | (simp only [List.length_drop, List.length_take]; rfl)) ?_; (with_reducible refine (mosaiclaw09_own.calls k _ _ l0 t441 _ ?side1 ?side2 A5.out).mono ?_); (case side1 => repeat (first | exact (Kd.C_below HR0.out HB.out) | (with_reducible refine Kd.C_alloc ?_ _) | (with_reducible refine Kd.C_drewN ?_ _) | (with_reducible refine Kd.C_drew ?_))); (case side2 => exact HC0.out); rintro e w8 ⟨v442, rfl, ho0, hb⟩; refine ⟨_, rfl, ?_⟩; have n0_ := Aside0.mk (Kd.R_lower ho0 (below_size (by repeat (first | (with_reducible first | exact HB.out | apply below_alloc | apply pw_below_drewN | apply below_drew1) | exact HB.out)))); have n1_ := Aside0.mk (below_step (by repeat (first | (with_reducible first | exact HB.out | apply below_alloc | apply pw_below_drewN | apply below_drew1) | exact HB.out)) hb); clear HB; have HO443 := n0_; have HB := n1_; clear n0_ n1_; (try clear hb); (try clear hb2); (try clear hk); (try clear hi); (try clear ho0); obtain ⟨Ao9, co9, eo9⟩ := Kd.R_slice HO443.out; subst eo9) | ((with_reducible refine gate_callee (f := 9) rfl ?_); refine goesL_ (some 21) rfl rfl Try.func9 (by kernel_rfl) rfl #[.slice Ao9 t441.length co9] rfl (by (try simp only [List.map_toArray, List.map_cons, List.map_nil]); first | done | rfl | (simp only [List.length_drop, List.length_take]; rfl)) ?_; (with_reducible refine (span_Norm.calls k _ _ t441 t444 t445 _ ?side1 ?side2 A6.out).mono ?_); (case side1 => repeat (first | exact (Kd.R_reads' HO443.out).2.2 | (with_reducible refine Kd.C_alloc ?_ _) | (with_reducible refine Kd.C_drewN ?_ _) | (with_reducible refine Kd.C_drew ?_))); (case side2 => exact (Kd.R_reads' HO443.out).2.1); rintro e w10 ⟨v446, rfl, ho0, hb⟩; refine ⟨_, rfl, ?_⟩; have n0_ := Aside0.mk (Kd.R_elder' (by (with_reducible repeat (first | apply Kd.R_alloc | apply Kd.R_drewN | apply Kd.R_drew)); exact HO443.out) (Kd.R_base ho0) hb); have n1_ := Aside0.mk (Kd.R_lower (Kd.R_new' ho0 (Kd.R_lt (by (with_reducible repeat (first | apply Kd.R_alloc | apply Kd.R_drewN | apply Kd.R_drew)); exact HO443.out))) (below_size (by repeat (first | (with_reducible first | exact HB.out | apply below_alloc | apply pw_below_drewN | apply below_drew1) | exact HB.out)))); have n2_ := Aside0.mk (below_step (by repeat (first | (with_reducible first | exact HB.out | apply below_alloc | apply pw_below_drewN | apply below_drew1) | exact HB.out)) hb); clear HO443; clear HB; have HO443 := n0_; have HO447 := n1_; have HB := n2_; clear n0_ n1_ n2_; (try clear hb); (try clear hb2); (try clear hk); (try clear hi); (try clear ho0)))
    go_loopg [8, 9] k (fun kq v8 v9 w' => ∃ (x8_1 : List (S24)) (x9_1 : Int), v9 = .int .i64 x9_1 ∧ Aside0 (mosaiclaw09_SpanNorms.l0 kq l0 a1 t444 t445 x8_1 x9_1 = some r) ∧ Aside0 (kq ≤ k) ∧ Aside0 (Kd.R k24 24 w' w.heap.size (fun k_ => some k_ ≠ (v8 : Value).ownBlock) v446 t444) ∧ Aside0 (Kd.R k24 24 w' w.heap.size (fun k_ => some k_ ≠ (v446 : Value).ownBlock) v8 x8_1) ∧ Aside0 (Below w.heap.size w w'))
    case atStart => exact ⟨(([] : List (S24))), (wrap64 ((l0.length : Int) - 1)), (by first | rfl | (simp; done) | (simp [*]; done)), H', ⟨Nat.le_refl _⟩, ⟨by (with_reducible repeat (first | apply Kd.R_alloc | apply Kd.R_drewN | apply Kd.R_drew)); exact Kd.R_mono HO447.out (fun _ hk => (by simp [Value.ownBlock]))⟩, ⟨by first | exact Kd.R_nil _ _ _ _ _ | exact Kd.N_nil _ _ _ _ _ | exact Kd.V_nil _ _ _ _ _ | exact Kd.Q_nil _ _ _ _ _ | exact Kd.S_nil _ _ _ _ _⟩, ⟨by repeat (first | (with_reducible first | exact HB.out | apply below_alloc | apply pw_below_drewN | apply below_drew1) | exact HB.out)⟩⟩
    case round =>
      clear H'
      try clear c1
      try clear p2
      try clear c4
      try clear c5
      try clear p6
      try clear c8
      try clear c9
      try clear c10
      obtain ⟨x8_1, x9_1, rfl, HA, HK1, HO_6, HO_8, HB⟩ := hrel
      cases gk with
      | zero => exact absurd HA.out (by simp [mosaiclaw09_SpanNorms.l0])
      | succ k1 =>
        have H := HA.out
        clear HA
        simp only [mosaiclaw09_SpanNorms.l0] at H
        by_cases c11 : x9_1 ≥ 0
        · rw [if_pos c11] at H
          have c11b0 : decide (0 ≤ x9_1) = true := decide_eq_true c11
          clear c11
          by_cases c12 : 0 ≤ x9_1
          · rw [if_pos c12] at H
            have c12b0 : decide (0 ≤ x9_1) = true := decide_eq_true c12
            clear c12
            by_cases c13 : x9_1 < (l0.length : Int)
            · rw [if_pos c13] at H
              have c13b0 : decide (x9_1 < (l0.length : Int)) = true := decide_eq_true c13
              clear c13
              by_cases c14 : x8_1.length < 8796093022208
              · rw [if_pos c14] at H
                have LMc14 := Aside0.mk c14
                clear c14
                obtain ⟨y449, hy449⟩ : ∃ y_ : List (S24), y_ = (x8_1 ++ [(⟨(rd_T24 l0 x9_1).f0, (rd_T24 l0 x9_1).f1⟩ : S24)]) := ⟨_, rfl⟩
                replace H : (mosaiclaw09_SpanNorms.l0 k1 l0 a1 t444 t445 y449 (wrap64 (x9_1 - 1))) = some r := by first | (rw [hy449]; with_reducible exact H) | (have H2_ := (Option.bind_some _ _).symm.trans H; rw [hy449]; with_reducible exact H2_) | (have H2_ := (Option.bind_some _ _).symm.trans H; with_reducible exact H2_) | with_reducible exact H | (rw [hy449]; exact H) | exact H
                have Ny449 := Aside0.mk hy449
                clear hy449
                have H' := Aside0.mk H
                clear H
                have p448 : 0 ≤ (x9_1 : Int) := of_decide_eq_true (by first | (with_reducible assumption) | assumption)
                have q448 : x9_1 < (l0.length : Int) := of_decide_eq_true (by first | (with_reducible assumption) | assumption)
                obtain ⟨ad448, e448, hx448_0, hx448_1⟩ := at_T24 HR0.out x9_1 p448 q448
                cases e448
                replace hx448_0 := (HB.out.cell (World.block_lt_of_cell? w _ hx448_0)).trans hx448_0
                replace hx448_1 := (HB.out.cell (World.block_lt_of_cell? w _ hx448_1)).trans hx448_1
                replace p448 := eq_true p448
                replace q448 := eq_true q448
                go_wp2_with (first | ((with_reducible refine gate_builtin (b := .append) (xs := #[.tmp 31, .tmp 36]) rfl ?_); (try (refine gate_guard (by rfl) ?_; dsimp only)); at_builtin; refine Kd.R_append k24 (w0 := w) w.heap.size rfl (.tmp 31) (.tmp 36) 22 24 (.agg #[(.int .i64 0), (.int .i64 0)]) 16 rfl Try.underlying22 info24 rfl (by decide) (by omega) u8 x8_1 (⟨(rd_T24 l0 x9_1).f0, (rd_T24 l0 x9_1).f1⟩ : S24) [.int .i64 ((rd_T24 l0 x9_1).f0), .int .i64 ((rd_T24 l0 x9_1).f1)] (fun k_ => some k_ ≠ (v446 : Value).ownBlock) (fun _ => False) rfl rfl ?aP (fun _ hk => hk.elim) ?aF ?aO ?aB ?aS ?aL ?_; (case aP => exact k24_mkM _ _ _ (⟨(rd_T24 l0 x9_1).f0, (rd_T24 l0 x9_1).f1⟩ : S24)); (case aB => exact (by repeat (first | (with_reducible first | exact HB.out | apply below_alloc | apply pw_below_drewN | apply below_drew1) | exact HB.out))); (case aF => exact (fun k_ hk => Kd.fresh' (Kd.R_lt (by (with_reducible repeat (first | apply Kd.R_alloc | apply Kd.R_drewN | apply Kd.R_drew)); exact HO_6.out)) k_ hk)); (case aO => exact (by (with_reducible repeat (first | apply Kd.R_alloc | apply Kd.R_drewN | apply Kd.R_drew)); exact HO_8.out)); (case aS => exact (below_size (by repeat (first | (with_reducible first | exact HB.out | apply below_alloc | apply pw_below_drewN | apply below_drew1) | exact HB.out)))); (case aL => have := LMc14.out; omega); intro v450 w15 ho hb hg hat; rw [← Ny449.out] at ho; have n0_ := Aside0.mk (Kd.R_after (ok := (fun _ => True)) (by (with_reducible repeat (first | apply Kd.R_alloc | apply Kd.R_drewN | apply Kd.R_drew)); exact Kd.R_mono HO_6.out (fun _ hk => ⟨trivial, hk⟩)) hg hat); have n1_ := Aside0.mk (hb); have n2_ := Aside0.mk (ho); clear HO_6; clear HB; clear HO_8; have HO_6 := n0_; have HB := n1_; have HO451 := n2_; clear n0_ n1_ n2_; clear ho hb hg hat))
                go_roundg k1
                case measure => have := HK1.out; omega
                case rel => exact ⟨(y449), (wrap64 (x9_1 - 1)), (by first | rfl | (simp; done) | (simp [*]; done)), H', ⟨by have := HK1.out; omega⟩, ⟨by (with_reducible repeat (first | apply Kd.R_alloc | apply Kd.R_drewN | apply Kd.R_drew)); exact Kd.R_mono HO_6.out (fun _ hk => hk.2)⟩, ⟨by (with_reducible repeat (first | apply Kd.R_alloc | apply Kd.R_drewN | apply Kd.R_drew)); exact HO451.out⟩, ⟨by repeat (first | (with_reducible first | exact HB.out | apply below_alloc | apply pw_below_drewN | apply below_drew1) | exact HB.out)⟩⟩
              · rw [if_neg c14] at H
                exact absurd H (by simp)
            · rw [if_neg c13] at H
              exact absurd H (by simp)
          · rw [if_neg c12] at H
            exact absurd H (by simp)
        · rw [if_neg c11] at H
          have c11b0 : decide (0 ≤ x9_1) = false := decide_eq_false c11
          clear c11
          have HC16 := Aside0.mk H
          clear H
          go_upto_if 39 with (fail)
          go_cut [1] (fun v1 wc => ∃ (kq : Nat) (x1_15 : Int), v1 = .int .i64 x1_15 ∧ Aside0 (mosaiclaw09_SpanNorms.j1 kq l0 x1_15 t444 t445 x8_1 = some r) ∧ Aside0 (kq ≤ k1) ∧ Aside0 (Kd.R k24 24 wc w.heap.size (fun k_ => some k_ ≠ (u8 : Value).ownBlock) v446 t444) ∧ Aside0 (Kd.R k24 24 wc w.heap.size (fun k_ => some k_ ≠ (v446 : Value).ownBlock) u8 x8_1) ∧ Aside0 (Below w.heap.size w wc))
          case first =>
            have H := HC16.out
            clear HC16
            by_cases c17 : a1 < 0
            · rw [if_pos c17] at H
              have c17b0 : decide (a1 < 0) = true := decide_eq_true c17
              clear c17
              (first | rw [c17b0] | (simp only [i64_w, i32_w]; rw [c17b0]) | skip)
              have H' := Aside0.mk H
              clear H
              go_wp2
              go_meet
              case rel => exact ⟨_, (wrap64 ((-1) - a1)), (by first | rfl | (simp; done) | (simp [*]; done)), H', ⟨by have := HK1.out; first | omega | exact Nat.le_refl _⟩, ⟨by (with_reducible repeat (first | apply Kd.R_alloc | apply Kd.R_drewN | apply Kd.R_drew)); exact HO_6.out⟩, ⟨by (with_reducible repeat (first | apply Kd.R_alloc | apply Kd.R_drewN | apply Kd.R_drew)); exact HO_8.out⟩, ⟨by repeat (first | (with_reducible first | exact HB.out | apply below_alloc | apply pw_below_drewN | apply below_drew1) | exact HB.out)⟩⟩
            · rw [if_neg c17] at H
              have c17b0 : decide (a1 < 0) = false := decide_eq_false c17
              clear c17
              (first | rw [c17b0] | (simp only [i64_w, i32_w]; rw [c17b0]) | skip)
              have H' := Aside0.mk H
              clear H
              go_wp2
              go_meet
              case rel => exact ⟨_, (a1), (by first | rfl | (simp; done) | (simp [*]; done)), H', ⟨by have := HK1.out; first | omega | exact Nat.le_refl _⟩, ⟨by (with_reducible repeat (first | apply Kd.R_alloc | apply Kd.R_drewN | apply Kd.R_drew)); exact HO_6.out⟩, ⟨by (with_reducible repeat (first | apply Kd.R_alloc | apply Kd.R_drewN | apply Kd.R_drew)); exact HO_8.out⟩, ⟨by repeat (first | (with_reducible first | exact HB.out | apply below_alloc | apply pw_below_drewN | apply below_drew1) | exact HB.out)⟩⟩
          case rest =>
            clear HC16
            try clear c1
            try clear p2
            try clear c4
            try clear p4
            try clear q4
            try clear hx4
            try clear c5
            try clear p6
            try clear c8
            try clear c9
            try clear c10
            try clear c11
            try clear c11b0
            try clear c12
            try clear c12b0
            try clear c13
            try clear c13b0
            try clear c14
            try clear c17
            try clear c17b0
            try clear hx448_0
            try clear hx448_1
            try clear p2
            try clear p448
            try clear p6
            try clear q448
            obtain ⟨kq, x1_15, rfl, HA, HJ15, HO_6, HO_8, HB⟩ := hcut
            cases kq with
            | zero => exact absurd HA.out (by simp [mosaiclaw09_SpanNorms.j1])
            | succ kj15 =>
              have H := HA.out
              clear HA
              simp only [mosaiclaw09_SpanNorms.j1] at H
              have H' := Aside0.mk H
              clear H
              go_wp2
              go_loopg [8, 10] kj15 (fun kq v8 v10 w' => ∃ (x8_3 : List (S24)) (x10_3 : Int), v10 = .int .i64 x10_3 ∧ Aside0 (mosaiclaw09_SpanNorms.l1 kq l0 x1_15 t444 t445 x8_3 x10_3 = some r) ∧ Aside0 (kq ≤ kj15) ∧ Aside0 (Kd.R k24 24 w' w.heap.size (fun k_ => some k_ ≠ (v8 : Value).ownBlock) v446 t444) ∧ Aside0 (Kd.R k24 24 w' w.heap.size (fun k_ => some k_ ≠ (v446 : Value).ownBlock) v8 x8_3) ∧ Aside0 (Below w.heap.size w w'))
              case atStart => exact ⟨(x8_1), (0), (by first | rfl | (simp; done) | (simp [*]; done)), H', ⟨Nat.le_refl _⟩, ⟨by (with_reducible repeat (first | apply Kd.R_alloc | apply Kd.R_drewN | apply Kd.R_drew)); exact HO_6.out⟩, ⟨by (with_reducible repeat (first | apply Kd.R_alloc | apply Kd.R_drewN | apply Kd.R_drew)); exact HO_8.out⟩, ⟨by repeat (first | (with_reducible first | exact HB.out | apply below_alloc | apply pw_below_drewN | apply below_drew1) | exact HB.out)⟩⟩
              case round =>
                clear H'
                try clear c1
                try clear p2
                try clear c4
                try clear p4
                try clear q4
                try clear hx4
                try clear c5
                try clear p6
                try clear c8
                try clear c9
                try clear c10
                try clear c11
                try clear c11b0
                try clear c12
                try clear c12b0
                try clear c13
                try clear c13b0
                try clear c14
                try clear c17
                try clear c17b0
                try clear hx448_0
                try clear hx448_1
                try clear p2
                try clear p4
                try clear p448
                try clear p6
                try clear q4
                try clear q448
                obtain ⟨x8_3, x10_3, rfl, HA, HK3, HO_6, HO_8, HB⟩ := hrel
                cases gk with
                | zero => exact absurd HA.out (by simp [mosaiclaw09_SpanNorms.l1])
                | succ k3 =>
                  have H := HA.out
                  clear HA
                  simp only [mosaiclaw09_SpanNorms.l1] at H
                  have HC18 := Aside0.mk H
                  clear H
                  go_upto_region 13 with (fail)
                  go_cut [50] (fun v50 wc => ∃ (kq : Nat) (x50_17 : Bool), v50 = .bool x50_17 ∧ Aside0 (mosaiclaw09_SpanNorms.j3 kq l0 x1_15 t444 t445 x8_3 x10_3 x50_17 = some r) ∧ Aside0 (kq ≤ k3) ∧ Aside0 (Kd.R k24 24 wc w.heap.size (fun k_ => some k_ ≠ (u8 : Value).ownBlock) v446 t444) ∧ Aside0 (Kd.R k24 24 wc w.heap.size (fun k_ => some k_ ≠ (v446 : Value).ownBlock) u8 x8_3) ∧ Aside0 (Below w.heap.size w wc))
                  case first =>
                    have H := HC18.out
                    clear HC18
                    by_cases c19 : x10_3 < (l0.length : Int)
                    · rw [if_pos c19] at H
                      have c19b0 : decide (x10_3 < (l0.length : Int)) = true := decide_eq_true c19
                      clear c19
                      (first | rw [c19b0] | (simp only [i64_w, i32_w]; rw [c19b0]) | skip)
                      have H' := Aside0.mk H
                      clear H
                      go_wp2
                      go_meet
                      case rel => exact ⟨_, (decide ((l0.length : Int) > 0)), (by first | rfl | (simp; done) | (simp [*]; done)), H', ⟨by have := HK1.out; have := HJ15.out; have := HK3.out; first | omega | exact Nat.le_refl _⟩, ⟨by (with_reducible repeat (first | apply Kd.R_alloc | apply Kd.R_drewN | apply Kd.R_drew)); exact HO_6.out⟩, ⟨by (with_reducible repeat (first | apply Kd.R_alloc | apply Kd.R_drewN | apply Kd.R_drew)); exact HO_8.out⟩, ⟨by repeat (first | (with_reducible first | exact HB.out | apply below_alloc | apply pw_below_drewN | apply below_drew1) | exact HB.out)⟩⟩
                    · rw [if_neg c19] at H
                      have c19b0 : decide (x10_3 < (l0.length : Int)) = false := decide_eq_false c19
                      clear c19
                      (first | rw [c19b0] | (simp only [i64_w, i32_w]; rw [c19b0]) | skip)
                      have H' := Aside0.mk H
                      clear H
                      go_wp2
                      go_meet
                      case rel => exact ⟨_, (false), (by first | rfl | (simp; done) | (simp [*]; done)), H', ⟨by have := HK1.out; have := HJ15.out; have := HK3.out; first | omega | exact Nat.le_refl _⟩, ⟨by (with_reducible repeat (first | apply Kd.R_alloc | apply Kd.R_drewN | apply Kd.R_drew)); exact HO_6.out⟩, ⟨by (with_reducible repeat (first | apply Kd.R_alloc | apply Kd.R_drewN | apply Kd.R_drew)); exact HO_8.out⟩, ⟨by repeat (first | (with_reducible first | exact HB.out | apply below_alloc | apply pw_below_drewN | apply below_drew1) | exact HB.out)⟩⟩
                  case rest =>
                    clear HC18
                    try clear c1
                    try clear p2
                    try clear c4
                    try clear p4
                    try clear q4
                    try clear hx4
                    try clear c5
                    try clear p6
                    try clear c8
                    try clear c9
                    try clear c10
                    try clear c11
                    try clear c11b0
                    try clear c12
                    try clear c12b0
                    try clear c13
                    try clear c13b0
                    try clear c14
                    try clear c17
                    try clear c17b0
                    try clear c19
                    try clear c19b0
                    try clear hx448_0
                    try clear hx448_1
                    try clear p2
                    try clear p4
                    try clear p448
                    try clear p6
                    try clear q4
                    try clear q448
                    obtain ⟨kq, x50_17, rfl, HA, HJ17, HO_6, HO_8, HB⟩ := hcut
                    cases kq with
                    | zero => exact absurd HA.out (by simp [mosaiclaw09_SpanNorms.j3])
                    | succ kj17 =>
                      have H := HA.out
                      clear HA
                      simp only [mosaiclaw09_SpanNorms.j3] at H
                      by_cases c20 : x50_17 = true
                      · subst c20
                        have H1 : (if (Int.tmod x10_3 2) = (Int.tmod x1_15 2) then (if 0 ≤ x10_3 then (if x10_3 < (l0.length : Int) then (if x8_3.length < 8796093022208 then (mosaiclaw09_SpanNorms.l1 kj17 l0 x1_15 t444 t445 (x8_3 ++ [(⟨(rd_T24 l0 x10_3).f0, (rd_T24 l0 x10_3).f1⟩ : S24)]) (wrap64 (x10_3 + 1))) else (none)) else (none)) else (none)) else (mosaiclaw09_SpanNorms.l1 kj17 l0 x1_15 t444 t445 x8_3 (wrap64 (x10_3 + 1)))) = some r := by rw [if_pos rfl] at H; exact H
                        clear H
                        have H := H1
                        clear H1
                        by_cases c21 : (Int.tmod x10_3 2) = (Int.tmod x1_15 2)
                        · rw [if_pos c21] at H
                          have c21b0 : ((Int.tmod x10_3 2) == (Int.tmod x1_15 2)) = true := beq_iff_eq.mpr c21
                          have c21b1 : ((Int.tmod x10_3 2) != (Int.tmod x1_15 2)) = false := bne_eq_false_iff_eq.mpr c21
                          clear c21
                          by_cases c22 : 0 ≤ x10_3
                          · rw [if_pos c22] at H
                            have c22b0 : decide (0 ≤ x10_3) = true := decide_eq_true c22
                            clear c22
                            by_cases c23 : x10_3 < (l0.length : Int)
                            · rw [if_pos c23] at H
                              have c23b0 : decide (x10_3 < (l0.length : Int)) = true := decide_eq_true c23
                              clear c23
                              by_cases c24 : x8_3.length < 8796093022208
                              · rw [if_pos c24] at H
                                have LMc24 := Aside0.mk c24
                                clear c24
                                obtain ⟨y453, hy453⟩ : ∃ y_ : List (S24), y_ = (x8_3 ++ [(⟨(rd_T24 l0 x10_3).f0, (rd_T24 l0 x10_3).f1⟩ : S24)]) := ⟨_, rfl⟩
                                replace H : (mosaiclaw09_SpanNorms.l1 kj17 l0 x1_15 t444 t445 y453 (wrap64 (x10_3 + 1))) = some r := by first | (rw [hy453]; with_reducible exact H) | (have H2_ := (Option.bind_some _ _).symm.trans H; rw [hy453]; with_reducible exact H2_) | (have H2_ := (Option.bind_some _ _).symm.trans H; with_reducible exact H2_) | with_reducible exact H | (rw [hy453]; exact H) | exact H
                                have Ny453 := Aside0.mk hy453
                                clear hy453
                                have H' := Aside0.mk H
                                clear H
                                have p452 : 0 ≤ (x10_3 : Int) := of_decide_eq_true (by first | (with_reducible assumption) | assumption)
                                have q452 : x10_3 < (l0.length : Int) := of_decide_eq_true (by first | (with_reducible assumption) | assumption)
                                obtain ⟨ad452, e452, hx452_0, hx452_1⟩ := at_T24 HR0.out x10_3 p452 q452
                                cases e452
                                replace hx452_0 := (HB.out.cell (World.block_lt_of_cell? w _ hx452_0)).trans hx452_0
                                replace hx452_1 := (HB.out.cell (World.block_lt_of_cell? w _ hx452_1)).trans hx452_1
                                replace p452 := eq_true p452
                                replace q452 := eq_true q452
                                go_wp2_with (first | ((with_reducible refine gate_builtin (b := .append) (xs := #[.tmp 58, .tmp 63]) rfl ?_); (try (refine gate_guard (by rfl) ?_; dsimp only)); at_builtin; refine Kd.R_append k24 (w0 := w) w.heap.size rfl (.tmp 58) (.tmp 63) 22 24 (.agg #[(.int .i64 0), (.int .i64 0)]) 16 rfl Try.underlying22 info24 rfl (by decide) (by omega) u8 x8_3 (⟨(rd_T24 l0 x10_3).f0, (rd_T24 l0 x10_3).f1⟩ : S24) [.int .i64 ((rd_T24 l0 x10_3).f0), .int .i64 ((rd_T24 l0 x10_3).f1)] (fun k_ => some k_ ≠ (v446 : Value).ownBlock) (fun _ => False) rfl rfl ?aP (fun _ hk => hk.elim) ?aF ?aO ?aB ?aS ?aL ?_; (case aP => exact k24_mkM _ _ _ (⟨(rd_T24 l0 x10_3).f0, (rd_T24 l0 x10_3).f1⟩ : S24)); (case aB => exact (by repeat (first | (with_reducible first | exact HB.out | apply below_alloc | apply pw_below_drewN | apply below_drew1) | exact HB.out))); (case aF => exact (fun k_ hk => Kd.fresh' (Kd.R_lt (by (with_reducible repeat (first | apply Kd.R_alloc | apply Kd.R_drewN | apply Kd.R_drew)); exact HO_6.out)) k_ hk)); (case aO => exact (by (with_reducible repeat (first | apply Kd.R_alloc | apply Kd.R_drewN | apply Kd.R_drew)); exact HO_8.out)); (case aS => exact (below_size (by repeat (first | (with_reducible first | exact HB.out | apply below_alloc | apply pw_below_drewN | apply below_drew1) | exact HB.out)))); (case aL => have := LMc24.out; omega); intro v454 w25 ho hb hg hat; rw [← Ny453.out] at ho; have n0_ := Aside0.mk (Kd.R_after (ok := (fun _ => True)) (by (with_reducible repeat (first | apply Kd.R_alloc | apply Kd.R_drewN | apply Kd.R_drew)); exact Kd.R_mono HO_6.out (fun _ hk => ⟨trivial, hk⟩)) hg hat); have n1_ := Aside0.mk (hb); have n2_ := Aside0.mk (ho); clear HO_6; clear HB; clear HO_8; have HO_6 := n0_; have HB := n1_; have HO455 := n2_; clear n0_ n1_ n2_; clear ho hb hg hat))
                                go_roundg kj17
                                case measure => have := HK1.out; have := HJ15.out; have := HK3.out; have := HJ17.out; omega
                                case rel => exact ⟨(y453), (wrap64 (x10_3 + 1)), (by first | rfl | (simp; done) | (simp [*]; done)), H', ⟨by have := HK1.out; have := HJ15.out; have := HK3.out; have := HJ17.out; omega⟩, ⟨by (with_reducible repeat (first | apply Kd.R_alloc | apply Kd.R_drewN | apply Kd.R_drew)); exact Kd.R_mono HO_6.out (fun _ hk => hk.2)⟩, ⟨by (with_reducible repeat (first | apply Kd.R_alloc | apply Kd.R_drewN | apply Kd.R_drew)); exact HO455.out⟩, ⟨by repeat (first | (with_reducible first | exact HB.out | apply below_alloc | apply pw_below_drewN | apply below_drew1) | exact HB.out)⟩⟩
                              · rw [if_neg c24] at H
                                exact absurd H (by simp)
                            · rw [if_neg c23] at H
                              exact absurd H (by simp)
                          · rw [if_neg c22] at H
                            exact absurd H (by simp)
                        · rw [if_neg c21] at H
                          have c21b0 : ((Int.tmod x10_3 2) == (Int.tmod x1_15 2)) = false := beq_eq_false_iff_ne.mpr c21
                          have c21b1 : ((Int.tmod x10_3 2) != (Int.tmod x1_15 2)) = true := bne_iff_ne.mpr c21
                          have H' := Aside0.mk H
                          clear H
                          go_wp2
                          go_roundg kj17
                          case measure => have := HK1.out; have := HJ15.out; have := HK3.out; have := HJ17.out; omega
                          case rel => exact ⟨(x8_3), (wrap64 (x10_3 + 1)), (by first | rfl | (simp; done) | (simp [*]; done)), H', ⟨by have := HK1.out; have := HJ15.out; have := HK3.out; have := HJ17.out; omega⟩, ⟨by (with_reducible repeat (first | apply Kd.R_alloc | apply Kd.R_drewN | apply Kd.R_drew)); exact HO_6.out⟩, ⟨by (with_reducible repeat (first | apply Kd.R_alloc | apply Kd.R_drewN | apply Kd.R_drew)); exact HO_8.out⟩, ⟨by repeat (first | (with_reducible first | exact HB.out | apply below_alloc | apply pw_below_drewN | apply below_drew1) | exact HB.out)⟩⟩
                      · replace c20 := Bool.eq_false_iff.mpr c20
                        subst c20
                        have H1 : ((span_Norm.f kj17 x8_3).bind fun bt456 => (if t445 = bt456.2 then ((mosaiclaw09_same.f kj17 t444 bt456.1).bind fun t460 => (mosaiclaw09_SpanNorms.j4 kj17 l0 t444 t445 (!t460))) else (mosaiclaw09_SpanNorms.j4 kj17 l0 t444 t445 true))) = some r := by rw [if_neg (show ¬ (false = true) by decide)] at H; exact H
                        clear H
                        have H := H1
                        clear H1
                        replace H := Option.bind_eq_some_iff.mp H
                        obtain ⟨⟨t456, t457⟩, A260, H⟩ := H
                        replace H : (if t445 = t457 then ((mosaiclaw09_same.f kj17 t444 t456).bind fun t460 => (mosaiclaw09_SpanNorms.j4 kj17 l0 t444 t445 (!t460))) else (mosaiclaw09_SpanNorms.j4 kj17 l0 t444 t445 true)) = some r := H
                        have A26 := Aside0.mk A260
                        clear A260
                        have HC27 := Aside0.mk H
                        clear H
                        obtain ⟨Ao28, co28, eo28⟩ := Kd.R_slice HO_8.out
                        subst eo28
                        go_upto_region 18 with (first | ((with_reducible refine gate_callee (f := 9) rfl ?_); refine goesL_ (some 67) rfl rfl Try.func9 (by kernel_rfl) rfl #[.slice Ao28 x8_3.length co28] rfl (by (try simp only [List.map_toArray, List.map_cons, List.map_nil]); first | done | rfl | (simp only [List.length_drop, List.length_take]; rfl)) ?_; (with_reducible refine (span_Norm.calls kj17 _ _ x8_3 t456 t457 _ ?side1 ?side2 A26.out).mono ?_); (case side1 => repeat (first | exact (Kd.R_reads' HO_8.out).2.2 | (with_reducible refine Kd.C_alloc ?_ _) | (with_reducible refine Kd.C_drewN ?_ _) | (with_reducible refine Kd.C_drew ?_))); (case side2 => exact (Kd.R_reads' HO_8.out).2.1); rintro e w29 ⟨v458, rfl, ho0, hb⟩; refine ⟨_, rfl, ?_⟩; have n0_ := Aside0.mk (Kd.R_elder' (by (with_reducible repeat (first | apply Kd.R_alloc | apply Kd.R_drewN | apply Kd.R_drew)); exact HO_6.out) (Kd.R_base ho0) hb); have n1_ := Aside0.mk (Kd.R_elder' (by (with_reducible repeat (first | apply Kd.R_alloc | apply Kd.R_drewN | apply Kd.R_drew)); exact HO_8.out) (Kd.R_base ho0) hb); have n2_ := Aside0.mk (Kd.R_lower (Kd.R_new' (Kd.R_new' ho0 (Kd.R_lt (by (with_reducible repeat (first | apply Kd.R_alloc | apply Kd.R_drewN | apply Kd.R_drew)); exact HO_6.out))) (Kd.R_lt (by (with_reducible repeat (first | apply Kd.R_alloc | apply Kd.R_drewN | apply Kd.R_drew)); exact HO_8.out))) (below_size (by repeat (first | (with_reducible first | exact HB.out | apply below_alloc | apply pw_below_drewN | apply below_drew1) | exact HB.out)))); have n3_ := Aside0.mk (below_step (by repeat (first | (with_reducible first | exact HB.out | apply below_alloc | apply pw_below_drewN | apply below_drew1) | exact HB.out)) hb); clear HO_6; clear HO_8; clear HB; have HO_6 := n0_; have HO_8 := n1_; have HO459 := n2_; have HB := n3_; clear n0_ n1_ n2_ n3_; (try clear hb); (try clear hb2); (try clear hk); (try clear hi); (try clear ho0)))
                        (try simp only [Act.put, List.setIfInBounds_toArray, List.set_cons_zero, List.set_cons_succ])
                        go_cut [78] (fun v78 wc => ∃ (kq : Nat) (x78_26 : Bool), v78 = .bool x78_26 ∧ Aside0 (mosaiclaw09_SpanNorms.j4 kq l0 t444 t445 x78_26 = some r) ∧ Aside0 (kq ≤ kj17) ∧ Aside0 (Kd.R k24 24 wc w.heap.size (fun _ => True) v446 t444) ∧ Aside0 (Below w.heap.size w wc))
                        case first =>
                          have H := HC27.out
                          clear HC27
                          by_cases c30 : t445 = t457
                          · rw [if_pos c30] at H
                            have c30b0 : (t445 == t457) = true := beq_iff_eq.mpr c30
                            have c30b1 : (t445 != t457) = false := bne_eq_false_iff_eq.mpr c30
                            clear c30
                            (first | rw [c30b0] | (simp only [i64_w, i32_w]; rw [c30b0]) | skip)
                            replace H := Option.bind_eq_some_iff.mp H
                            obtain ⟨t460, A310, H⟩ := H
                            replace H : (mosaiclaw09_SpanNorms.j4 kj17 l0 t444 t445 (!t460)) = some r := H
                            have A31 := Aside0.mk A310
                            clear A310
                            have H' := Aside0.mk H
                            clear H
                            obtain ⟨Ao32, co32, eo32⟩ := Kd.R_slice HO_6.out
                            subst eo32
                            obtain ⟨Ao33, co33, eo33⟩ := Kd.R_slice HO459.out
                            subst eo33
                            go_wp2_with (first | (go_at_call 12; (with_reducible refine (mosaiclaw09_same.calls kj17 _ _ t444 _ _ t456 t460 _ ?side1 ?side2 ?side3 ?side4 A31.out).mono ?_); (case side1 => repeat (first | exact (Kd.R_reads' HO_6.out).2.2 | (with_reducible refine Kd.C_alloc ?_ _) | (with_reducible refine Kd.C_drewN ?_ _) | (with_reducible refine Kd.C_drew ?_))); (case side2 => exact (Kd.R_reads' HO_6.out).2.1); (case side3 => repeat (first | exact (Kd.R_reads' HO459.out).2.2 | (with_reducible refine Kd.C_alloc ?_ _) | (with_reducible refine Kd.C_drewN ?_ _) | (with_reducible refine Kd.C_drew ?_))); (case side4 => exact (Kd.R_reads' HO459.out).2.1); rintro e w' ⟨rfl, ⟨nd, rfl⟩⟩))
                            go_meet
                            case rel => exact ⟨_, (!t460), (by first | rfl | (simp; done) | (simp [*]; done)), H', ⟨by have := HK1.out; have := HJ15.out; have := HK3.out; have := HJ17.out; first | omega | exact Nat.le_refl _⟩, ⟨by (with_reducible repeat (first | apply Kd.R_alloc | apply Kd.R_drewN | apply Kd.R_drew)); exact Kd.R_mono HO_6.out (fun _ hk => trivial)⟩, ⟨by repeat (first | (with_reducible first | exact HB.out | apply below_alloc | apply pw_below_drewN | apply below_drew1) | exact HB.out)⟩⟩
                          · rw [if_neg c30] at H
                            have c30b0 : (t445 == t457) = false := beq_eq_false_iff_ne.mpr c30
                            have c30b1 : (t445 != t457) = true := bne_iff_ne.mpr c30
                            (first | rw [c30b0] | (simp only [i64_w, i32_w]; rw [c30b0]) | skip)
                            have H' := Aside0.mk H
                            clear H
                            go_wp2
                            go_meet
                            case rel => exact ⟨_, (true), (by first | rfl | (simp; done) | (simp [*]; done)), H', ⟨by have := HK1.out; have := HJ15.out; have := HK3.out; have := HJ17.out; first | omega | exact Nat.le_refl _⟩, ⟨by (with_reducible repeat (first | apply Kd.R_alloc | apply Kd.R_drewN | apply Kd.R_drew)); exact Kd.R_mono HO_6.out (fun _ hk => trivial)⟩, ⟨by repeat (first | (with_reducible first | exact HB.out | apply below_alloc | apply pw_below_drewN | apply below_drew1) | exact HB.out)⟩⟩
                        case rest =>
                          clear HC27
                          try clear c1
                          try clear c2
                          try clear p2
                          try clear c3
                          try clear c4
                          try clear p4
                          try clear q4
                          try clear hx4
                          try clear c5
                          try clear p6
                          try clear c8
                          try clear c9
                          try clear c10
                          try clear c11
                          try clear c11b0
                          try clear c12
                          try clear c12b0
                          try clear c13
                          try clear c13b0
                          try clear c14
                          try clear c17
                          try clear c17b0
                          try clear c19
                          try clear c19b0
                          try clear c20
                          try clear c21
                          try clear c21b0
                          try clear c21b1
                          try clear c22
                          try clear c22b0
                          try clear c23
                          try clear c23b0
                          try clear c24
                          try clear c30
                          try clear c30b0
                          try clear c30b1
                          try clear hx448_0
                          try clear hx448_1
                          try clear hx452_0
                          try clear hx452_1
                          try clear p2
                          try clear p4
                          try clear p448
                          try clear p452
                          try clear p6
                          try clear q4
                          try clear q448
                          try clear q452
                          obtain ⟨kq, x78_26, rfl, HA, HJ26, HO_6, HB⟩ := hcut
                          cases kq with
                          | zero => exact absurd HA.out (by simp [mosaiclaw09_SpanNorms.j4])
                          | succ kj26 =>
                            have H := HA.out
                            clear HA
                            simp only [mosaiclaw09_SpanNorms.j4] at H
                            by_cases c34 : x78_26 = true
                            · subst c34
                              have H1 : (some false) = some r := by rw [if_pos rfl] at H; exact H
                              clear H
                              have H := H1
                              clear H1
                              obtain rfl := Option.some.inj H
                              go_wp2
                              go_ret
                              exact ⟨by first | rfl | (simp [errW_none, errW_some] <;> rfl) | (simp [*, errW_none, errW_some] <;> rfl), by repeat (first | (with_reducible first | exact HB.out | apply below_alloc | apply pw_below_drewN | apply below_drew1) | exact HB.out)⟩
                            · replace c34 := Bool.eq_false_iff.mpr c34
                              subst c34
                              have H1 : (if t445 = 0 then ((mosaiclaw09_own.f kj26 t444).bind fun t465 => ((span_Norm.f kj26 t465).bind fun bt468 => (if bt468.2 = 0 then ((mosaiclaw09_same.f kj26 bt468.1 t444).bind fun t472 => (if t472 = true then ((mosaiclaw09_own.f kj26 t444).bind fun t473 => ((span_Right.f kj26 t473).bind fun t476 => (if t476 = true then ((mosaiclaw09_own.f kj26 l0).bind fun t477 => ((span_Right.f kj26 t477).bind fun t480 => ((mosaiclaw09_same.f kj26 t444 l0).bind fun t481 => (some (t480 == t481))))) else (some false)))) else (some false))) else (some false)))) else (if t445 = 1 then (if (t444.length : Int) = 0 then ((mosaiclaw09_own.f kj26 l0).bind fun t461 => ((span_Right.f kj26 t461).bind fun t464 => (some (!t464)))) else (some false)) else (some false))) = some r := by rw [if_neg (show ¬ (false = true) by decide)] at H; exact H
                              clear H
                              have H := H1
                              clear H1
                              by_cases c35 : t445 = 0
                              · rw [if_pos c35] at H
                                have c35b0 : (t445 == 0) = true := beq_iff_eq.mpr c35
                                have c35b1 : (t445 != 0) = false := bne_eq_false_iff_eq.mpr c35
                                clear c35
                                replace H := Option.bind_eq_some_iff.mp H
                                obtain ⟨t465, A360, H⟩ := H
                                replace H : ((span_Norm.f kj26 t465).bind fun bt468 => (if bt468.2 = 0 then ((mosaiclaw09_same.f kj26 bt468.1 t444).bind fun t472 => (if t472 = true then ((mosaiclaw09_own.f kj26 t444).bind fun t473 => ((span_Right.f kj26 t473).bind fun t476 => (if t476 = true then ((mosaiclaw09_own.f kj26 l0).bind fun t477 => ((span_Right.f kj26 t477).bind fun t480 => ((mosaiclaw09_same.f kj26 t444 l0).bind fun t481 => (some (t480 == t481))))) else (some false)))) else (some false))) else (some false))) = some r := H
                                have A36 := Aside0.mk A360
                                clear A360
                                replace H := Option.bind_eq_some_iff.mp H
                                obtain ⟨⟨t468, t469⟩, A370, H⟩ := H
                                replace H : (if t469 = 0 then ((mosaiclaw09_same.f kj26 t468 t444).bind fun t472 => (if t472 = true then ((mosaiclaw09_own.f kj26 t444).bind fun t473 => ((span_Right.f kj26 t473).bind fun t476 => (if t476 = true then ((mosaiclaw09_own.f kj26 l0).bind fun t477 => ((span_Right.f kj26 t477).bind fun t480 => ((mosaiclaw09_same.f kj26 t444 l0).bind fun t481 => (some (t480 == t481))))) else (some false)))) else (some false))) else (some false)) = some r := H
                                have A37 := Aside0.mk A370
                                clear A370
                                by_cases c38 : t469 = 0
                                · rw [if_pos c38] at H
                                  have c38b0 : (t469 == 0) = true := beq_iff_eq.mpr c38
                                  have c38b1 : (t469 != 0) = false := bne_eq_false_iff_eq.mpr c38
                                  clear c38
                                  replace H := Option.bind_eq_some_iff.mp H
                                  obtain ⟨t472, A390, H⟩ := H
                                  replace H : (if t472 = true then ((mosaiclaw09_own.f kj26 t444).bind fun t473 => ((span_Right.f kj26 t473).bind fun t476 => (if t476 = true then ((mosaiclaw09_own.f kj26 l0).bind fun t477 => ((span_Right.f kj26 t477).bind fun t480 => ((mosaiclaw09_same.f kj26 t444 l0).bind fun t481 => (some (t480 == t481))))) else (some false)))) else (some false)) = some r := H
                                  have A39 := Aside0.mk A390
                                  clear A390
                                  by_cases c40 : t472 = true
                                  · subst c40
                                    have H1 : ((mosaiclaw09_own.f kj26 t444).bind fun t473 => ((span_Right.f kj26 t473).bind fun t476 => (if t476 = true then ((mosaiclaw09_own.f kj26 l0).bind fun t477 => ((span_Right.f kj26 t477).bind fun t480 => ((mosaiclaw09_same.f kj26 t444 l0).bind fun t481 => (some (t480 == t481))))) else (some false)))) = some r := by rw [if_pos rfl] at H; exact H
                                    clear H
                                    have H := H1
                                    clear H1
                                    replace H := Option.bind_eq_some_iff.mp H
                                    obtain ⟨t473, A410, H⟩ := H
                                    replace H : ((span_Right.f kj26 t473).bind fun t476 => (if t476 = true then ((mosaiclaw09_own.f kj26 l0).bind fun t477 => ((span_Right.f kj26 t477).bind fun t480 => ((mosaiclaw09_same.f kj26 t444 l0).bind fun t481 => (some (t480 == t481))))) else (some false))) = some r := H
                                    have A41 := Aside0.mk A410
                                    clear A410
                                    replace H := Option.bind_eq_some_iff.mp H
                                    obtain ⟨t476, A420, H⟩ := H
                                    replace H : (if t476 = true then ((mosaiclaw09_own.f kj26 l0).bind fun t477 => ((span_Right.f kj26 t477).bind fun t480 => ((mosaiclaw09_same.f kj26 t444 l0).bind fun t481 => (some (t480 == t481))))) else (some false)) = some r := H
                                    have A42 := Aside0.mk A420
                                    clear A420
                                    by_cases c43 : t476 = true
                                    · subst c43
                                      have H1 : ((mosaiclaw09_own.f kj26 l0).bind fun t477 => ((span_Right.f kj26 t477).bind fun t480 => ((mosaiclaw09_same.f kj26 t444 l0).bind fun t481 => (some (t480 == t481))))) = some r := by rw [if_pos rfl] at H; exact H
                                      clear H
                                      have H := H1
                                      clear H1
                                      replace H := Option.bind_eq_some_iff.mp H
                                      obtain ⟨t477, A440, H⟩ := H
                                      replace H : ((span_Right.f kj26 t477).bind fun t480 => ((mosaiclaw09_same.f kj26 t444 l0).bind fun t481 => (some (t480 == t481)))) = some r := H
                                      have A44 := Aside0.mk A440
                                      clear A440
                                      replace H := Option.bind_eq_some_iff.mp H
                                      obtain ⟨t480, A450, H⟩ := H
                                      replace H : ((mosaiclaw09_same.f kj26 t444 l0).bind fun t481 => (some (t480 == t481))) = some r := H
                                      have A45 := Aside0.mk A450
                                      clear A450
                                      replace H := Option.bind_eq_some_iff.mp H
                                      obtain ⟨t481, A460, H⟩ := H
                                      replace H : (some (t480 == t481)) = some r := H
                                      have A46 := Aside0.mk A460
                                      clear A460
                                      obtain rfl := Option.some.inj H
                                      obtain ⟨Ao47, co47, eo47⟩ := Kd.R_slice HO_6.out
                                      subst eo47
                                      go_wp2_with (first | ((with_reducible refine gate_callee (f := 10) rfl ?_); refine goesL_ (some 96) rfl rfl Try.func10 (by kernel_rfl) rfl #[.slice Ao47 t444.length co47] rfl (by (try simp only [List.map_toArray, List.map_cons, List.map_nil]); first | done | rfl | (simp only [List.length_drop, List.length_take]; rfl)) ?_; (with_reducible refine (mosaiclaw09_own.calls kj26 _ _ t444 t465 _ ?side1 ?side2 A36.out).mono ?_); (case side1 => repeat (first | exact (Kd.R_reads' HO_6.out).2.2 | (with_reducible refine Kd.C_alloc ?_ _) | (with_reducible refine Kd.C_drewN ?_ _) | (with_reducible refine Kd.C_drew ?_))); (case side2 => exact (Kd.R_reads' HO_6.out).2.1); rintro e w48 ⟨v466, rfl, ho0, hb⟩; refine ⟨_, rfl, ?_⟩; have n0_ := Aside0.mk (Kd.R_elder' (by (with_reducible repeat (first | apply Kd.R_alloc | apply Kd.R_drewN | apply Kd.R_drew)); exact HO_6.out) (Kd.R_base ho0) hb); have n1_ := Aside0.mk (Kd.R_lower (Kd.R_new' ho0 (Kd.R_lt (by (with_reducible repeat (first | apply Kd.R_alloc | apply Kd.R_drewN | apply Kd.R_drew)); exact HO_6.out))) (below_size (by repeat (first | (with_reducible first | exact HB.out | apply below_alloc | apply pw_below_drewN | apply below_drew1) | exact HB.out)))); have n2_ := Aside0.mk (below_step (by repeat (first | (with_reducible first | exact HB.out | apply below_alloc | apply pw_below_drewN | apply below_drew1) | exact HB.out)) hb); clear HO_6; clear HB; have HO_6 := n0_; have HO467 := n1_; have HB := n2_; clear n0_ n1_ n2_; (try clear hb); (try clear hb2); (try clear hk); (try clear hi); (try clear ho0); obtain ⟨Ao49, co49, eo49⟩ := Kd.R_slice HO467.out; subst eo49) | ((with_reducible refine gate_callee (f := 9) rfl ?_); refine goesL_ (some 97) rfl rfl Try.func9 (by kernel_rfl) rfl #[.slice Ao49 t465.length co49] rfl (by (try simp only [List.map_toArray, List.map_cons, List.map_nil]); first | done | rfl | (simp only [List.length_drop, List.length_take]; rfl)) ?_; (with_reducible refine (span_Norm.calls kj26 _ _ t465 t468 t469 _ ?side1 ?side2 A37.out).mono ?_); (case side1 => repeat (first | exact (Kd.R_reads' HO467.out).2.2 | (with_reducible refine Kd.C_alloc ?_ _) | (with_reducible refine Kd.C_drewN ?_ _) | (with_reducible refine Kd.C_drew ?_))); (case side2 => exact (Kd.R_reads' HO467.out).2.1); rintro e w50 ⟨v470, rfl, ho0, hb⟩; refine ⟨_, rfl, ?_⟩; have n0_ := Aside0.mk (Kd.R_elder' (by (with_reducible repeat (first | apply Kd.R_alloc | apply Kd.R_drewN | apply Kd.R_drew)); exact HO_6.out) (Kd.R_base ho0) hb); have n1_ := Aside0.mk (Kd.R_elder' (by (with_reducible repeat (first | apply Kd.R_alloc | apply Kd.R_drewN | apply Kd.R_drew)); exact HO467.out) (Kd.R_base ho0) hb); have n2_ := Aside0.mk (Kd.R_lower (Kd.R_new' (Kd.R_new' ho0 (Kd.R_lt (by (with_reducible repeat (first | apply Kd.R_alloc | apply Kd.R_drewN | apply Kd.R_drew)); exact HO_6.out))) (Kd.R_lt (by (with_reducible repeat (first | apply Kd.R_alloc | apply Kd.R_drewN | apply Kd.R_drew)); exact HO467.out))) (below_size (by repeat (first | (with_reducible first | exact HB.out | apply below_alloc | apply pw_below_drewN | apply below_drew1) | exact HB.out)))); have n3_ := Aside0.mk (below_step (by repeat (first | (with_reducible first | exact HB.out | apply below_alloc | apply pw_below_drewN | apply below_drew1) | exact HB.out)) hb); clear HO_6; clear HO467; clear HB; have HO_6 := n0_; have HO467 := n1_; have HO471 := n2_; have HB := n3_; clear n0_ n1_ n2_ n3_; (try clear hb); (try clear hb2); (try clear hk); (try clear hi); (try clear ho0); obtain ⟨Ao51, co51, eo51⟩ := Kd.R_slice HO471.out; subst eo51) | (go_at_call 12; (with_reducible refine (mosaiclaw09_same.calls kj26 _ _ t468 _ _ t444 true _ ?side1 ?side2 ?side3 ?side4 A39.out).mono ?_); (case side1 => repeat (first | exact (Kd.R_reads' HO471.out).2.2 | (with_reducible refine Kd.C_alloc ?_ _) | (with_reducible refine Kd.C_drewN ?_ _) | (with_reducible refine Kd.C_drew ?_))); (case side2 => exact (Kd.R_reads' HO471.out).2.1); (case side3 => repeat (first | exact (Kd.R_reads' HO_6.out).2.2 | (with_reducible refine Kd.C_alloc ?_ _) | (with_reducible refine Kd.C_drewN ?_ _) | (with_reducible refine Kd.C_drew ?_))); (case side4 => exact (Kd.R_reads' HO_6.out).2.1); rintro e w' ⟨rfl, ⟨nd, rfl⟩⟩) | (go_at_call 10; (with_reducible refine (mosaiclaw09_own.calls kj26 _ _ t444 t473 _ ?side1 ?side2 A41.out).mono ?_); (case side1 => repeat (first | exact (Kd.R_reads' HO_6.out).2.2 | (with_reducible refine Kd.C_alloc ?_ _) | (with_reducible refine Kd.C_drewN ?_ _) | (with_reducible refine Kd.C_drew ?_))); (case side2 => exact (Kd.R_reads' HO_6.out).2.1); rintro e w52 ⟨v474, rfl, ho0, hb⟩; have n0_ := Aside0.mk (Kd.R_elder' (by (with_reducible repeat (first | apply Kd.R_alloc | apply Kd.R_drewN | apply Kd.R_drew)); exact HO_6.out) (Kd.R_base ho0) hb); have n1_ := Aside0.mk (Kd.R_elder' (by (with_reducible repeat (first | apply Kd.R_alloc | apply Kd.R_drewN | apply Kd.R_drew)); exact HO467.out) (Kd.R_base ho0) hb); have n2_ := Aside0.mk (Kd.R_elder' (by (with_reducible repeat (first | apply Kd.R_alloc | apply Kd.R_drewN | apply Kd.R_drew)); exact HO471.out) (Kd.R_base ho0) hb); have n3_ := Aside0.mk (Kd.R_lower (Kd.R_new' (Kd.R_new' (Kd.R_new' ho0 (Kd.R_lt (by (with_reducible repeat (first | apply Kd.R_alloc | apply Kd.R_drewN | apply Kd.R_drew)); exact HO_6.out))) (Kd.R_lt (by (with_reducible repeat (first | apply Kd.R_alloc | apply Kd.R_drewN | apply Kd.R_drew)); exact HO467.out))) (Kd.R_lt (by (with_reducible repeat (first | apply Kd.R_alloc | apply Kd.R_drewN | apply Kd.R_drew)); exact HO471.out))) (below_size (by repeat (first | (with_reducible first | exact HB.out | apply below_alloc | apply pw_below_drewN | apply below_drew1) | exact HB.out)))); have n4_ := Aside0.mk (below_step (by repeat (first | (with_reducible first | exact HB.out | apply below_alloc | apply pw_below_drewN | apply below_drew1) | exact HB.out)) hb); clear HO_6; clear HO467; clear HO471; clear HB; have HO_6 := n0_; have HO467 := n1_; have HO471 := n2_; have HO475 := n3_; have HB := n4_; clear n0_ n1_ n2_ n3_ n4_; (try clear hb); (try clear hb2); (try clear hk); (try clear hi); (try clear ho0); obtain ⟨Ao53, co53, eo53⟩ := Kd.R_slice HO475.out; subst eo53) | (go_at_call 13; (with_reducible refine (span_Right.calls kj26 _ _ t473 true _ ?side1 ?side2 A42.out).mono ?_); (case side1 => repeat (first | exact (Kd.R_reads' HO475.out).2.2 | (with_reducible refine Kd.C_alloc ?_ _) | (with_reducible refine Kd.C_drewN ?_ _) | (with_reducible refine Kd.C_drew ?_))); (case side2 => exact (Kd.R_reads' HO475.out).2.1); rintro e w54 ⟨rfl, hb⟩; have n0_ := Aside0.mk (Kd.R_below (by (with_reducible repeat (first | apply Kd.R_alloc | apply Kd.R_drewN | apply Kd.R_drew)); exact HO_6.out) hb); have n1_ := Aside0.mk (Kd.R_below (by (with_reducible repeat (first | apply Kd.R_alloc | apply Kd.R_drewN | apply Kd.R_drew)); exact HO467.out) hb); have n2_ := Aside0.mk (Kd.R_below (by (with_reducible repeat (first | apply Kd.R_alloc | apply Kd.R_drewN | apply Kd.R_drew)); exact HO471.out) hb); have n3_ := Aside0.mk (Kd.R_below (by (with_reducible repeat (first | apply Kd.R_alloc | apply Kd.R_drewN | apply Kd.R_drew)); exact HO475.out) hb); have n4_ := Aside0.mk (below_step (by repeat (first | (with_reducible first | exact HB.out | apply below_alloc | apply pw_below_drewN | apply below_drew1) | exact HB.out)) hb); clear HO_6; clear HO467; clear HO471; clear HO475; clear HB; have HO_6 := n0_; have HO467 := n1_; have HO471 := n2_; have HO475 := n3_; have HB := n4_; clear n0_ n1_ n2_ n3_ n4_; (try clear hb); (try clear hb2); (try clear hk); (try clear hi)) | (go_at_call 10; (with_reducible refine (mosaiclaw09_own.calls kj26 _ _ l0 t477 _ ?side1 ?side2 A44.out).mono ?_); (case side1 => repeat (first | exact (Kd.C_below HR0.out HB.out) | (with_reducible refine Kd.C_alloc ?_ _) | (with_reducible refine Kd.C_drewN ?_ _) | (with_reducible refine Kd.C_drew ?_))); (case side2 => exact HC0.out); rintro e w55 ⟨v478, rfl, ho0, hb⟩; have n0_ := Aside0.mk (Kd.R_elder' (by (with_reducible repeat (first | apply Kd.R_alloc | apply Kd.R_drewN | apply Kd.R_drew)); exact HO_6.out) (Kd.R_base ho0) hb); have n1_ := Aside0.mk (Kd.R_elder' (by (with_reducible repeat (first | apply Kd.R_alloc | apply Kd.R_drewN | apply Kd.R_drew)); exact HO467.out) (Kd.R_base ho0) hb); have n2_ := Aside0.mk (Kd.R_elder' (by (with_reducible repeat (first | apply Kd.R_alloc | apply Kd.R_drewN | apply Kd.R_drew)); exact HO471.out) (Kd.R_base ho0) hb); have n3_ := Aside0.mk (Kd.R_elder' (by (with_reducible repeat (first | apply Kd.R_alloc | apply Kd.R_drewN | apply Kd.R_drew)); exact HO475.out) (Kd.R_base ho0) hb); have n4_ := Aside0.mk (Kd.R_lower (Kd.R_new' (Kd.R_new' (Kd.R_new' (Kd.R_new' ho0 (Kd.R_lt (by (with_reducible repeat (first | apply Kd.R_alloc | apply Kd.R_drewN | apply Kd.R_drew)); exact HO_6.out))) (Kd.R_lt (by (with_reducible repeat (first | apply Kd.R_alloc | apply Kd.R_drewN | apply Kd.R_drew)); exact HO467.out))) (Kd.R_lt (by (with_reducible repeat (first | apply Kd.R_alloc | apply Kd.R_drewN | apply Kd.R_drew)); exact HO471.out))) (Kd.R_lt (by (with_reducible repeat (first | apply Kd.R_alloc | apply Kd.R_drewN | apply Kd.R_drew)); exact HO475.out))) (below_size (by repeat (first | (with_reducible first | exact HB.out | apply below_alloc | apply pw_below_drewN | apply below_drew1) | exact HB.out)))); have n5_ := Aside0.mk (below_step (by repeat (first | (with_reducible first | exact HB.out | apply below_alloc | apply pw_below_drewN | apply below_drew1) | exact HB.out)) hb); clear HO_6; clear HO467; clear HO471; clear HO475; clear HB; have HO_6 := n0_; have HO467 := n1_; have HO471 := n2_; have HO475 := n3_; have HO479 := n4_; have HB := n5_; clear n0_ n1_ n2_ n3_ n4_ n5_; (try clear hb); (try clear hb2); (try clear hk); (try clear hi); (try clear ho0); obtain ⟨Ao56, co56, eo56⟩ := Kd.R_slice HO479.out; subst eo56) | (go_at_call 13; (with_reducible refine (span_Right.calls kj26 _ _ t477 t480 _ ?side1 ?side2 A45.out).mono ?_); (case side1 => repeat (first | exact (Kd.R_reads' HO479.out).2.2 | (with_reducible refine Kd.C_alloc ?_ _) | (with_reducible refine Kd.C_drewN ?_ _) | (with_reducible refine Kd.C_drew ?_))); (case side2 => exact (Kd.R_reads' HO479.out).2.1); rintro e w57 ⟨rfl, hb⟩; have n0_ := Aside0.mk (Kd.R_below (by (with_reducible repeat (first | apply Kd.R_alloc | apply Kd.R_drewN | apply Kd.R_drew)); exact HO_6.out) hb); have n1_ := Aside0.mk (Kd.R_below (by (with_reducible repeat (first | apply Kd.R_alloc | apply Kd.R_drewN | apply Kd.R_drew)); exact HO467.out) hb); have n2_ := Aside0.mk (Kd.R_below (by (with_reducible repeat (first | apply Kd.R_alloc | apply Kd.R_drewN | apply Kd.R_drew)); exact HO471.out) hb); have n3_ := Aside0.mk (Kd.R_below (by (with_reducible repeat (first | apply Kd.R_alloc | apply Kd.R_drewN | apply Kd.R_drew)); exact HO475.out) hb); have n4_ := Aside0.mk (Kd.R_below (by (with_reducible repeat (first | apply Kd.R_alloc | apply Kd.R_drewN | apply Kd.R_drew)); exact HO479.out) hb); have n5_ := Aside0.mk (below_step (by repeat (first | (with_reducible first | exact HB.out | apply below_alloc | apply pw_below_drewN | apply below_drew1) | exact HB.out)) hb); clear HO_6; clear HO467; clear HO471; clear HO475; clear HO479; clear HB; have HO_6 := n0_; have HO467 := n1_; have HO471 := n2_; have HO475 := n3_; have HO479 := n4_; have HB := n5_; clear n0_ n1_ n2_ n3_ n4_ n5_; (try clear hb); (try clear hb2); (try clear hk); (try clear hi)) | (go_at_call 12; (with_reducible refine (mosaiclaw09_same.calls kj26 _ _ t444 _ _ l0 t481 _ ?side1 ?side2 ?side3 ?side4 A46.out).mono ?_); (case side1 => repeat (first | exact (Kd.R_reads' HO_6.out).2.2 | (with_reducible refine Kd.C_alloc ?_ _) | (with_reducible refine Kd.C_drewN ?_ _) | (with_reducible refine Kd.C_drew ?_))); (case side2 => exact (Kd.R_reads' HO_6.out).2.1); (case side3 => repeat (first | exact (Kd.C_below HR0.out HB.out) | (with_reducible refine Kd.C_alloc ?_ _) | (with_reducible refine Kd.C_drewN ?_ _) | (with_reducible refine Kd.C_drew ?_))); (case side4 => exact HC0.out); rintro e w' ⟨rfl, ⟨nd, rfl⟩⟩))
                                      go_ret
                                      exact ⟨by first | rfl | (simp [errW_none, errW_some] <;> rfl) | (simp [*, errW_none, errW_some] <;> rfl), by repeat (first | (with_reducible first | exact HB.out | apply below_alloc | apply pw_below_drewN | apply below_drew1) | exact HB.out)⟩
                                    · replace c43 := Bool.eq_false_iff.mpr c43
                                      subst c43
                                      have H1 : (some false) = some r := by rw [if_neg (show ¬ (false = true) by decide)] at H; exact H
                                      clear H
                                      have H := H1
                                      clear H1
                                      obtain rfl := Option.some.inj H
                                      obtain ⟨Ao58, co58, eo58⟩ := Kd.R_slice HO_6.out
                                      subst eo58
                                      go_wp2_with (first | ((with_reducible refine gate_callee (f := 10) rfl ?_); refine goesL_ (some 96) rfl rfl Try.func10 (by kernel_rfl) rfl #[.slice Ao58 t444.length co58] rfl (by (try simp only [List.map_toArray, List.map_cons, List.map_nil]); first | done | rfl | (simp only [List.length_drop, List.length_take]; rfl)) ?_; (with_reducible refine (mosaiclaw09_own.calls kj26 _ _ t444 t465 _ ?side1 ?side2 A36.out).mono ?_); (case side1 => repeat (first | exact (Kd.R_reads' HO_6.out).2.2 | (with_reducible refine Kd.C_alloc ?_ _) | (with_reducible refine Kd.C_drewN ?_ _) | (with_reducible refine Kd.C_drew ?_))); (case side2 => exact (Kd.R_reads' HO_6.out).2.1); rintro e w59 ⟨v466, rfl, ho0, hb⟩; refine ⟨_, rfl, ?_⟩; have n0_ := Aside0.mk (Kd.R_elder' (by (with_reducible repeat (first | apply Kd.R_alloc | apply Kd.R_drewN | apply Kd.R_drew)); exact HO_6.out) (Kd.R_base ho0) hb); have n1_ := Aside0.mk (Kd.R_lower (Kd.R_new' ho0 (Kd.R_lt (by (with_reducible repeat (first | apply Kd.R_alloc | apply Kd.R_drewN | apply Kd.R_drew)); exact HO_6.out))) (below_size (by repeat (first | (with_reducible first | exact HB.out | apply below_alloc | apply pw_below_drewN | apply below_drew1) | exact HB.out)))); have n2_ := Aside0.mk (below_step (by repeat (first | (with_reducible first | exact HB.out | apply below_alloc | apply pw_below_drewN | apply below_drew1) | exact HB.out)) hb); clear HO_6; clear HB; have HO_6 := n0_; have HO467 := n1_; have HB := n2_; clear n0_ n1_ n2_; (try clear hb); (try clear hb2); (try clear hk); (try clear hi); (try clear ho0); obtain ⟨Ao60, co60, eo60⟩ := Kd.R_slice HO467.out; subst eo60) | ((with_reducible refine gate_callee (f := 9) rfl ?_); refine goesL_ (some 97) rfl rfl Try.func9 (by kernel_rfl) rfl #[.slice Ao60 t465.length co60] rfl (by (try simp only [List.map_toArray, List.map_cons, List.map_nil]); first | done | rfl | (simp only [List.length_drop, List.length_take]; rfl)) ?_; (with_reducible refine (span_Norm.calls kj26 _ _ t465 t468 t469 _ ?side1 ?side2 A37.out).mono ?_); (case side1 => repeat (first | exact (Kd.R_reads' HO467.out).2.2 | (with_reducible refine Kd.C_alloc ?_ _) | (with_reducible refine Kd.C_drewN ?_ _) | (with_reducible refine Kd.C_drew ?_))); (case side2 => exact (Kd.R_reads' HO467.out).2.1); rintro e w61 ⟨v470, rfl, ho0, hb⟩; refine ⟨_, rfl, ?_⟩; have n0_ := Aside0.mk (Kd.R_elder' (by (with_reducible repeat (first | apply Kd.R_alloc | apply Kd.R_drewN | apply Kd.R_drew)); exact HO_6.out) (Kd.R_base ho0) hb); have n1_ := Aside0.mk (Kd.R_elder' (by (with_reducible repeat (first | apply Kd.R_alloc | apply Kd.R_drewN | apply Kd.R_drew)); exact HO467.out) (Kd.R_base ho0) hb); have n2_ := Aside0.mk (Kd.R_lower (Kd.R_new' (Kd.R_new' ho0 (Kd.R_lt (by (with_reducible repeat (first | apply Kd.R_alloc | apply Kd.R_drewN | apply Kd.R_drew)); exact HO_6.out))) (Kd.R_lt (by (with_reducible repeat (first | apply Kd.R_alloc | apply Kd.R_drewN | apply Kd.R_drew)); exact HO467.out))) (below_size (by repeat (first | (with_reducible first | exact HB.out | apply below_alloc | apply pw_below_drewN | apply below_drew1) | exact HB.out)))); have n3_ := Aside0.mk (below_step (by repeat (first | (with_reducible first | exact HB.out | apply below_alloc | apply pw_below_drewN | apply below_drew1) | exact HB.out)) hb); clear HO_6; clear HO467; clear HB; have HO_6 := n0_; have HO467 := n1_; have HO471 := n2_; have HB := n3_; clear n0_ n1_ n2_ n3_; (try clear hb); (try clear hb2); (try clear hk); (try clear hi); (try clear ho0); obtain ⟨Ao62, co62, eo62⟩ := Kd.R_slice HO471.out; subst eo62) | (go_at_call 12; (with_reducible refine (mosaiclaw09_same.calls kj26 _ _ t468 _ _ t444 true _ ?side1 ?side2 ?side3 ?side4 A39.out).mono ?_); (case side1 => repeat (first | exact (Kd.R_reads' HO471.out).2.2 | (with_reducible refine Kd.C_alloc ?_ _) | (with_reducible refine Kd.C_drewN ?_ _) | (with_reducible refine Kd.C_drew ?_))); (case side2 => exact (Kd.R_reads' HO471.out).2.1); (case side3 => repeat (first | exact (Kd.R_reads' HO_6.out).2.2 | (with_reducible refine Kd.C_alloc ?_ _) | (with_reducible refine Kd.C_drewN ?_ _) | (with_reducible refine Kd.C_drew ?_))); (case side4 => exact (Kd.R_reads' HO_6.out).2.1); rintro e w' ⟨rfl, ⟨nd, rfl⟩⟩) | (go_at_call 10; (with_reducible refine (mosaiclaw09_own.calls kj26 _ _ t444 t473 _ ?side1 ?side2 A41.out).mono ?_); (case side1 => repeat (first | exact (Kd.R_reads' HO_6.out).2.2 | (with_reducible refine Kd.C_alloc ?_ _) | (with_reducible refine Kd.C_drewN ?_ _) | (with_reducible refine Kd.C_drew ?_))); (case side2 => exact (Kd.R_reads' HO_6.out).2.1); rintro e w63 ⟨v474, rfl, ho0, hb⟩; have n0_ := Aside0.mk (Kd.R_elder' (by (with_reducible repeat (first | apply Kd.R_alloc | apply Kd.R_drewN | apply Kd.R_drew)); exact HO_6.out) (Kd.R_base ho0) hb); have n1_ := Aside0.mk (Kd.R_elder' (by (with_reducible repeat (first | apply Kd.R_alloc | apply Kd.R_drewN | apply Kd.R_drew)); exact HO467.out) (Kd.R_base ho0) hb); have n2_ := Aside0.mk (Kd.R_elder' (by (with_reducible repeat (first | apply Kd.R_alloc | apply Kd.R_drewN | apply Kd.R_drew)); exact HO471.out) (Kd.R_base ho0) hb); have n3_ := Aside0.mk (Kd.R_lower (Kd.R_new' (Kd.R_new' (Kd.R_new' ho0 (Kd.R_lt (by (with_reducible repeat (first | apply Kd.R_alloc | apply Kd.R_drewN | apply Kd.R_drew)); exact HO_6.out))) (Kd.R_lt (by (with_reducible repeat (first | apply Kd.R_alloc | apply Kd.R_drewN | apply Kd.R_drew)); exact HO467.out))) (Kd.R_lt (by (with_reducible repeat (first | apply Kd.R_alloc | apply Kd.R_drewN | apply Kd.R_drew)); exact HO471.out))) (below_size (by repeat (first | (with_reducible first | exact HB.out | apply below_alloc | apply pw_below_drewN | apply below_drew1) | exact HB.out)))); have n4_ := Aside0.mk (below_step (by repeat (first | (with_reducible first | exact HB.out | apply below_alloc | apply pw_below_drewN | apply below_drew1) | exact HB.out)) hb); clear HO_6; clear HO467; clear HO471; clear HB; have HO_6 := n0_; have HO467 := n1_; have HO471 := n2_; have HO475 := n3_; have HB := n4_; clear n0_ n1_ n2_ n3_ n4_; (try clear hb); (try clear hb2); (try clear hk); (try clear hi); (try clear ho0); obtain ⟨Ao64, co64, eo64⟩ := Kd.R_slice HO475.out; subst eo64) | (go_at_call 13; (with_reducible refine (span_Right.calls kj26 _ _ t473 false _ ?side1 ?side2 A42.out).mono ?_); (case side1 => repeat (first | exact (Kd.R_reads' HO475.out).2.2 | (with_reducible refine Kd.C_alloc ?_ _) | (with_reducible refine Kd.C_drewN ?_ _) | (with_reducible refine Kd.C_drew ?_))); (case side2 => exact (Kd.R_reads' HO475.out).2.1); rintro e w65 ⟨rfl, hb⟩; have n0_ := Aside0.mk (Kd.R_below (by (with_reducible repeat (first | apply Kd.R_alloc | apply Kd.R_drewN | apply Kd.R_drew)); exact HO_6.out) hb); have n1_ := Aside0.mk (Kd.R_below (by (with_reducible repeat (first | apply Kd.R_alloc | apply Kd.R_drewN | apply Kd.R_drew)); exact HO467.out) hb); have n2_ := Aside0.mk (Kd.R_below (by (with_reducible repeat (first | apply Kd.R_alloc | apply Kd.R_drewN | apply Kd.R_drew)); exact HO471.out) hb); have n3_ := Aside0.mk (Kd.R_below (by (with_reducible repeat (first | apply Kd.R_alloc | apply Kd.R_drewN | apply Kd.R_drew)); exact HO475.out) hb); have n4_ := Aside0.mk (below_step (by repeat (first | (with_reducible first | exact HB.out | apply below_alloc | apply pw_below_drewN | apply below_drew1) | exact HB.out)) hb); clear HO_6; clear HO467; clear HO471; clear HO475; clear HB; have HO_6 := n0_; have HO467 := n1_; have HO471 := n2_; have HO475 := n3_; have HB := n4_; clear n0_ n1_ n2_ n3_ n4_; (try clear hb); (try clear hb2); (try clear hk); (try clear hi)))
                                      go_ret
                                      exact ⟨by first | rfl | (simp [errW_none, errW_some] <;> rfl) | (simp [*, errW_none, errW_some] <;> rfl), by repeat (first | (with_reducible first | exact HB.out | apply below_alloc | apply pw_below_drewN | apply below_drew1) | exact HB.out)⟩
                                  · replace c40 := Bool.eq_false_iff.mpr c40
                                    subst c40
                                    have H1 : (some false) = some r := by rw [if_neg (show ¬ (false = true) by decide)] at H; exact H
                                    clear H
                                    have H := H1
                                    clear H1
                                    obtain rfl := Option.some.inj H
                                    obtain ⟨Ao66, co66, eo66⟩ := Kd.R_slice HO_6.out
                                    subst eo66
                                    go_wp2_with (first | ((with_reducible refine gate_callee (f := 10) rfl ?_); refine goesL_ (some 96) rfl rfl Try.func10 (by kernel_rfl) rfl #[.slice Ao66 t444.length co66] rfl (by (try simp only [List.map_toArray, List.map_cons, List.map_nil]); first | done | rfl | (simp only [List.length_drop, List.length_take]; rfl)) ?_; (with_reducible refine (mosaiclaw09_own.calls kj26 _ _ t444 t465 _ ?side1 ?side2 A36.out).mono ?_); (case side1 => repeat (first | exact (Kd.R_reads' HO_6.out).2.2 | (with_reducible refine Kd.C_alloc ?_ _) | (with_reducible refine Kd.C_drewN ?_ _) | (with_reducible refine Kd.C_drew ?_))); (case side2 => exact (Kd.R_reads' HO_6.out).2.1); rintro e w67 ⟨v466, rfl, ho0, hb⟩; refine ⟨_, rfl, ?_⟩; have n0_ := Aside0.mk (Kd.R_elder' (by (with_reducible repeat (first | apply Kd.R_alloc | apply Kd.R_drewN | apply Kd.R_drew)); exact HO_6.out) (Kd.R_base ho0) hb); have n1_ := Aside0.mk (Kd.R_lower (Kd.R_new' ho0 (Kd.R_lt (by (with_reducible repeat (first | apply Kd.R_alloc | apply Kd.R_drewN | apply Kd.R_drew)); exact HO_6.out))) (below_size (by repeat (first | (with_reducible first | exact HB.out | apply below_alloc | apply pw_below_drewN | apply below_drew1) | exact HB.out)))); have n2_ := Aside0.mk (below_step (by repeat (first | (with_reducible first | exact HB.out | apply below_alloc | apply pw_below_drewN | apply below_drew1) | exact HB.out)) hb); clear HO_6; clear HB; have HO_6 := n0_; have HO467 := n1_; have HB := n2_; clear n0_ n1_ n2_; (try clear hb); (try clear hb2); (try clear hk); (try clear hi); (try clear ho0); obtain ⟨Ao68, co68, eo68⟩ := Kd.R_slice HO467.out; subst eo68) | ((with_reducible refine gate_callee (f := 9) rfl ?_); refine goesL_ (some 97) rfl rfl Try.func9 (by kernel_rfl) rfl #[.slice Ao68 t465.length co68] rfl (by (try simp only [List.map_toArray, List.map_cons, List.map_nil]); first | done | rfl | (simp only [List.length_drop, List.length_take]; rfl)) ?_; (with_reducible refine (span_Norm.calls kj26 _ _ t465 t468 t469 _ ?side1 ?side2 A37.out).mono ?_); (case side1 => repeat (first | exact (Kd.R_reads' HO467.out).2.2 | (with_reducible refine Kd.C_alloc ?_ _) | (with_reducible refine Kd.C_drewN ?_ _) | (with_reducible refine Kd.C_drew ?_))); (case side2 => exact (Kd.R_reads' HO467.out).2.1); rintro e w69 ⟨v470, rfl, ho0, hb⟩; refine ⟨_, rfl, ?_⟩; have n0_ := Aside0.mk (Kd.R_elder' (by (with_reducible repeat (first | apply Kd.R_alloc | apply Kd.R_drewN | apply Kd.R_drew)); exact HO_6.out) (Kd.R_base ho0) hb); have n1_ := Aside0.mk (Kd.R_elder' (by (with_reducible repeat (first | apply Kd.R_alloc | apply Kd.R_drewN | apply Kd.R_drew)); exact HO467.out) (Kd.R_base ho0) hb); have n2_ := Aside0.mk (Kd.R_lower (Kd.R_new' (Kd.R_new' ho0 (Kd.R_lt (by (with_reducible repeat (first | apply Kd.R_alloc | apply Kd.R_drewN | apply Kd.R_drew)); exact HO_6.out))) (Kd.R_lt (by (with_reducible repeat (first | apply Kd.R_alloc | apply Kd.R_drewN | apply Kd.R_drew)); exact HO467.out))) (below_size (by repeat (first | (with_reducible first | exact HB.out | apply below_alloc | apply pw_below_drewN | apply below_drew1) | exact HB.out)))); have n3_ := Aside0.mk (below_step (by repeat (first | (with_reducible first | exact HB.out | apply below_alloc | apply pw_below_drewN | apply below_drew1) | exact HB.out)) hb); clear HO_6; clear HO467; clear HB; have HO_6 := n0_; have HO467 := n1_; have HO471 := n2_; have HB := n3_; clear n0_ n1_ n2_ n3_; (try clear hb); (try clear hb2); (try clear hk); (try clear hi); (try clear ho0); obtain ⟨Ao70, co70, eo70⟩ := Kd.R_slice HO471.out; subst eo70) | (go_at_call 12; (with_reducible refine (mosaiclaw09_same.calls kj26 _ _ t468 _ _ t444 false _ ?side1 ?side2 ?side3 ?side4 A39.out).mono ?_); (case side1 => repeat (first | exact (Kd.R_reads' HO471.out).2.2 | (with_reducible refine Kd.C_alloc ?_ _) | (with_reducible refine Kd.C_drewN ?_ _) | (with_reducible refine Kd.C_drew ?_))); (case side2 => exact (Kd.R_reads' HO471.out).2.1); (case side3 => repeat (first | exact (Kd.R_reads' HO_6.out).2.2 | (with_reducible refine Kd.C_alloc ?_ _) | (with_reducible refine Kd.C_drewN ?_ _) | (with_reducible refine Kd.C_drew ?_))); (case side4 => exact (Kd.R_reads' HO_6.out).2.1); rintro e w' ⟨rfl, ⟨nd, rfl⟩⟩))
                                    go_ret
                                    exact ⟨by first | rfl | (simp [errW_none, errW_some] <;> rfl) | (simp [*, errW_none, errW_some] <;> rfl), by repeat (first | (with_reducible first | exact HB.out | apply below_alloc | apply pw_below_drewN | apply below_drew1) | exact HB.out)⟩
                                · rw [if_neg c38] at H
                                  have c38b0 : (t469 == 0) = false := beq_eq_false_iff_ne.mpr c38
                                  have c38b1 : (t469 != 0) = true := bne_iff_ne.mpr c38
                                  obtain rfl := Option.some.inj H
                                  obtain ⟨Ao71, co71, eo71⟩ := Kd.R_slice HO_6.out
                                  subst eo71
                                  go_wp2_with (first | ((with_reducible refine gate_callee (f := 10) rfl ?_); refine goesL_ (some 96) rfl rfl Try.func10 (by kernel_rfl) rfl #[.slice Ao71 t444.length co71] rfl (by (try simp only [List.map_toArray, List.map_cons, List.map_nil]); first | done | rfl | (simp only [List.length_drop, List.length_take]; rfl)) ?_; (with_reducible refine (mosaiclaw09_own.calls kj26 _ _ t444 t465 _ ?side1 ?side2 A36.out).mono ?_); (case side1 => repeat (first | exact (Kd.R_reads' HO_6.out).2.2 | (with_reducible refine Kd.C_alloc ?_ _) | (with_reducible refine Kd.C_drewN ?_ _) | (with_reducible refine Kd.C_drew ?_))); (case side2 => exact (Kd.R_reads' HO_6.out).2.1); rintro e w72 ⟨v466, rfl, ho0, hb⟩; refine ⟨_, rfl, ?_⟩; have n0_ := Aside0.mk (Kd.R_elder' (by (with_reducible repeat (first | apply Kd.R_alloc | apply Kd.R_drewN | apply Kd.R_drew)); exact HO_6.out) (Kd.R_base ho0) hb); have n1_ := Aside0.mk (Kd.R_lower (Kd.R_new' ho0 (Kd.R_lt (by (with_reducible repeat (first | apply Kd.R_alloc | apply Kd.R_drewN | apply Kd.R_drew)); exact HO_6.out))) (below_size (by repeat (first | (with_reducible first | exact HB.out | apply below_alloc | apply pw_below_drewN | apply below_drew1) | exact HB.out)))); have n2_ := Aside0.mk (below_step (by repeat (first | (with_reducible first | exact HB.out | apply below_alloc | apply pw_below_drewN | apply below_drew1) | exact HB.out)) hb); clear HO_6; clear HB; have HO_6 := n0_; have HO467 := n1_; have HB := n2_; clear n0_ n1_ n2_; (try clear hb); (try clear hb2); (try clear hk); (try clear hi); (try clear ho0); obtain ⟨Ao73, co73, eo73⟩ := Kd.R_slice HO467.out; subst eo73) | ((with_reducible refine gate_callee (f := 9) rfl ?_); refine goesL_ (some 97) rfl rfl Try.func9 (by kernel_rfl) rfl #[.slice Ao73 t465.length co73] rfl (by (try simp only [List.map_toArray, List.map_cons, List.map_nil]); first | done | rfl | (simp only [List.length_drop, List.length_take]; rfl)) ?_; (with_reducible refine (span_Norm.calls kj26 _ _ t465 t468 t469 _ ?side1 ?side2 A37.out).mono ?_); (case side1 => repeat (first | exact (Kd.R_reads' HO467.out).2.2 | (with_reducible refine Kd.C_alloc ?_ _) | (with_reducible refine Kd.C_drewN ?_ _) | (with_reducible refine Kd.C_drew ?_))); (case side2 => exact (Kd.R_reads' HO467.out).2.1); rintro e w74 ⟨v470, rfl, ho0, hb⟩; refine ⟨_, rfl, ?_⟩; have n0_ := Aside0.mk (Kd.R_elder' (by (with_reducible repeat (first | apply Kd.R_alloc | apply Kd.R_drewN | apply Kd.R_drew)); exact HO_6.out) (Kd.R_base ho0) hb); have n1_ := Aside0.mk (Kd.R_elder' (by (with_reducible repeat (first | apply Kd.R_alloc | apply Kd.R_drewN | apply Kd.R_drew)); exact HO467.out) (Kd.R_base ho0) hb); have n2_ := Aside0.mk (Kd.R_lower (Kd.R_new' (Kd.R_new' ho0 (Kd.R_lt (by (with_reducible repeat (first | apply Kd.R_alloc | apply Kd.R_drewN | apply Kd.R_drew)); exact HO_6.out))) (Kd.R_lt (by (with_reducible repeat (first | apply Kd.R_alloc | apply Kd.R_drewN | apply Kd.R_drew)); exact HO467.out))) (below_size (by repeat (first | (with_reducible first | exact HB.out | apply below_alloc | apply pw_below_drewN | apply below_drew1) | exact HB.out)))); have n3_ := Aside0.mk (below_step (by repeat (first | (with_reducible first | exact HB.out | apply below_alloc | apply pw_below_drewN | apply below_drew1) | exact HB.out)) hb); clear HO_6; clear HO467; clear HB; have HO_6 := n0_; have HO467 := n1_; have HO471 := n2_; have HB := n3_; clear n0_ n1_ n2_ n3_; (try clear hb); (try clear hb2); (try clear hk); (try clear hi); (try clear ho0)))
                                  go_ret
                                  exact ⟨by first | rfl | (simp [errW_none, errW_some] <;> rfl) | (simp [*, errW_none, errW_some] <;> rfl), by repeat (first | (with_reducible first | exact HB.out | apply below_alloc | apply pw_below_drewN | apply below_drew1) | exact HB.out)⟩
                              · rw [if_neg c35] at H
                                have c35b0 : (t445 == 0) = false := beq_eq_false_iff_ne.mpr c35
                                have c35b1 : (t445 != 0) = true := bne_iff_ne.mpr c35
                                by_cases c75 : t445 = 1
                                · rw [if_pos c75] at H
                                  have c75b0 : (t445 == 1) = true := beq_iff_eq.mpr c75
                                  have c75b1 : (t445 != 1) = false := bne_eq_false_iff_eq.mpr c75
                                  clear c75
                                  by_cases c76 : (t444.length : Int) = 0
                                  · rw [if_pos c76] at H
                                    have c76b0 : ((t444.length : Int) == 0) = true := beq_iff_eq.mpr c76
                                    have c76b1 : ((t444.length : Int) != 0) = false := bne_eq_false_iff_eq.mpr c76
                                    clear c76
                                    replace H := Option.bind_eq_some_iff.mp H
                                    obtain ⟨t461, A770, H⟩ := H
                                    replace H : ((span_Right.f kj26 t461).bind fun t464 => (some (!t464))) = some r := H
                                    have A77 := Aside0.mk A770
                                    clear A770
                                    replace H := Option.bind_eq_some_iff.mp H
                                    obtain ⟨t464, A780, H⟩ := H
                                    replace H : (some (!t464)) = some r := H
                                    have A78 := Aside0.mk A780
                                    clear A780
                                    obtain rfl := Option.some.inj H
                                    obtain ⟨Ao79, co79, eo79⟩ := Kd.R_slice HO_6.out
                                    subst eo79
                                    go_wp2_with (first | (go_at_call 10; (with_reducible refine (mosaiclaw09_own.calls kj26 _ _ l0 t461 _ ?side1 ?side2 A77.out).mono ?_); (case side1 => repeat (first | exact (Kd.C_below HR0.out HB.out) | (with_reducible refine Kd.C_alloc ?_ _) | (with_reducible refine Kd.C_drewN ?_ _) | (with_reducible refine Kd.C_drew ?_))); (case side2 => exact HC0.out); rintro e w80 ⟨v462, rfl, ho0, hb⟩; have n0_ := Aside0.mk (Kd.R_elder' (by (with_reducible repeat (first | apply Kd.R_alloc | apply Kd.R_drewN | apply Kd.R_drew)); exact HO_6.out) (Kd.R_base ho0) hb); have n1_ := Aside0.mk (Kd.R_lower (Kd.R_new' ho0 (Kd.R_lt (by (with_reducible repeat (first | apply Kd.R_alloc | apply Kd.R_drewN | apply Kd.R_drew)); exact HO_6.out))) (below_size (by repeat (first | (with_reducible first | exact HB.out | apply below_alloc | apply pw_below_drewN | apply below_drew1) | exact HB.out)))); have n2_ := Aside0.mk (below_step (by repeat (first | (with_reducible first | exact HB.out | apply below_alloc | apply pw_below_drewN | apply below_drew1) | exact HB.out)) hb); clear HO_6; clear HB; have HO_6 := n0_; have HO463 := n1_; have HB := n2_; clear n0_ n1_ n2_; (try clear hb); (try clear hb2); (try clear hk); (try clear hi); (try clear ho0); obtain ⟨Ao81, co81, eo81⟩ := Kd.R_slice HO463.out; subst eo81) | (go_at_call 13; (with_reducible refine (span_Right.calls kj26 _ _ t461 t464 _ ?side1 ?side2 A78.out).mono ?_); (case side1 => repeat (first | exact (Kd.R_reads' HO463.out).2.2 | (with_reducible refine Kd.C_alloc ?_ _) | (with_reducible refine Kd.C_drewN ?_ _) | (with_reducible refine Kd.C_drew ?_))); (case side2 => exact (Kd.R_reads' HO463.out).2.1); rintro e w82 ⟨rfl, hb⟩; have n0_ := Aside0.mk (Kd.R_below (by (with_reducible repeat (first | apply Kd.R_alloc | apply Kd.R_drewN | apply Kd.R_drew)); exact HO_6.out) hb); have n1_ := Aside0.mk (Kd.R_below (by (with_reducible repeat (first | apply Kd.R_alloc | apply Kd.R_drewN | apply Kd.R_drew)); exact HO463.out) hb); have n2_ := Aside0.mk (below_step (by repeat (first | (with_reducible first | exact HB.out | apply below_alloc | apply pw_below_drewN | apply below_drew1) | exact HB.out)) hb); clear HO_6; clear HO463; clear HB; have HO_6 := n0_; have HO463 := n1_; have HB := n2_; clear n0_ n1_ n2_; (try clear hb); (try clear hb2); (try clear hk); (try clear hi)))
                                    go_ret
                                    exact ⟨by first | rfl | (simp [errW_none, errW_some] <;> rfl) | (simp [*, errW_none, errW_some] <;> rfl), by repeat (first | (with_reducible first | exact HB.out | apply below_alloc | apply pw_below_drewN | apply below_drew1) | exact HB.out)⟩
                                  · rw [if_neg c76] at H
                                    have c76b0 : ((t444.length : Int) == 0) = false := beq_eq_false_iff_ne.mpr c76
                                    have c76b1 : ((t444.length : Int) != 0) = true := bne_iff_ne.mpr c76
                                    have c76b2 : ¬ (t444 = []) := fun h_ => c76 (by rw [h_]; rfl)
                                    obtain rfl := Option.some.inj H
                                    obtain ⟨Ao83, co83, eo83⟩ := Kd.R_slice HO_6.out
                                    subst eo83
                                    go_wp2
                                    go_ret
                                    exact ⟨by first | rfl | (simp [errW_none, errW_some] <;> rfl) | (simp [*, errW_none, errW_some] <;> rfl), by repeat (first | (with_reducible first | exact HB.out | apply below_alloc | apply pw_below_drewN | apply below_drew1) | exact HB.out)⟩
                                · rw [if_neg c75] at H
                                  have c75b0 : (t445 == 1) = false := beq_eq_false_iff_ne.mpr c75
                                  have c75b1 : (t445 != 1) = true := bne_iff_ne.mpr c75
                                  obtain rfl := Option.some.inj H
                                  go_wp2
                                  go_ret
                                  exact ⟨by first | rfl | (simp [errW_none, errW_some] <;> rfl) | (simp [*, errW_none, errW_some] <;> rfl), by repeat (first | (with_reducible first | exact HB.out | apply below_alloc | apply pw_below_drewN | apply below_drew1) | exact HB.out)⟩
  · replace c4 := Bool.eq_false_iff.mpr c4
    subst c4
    have H1 : (some false) = some r := by rw [if_neg (show ¬ (false = true) by decide)] at H; exact H
    clear H
    have H := H1
    clear H1
    obtain rfl := Option.some.inj H
    go_enter Try.func5, Try.ntmps5
    go_wp2_with (first | ((with_reducible refine gate_callee (f := 8) rfl ?_); refine goesL_ (some 15) rfl rfl Try.func8 (by kernel_rfl) rfl #[] rfl (by (try simp only [List.map_toArray, List.map_cons, List.map_nil]); first | done | rfl | (simp only [List.length_drop, List.length_take]; rfl)) ?_; (with_reducible refine (mosaiclaw09_alive.calls k  false _ A3.out).mono ?_); rintro e w84 ⟨rfl, hb⟩; refine ⟨_, rfl, ?_⟩; have n0_ := Aside0.mk (below_step (by repeat (first | (with_reducible first | exact HB.out | apply below_alloc | apply pw_below_drewN | apply below_drew1) | exact HB.out)) hb); clear HB; have HB := n0_; clear n0_; (try clear hb); (try clear hb2); (try clear hk); (try clear hi)))
    go_ret
    exact ⟨by first | rfl | (simp [errW_none, errW_some] <;> rfl) | (simp [*, errW_none, errW_some] <;> rfl), by repeat (first | (with_reducible first | exact HB.out | apply below_alloc | apply pw_below_drewN | apply below_drew1) | exact HB.out)⟩

end Go.Proofs.Ytmfckkgebdfhjaa.Q
