/- The document's New, Get, without. No condition but sizes. -/
import Derived.Test.YtdinkhhaomblcaaDoorZ3
import Derived.Test.YtdinkhhaomblcaaDoorZ0
namespace Go.Proofs.YtdinkhhaomblcaaDoor.SL
open Go.RowKit Go.Proofs.YtdinkhhaomblcaaDoorW.PrintWords Go.Proofs.YtdinkhhaomblcaaDoorW.PrintLast Go.Proofs.YtdinkhhaomblcaaDoorW.PrintMore
theorem built_rc (E A : Int) : Tryd.prog.built 83 [(0, .agg #[.int .i64 E, .int .i64 A])] = some (rcV E A 0 (.slice none 0 0)) := by kernel_rfl
theorem infoE : (Tryd.prog.info? 87).map (fun i => (i.zero, i.size, i.bytes)) = some (some (.agg (enV (zA 0, zBel))), kE.sz, 48) := by kernel_rfl
section
variable {w0 w : World} {Γ Δ : List Ob}
set_option maxHeartbeats 2000000 in
theorem rnew_no (E A : Int) (w : World) (h : E < 1 ∨ 64 < E ∨ A < 1 ∨ 1099511627776 < A) :
    Calls Tryd.prog 11 #[paV E A] w fun e w' => e = .returned (.tuple #[.pointer none, .int .i64 1]) ∧ Below w.heap.size w w' := by
  have HB : Hid (Below w.heap.size w (w.alloc (.cells #[.int .i64 E, .int .i64 A] 29))) := Lib.hid ((Touch.refl [] w).alloc _).below
  go_enter Tryd.func11, Tryd.ntmps11
  by_cases h1 : E < 1
  · clear h
    go_wp2_with fail
    go_ret2
    exact ⟨rfl, HB.out⟩
  by_cases h2 : E > 64
  · clear h
    go_wp2_with fail
    go_ret2
    exact ⟨rfl, HB.out⟩
  by_cases h3 : A < 1
  · clear h
    go_wp2_with fail
    go_ret2
    exact ⟨rfl, HB.out⟩
  have h4 : A > 1099511627776 := by omega
  clear h
  go_wp2_with fail
  go_ret2
  exact ⟨rfl, HB.out⟩
set_option maxHeartbeats 2000000 in
theorem rnew_yes (h : St w0 w Γ) (E A : Int) (h1 : ¬ E < 1) (h2 : ¬ E > 64) (h3 : ¬ A < 1) (h4 : ¬ A > 1099511627776) :
    Calls Tryd.prog 11 #[paV E A] w fun e w' => ∃ p, e = .returned (.tuple #[.pointer (some ⟨p, 0, none⟩), .int .i64 0]) ∧ St w0 w' (RcSt.G ⟨p, none, 0, E, A, 0, []⟩ ++ Γ) := by
  have q1 := ((h.alloc0 (.cells #[.int .i64 E, .int .i64 A] 29)).newW (d := kE) (e := 87) flE).front1.boxF (rcV E A 0 (.slice none 0 0)) 83
  rw [show (w.alloc (.cells #[.int .i64 E, .int .i64 A] 29)).heap.size = w.heap.size + 1 by simp] at q1
  have HS := Lib.hid q1
  clear h q1
  go_enter Tryd.func11, Tryd.ntmps11
  go_wp2_with (first
    | (refine gate_ (.build 83 #[(0, .tmp 22)]) rfl ?_; go_must (refine wpList_buildA rfl 83 #[(0, .tmp 22)] rfl [(0, .agg #[.int .i64 E, .int .i64 A])] rfl (built_rc _ _) ?_)))
  go_ret2
  exact ⟨w.heap.size + 1, rfl, HS.out⟩
end
attribute [-go_sem] loadVar
attribute [local go_sem] lv3 lvSl
attribute [local go_sem ↓] Go.wp_at_zero Go.wp_at_succ
section
variable {w0 w : World} {Γ Δ : List Ob}
set_option maxHeartbeats 8000000 in
theorem rget_raw (x : RcSt) (h : St w0 w (x.G ++ Δ)) (hl : x.L.length ≤ 100) (a : Ad) (first : Int) :
    Calls Tryd.prog 29 #[.pointer (some ⟨x.p, 0, none⟩), .agg (aV a), .int .i64 first] w fun e w' => e = .returned (.tuple #[.int .i64 (getS x.L a first).1, .int .i64 (getS x.L a first).2]) ∧ Below w.heap.size w w' := by
  obtain ⟨p, B, c, E, A, last, L⟩ := x
  have hB0 : Below w.heap.size w (w.alloc (.cells (aV a) 32)) := ((Touch.refl [] w).alloc _).below
  have H := h.below hB0
  have HX := heap_alloc_new w (.cells (aV a) 32)
  have HE := Lib.hid hB0
  show Calls Tryd.prog _ #[.pointer (some ⟨p, 0, none⟩), .agg (aV a), .int .i64 first] w fun e w' => e = .returned (.tuple #[.int .i64 (getS L a first).1, .int .i64 (getS L a first).2]) ∧ Below w.heap.size w w'
  replace hl : L.length ≤ 100 := hl
  generalize hW : w.alloc (.cells (aV a) 32) = W0 at H HX HE
  have HRG : Hid (∀ W, Below W0.heap.size W0 W → W.rangeAt w.heap.size 0 (aL a)) := Lib.hid fun W hb => range_A ((hb.block _ (lt_of_block HX)).trans HX)
  have HC2 : Hid (∀ W, Below W0.heap.size W0 W → W.cell? ⟨p, 2, none⟩ = some (.slice B L.length c)) := Lib.hid fun W hb => (RcSt.cells (H.below hb)).2.2.1
  have HPL : Hid (∀ W, Below W0.heap.size W0 W → Calls Tryd.prog 43 #[.pointer (some ⟨p, 0, none⟩), .agg (aV a)] W fun e w' => e = .returned (.int .i64 (idxZ L a)) ∧ Below W.heap.size W w') := Lib.hid fun W hb => place_raw ⟨p, B, c, E, A, last, L⟩ (H.below hb) hl a
  have HEN : Hid (∀ k, ∀ hk : k < L.length, ∀ W, Below W0.heap.size W0 W → ∃ g, B = some ⟨g, 0, none⟩ ∧ W.cell? ⟨g, k * 20 + 17, none⟩ = some (.int .i64 L[k].2.est)) := Lib.hid fun k hk W hb => by
    obtain ⟨g, e, he⟩ := (H.below hb).en 1 rfl k hk
    exact ⟨g, e, he.e⟩
  have HB : Hid (Below W0.heap.size W0 W0) := Lib.hid (Below.refl _ _)
  subst hW
  clear h hB0 H HX
  go_enter Tryd.func29, Tryd.ntmps29
  by_cases hv : validA a = false
  · have HG := Lib.hid (show getS L a first = (0, 1) from if_pos (.inl hv))
    go_wp2_with (first
      | (go_at_call 41; refine (rvalid_calls a _).mono ?_; rintro e w1 ⟨rfl, hb1⟩; replace HB := Lib.hid (HB.out.trans (hb1.mono HB.out.size)); clear hb1)
      | (go_at_call 42; refine (rfloor_calls a _).mono ?_; rintro e w1 ⟨rfl, hb1⟩; replace HB := Lib.hid (HB.out.trans (hb1.mono HB.out.size)); clear hb1)
      | (go_at_call 43; refine (HPL.out _ HB.out).mono ?_; rintro e w1 ⟨rfl, hb1⟩; replace HB := Lib.hid (HB.out.trans (hb1.mono HB.out.size)); clear hb1; have c2 := HC2.out _ HB.out)
      | (refine gate_ (.load 32 (.tmp 4)) rfl ?_; first | (refine ld_A (.tmp 4) rfl rfl (HRG.out _ HB.out) rfl ?_) | (refine wpList_guarded (by rfl) ?_; refine ld_A (.tmp 4) rfl rfl (HRG.out _ HB.out) rfl ?_)))
    go_ret2
    exact ⟨by rw [HG.out]; rfl, HE.out.trans (HB.out.mono HE.out.size)⟩
  have hv : validA a = true := by simpa using hv
  by_cases hf : first < floorA a
  · have HG := Lib.hid (show getS L a first = (0, 1) from if_pos (.inr (.inl hf)))
    have hd : decide (first < floorA a) = true := decide_eq_true hf
    go_wp2_with (first
      | (go_at_call 41; refine (rvalid_calls a _).mono ?_; rintro e w1 ⟨rfl, hb1⟩; replace HB := Lib.hid (HB.out.trans (hb1.mono HB.out.size)); clear hb1)
      | (go_at_call 42; refine (rfloor_calls a _).mono ?_; rintro e w1 ⟨rfl, hb1⟩; replace HB := Lib.hid (HB.out.trans (hb1.mono HB.out.size)); clear hb1)
      | (go_at_call 43; refine (HPL.out _ HB.out).mono ?_; rintro e w1 ⟨rfl, hb1⟩; replace HB := Lib.hid (HB.out.trans (hb1.mono HB.out.size)); clear hb1; have c2 := HC2.out _ HB.out)
      | (refine gate_ (.load 32 (.tmp 4)) rfl ?_; first | (refine ld_A (.tmp 4) rfl rfl (HRG.out _ HB.out) rfl ?_) | (refine wpList_guarded (by rfl) ?_; refine ld_A (.tmp 4) rfl rfl (HRG.out _ HB.out) rfl ?_)))
    go_ret2
    exact ⟨by rw [HG.out]; rfl, HE.out.trans (HB.out.mono HE.out.size)⟩
  have hd : decide (first < floorA a) = false := decide_eq_false hf
  by_cases h6 : 65535 < first
  · have HG := Lib.hid (show getS L a first = (0, 1) from if_pos (.inr (.inr h6)))
    have hd2 : decide (first > 65535) = true := decide_eq_true h6
    go_wp2_with (first
      | (go_at_call 41; refine (rvalid_calls a _).mono ?_; rintro e w1 ⟨rfl, hb1⟩; replace HB := Lib.hid (HB.out.trans (hb1.mono HB.out.size)); clear hb1)
      | (go_at_call 42; refine (rfloor_calls a _).mono ?_; rintro e w1 ⟨rfl, hb1⟩; replace HB := Lib.hid (HB.out.trans (hb1.mono HB.out.size)); clear hb1)
      | (go_at_call 43; refine (HPL.out _ HB.out).mono ?_; rintro e w1 ⟨rfl, hb1⟩; replace HB := Lib.hid (HB.out.trans (hb1.mono HB.out.size)); clear hb1; have c2 := HC2.out _ HB.out)
      | (refine gate_ (.load 32 (.tmp 4)) rfl ?_; first | (refine ld_A (.tmp 4) rfl rfl (HRG.out _ HB.out) rfl ?_) | (refine wpList_guarded (by rfl) ?_; refine ld_A (.tmp 4) rfl rfl (HRG.out _ HB.out) rfl ?_)))
    go_ret2
    exact ⟨by rw [HG.out]; rfl, HE.out.trans (HB.out.mono HE.out.size)⟩
  have hd2 : decide (first > 65535) = false := decide_eq_false h6
  have HF : getS L a first = match lookM L a with | some x => (if x.est < first then x.est else first, 0) | none => (first, 0) := if_neg fun h => h.elim (fun h => by rw [hv] at h; cases h) (fun h => h.elim hf h6)
  cases hi : idxM L a with
  | none =>
    have hz : idxZ L a = -1 := by unfold idxZ; rw [hi]
    have hlk : lookM L a = none := by rw [look_idx, hi]; rfl
    rw [hlk] at HF
    have HG := Lib.hid HF
    rw [hz] at HPL
    clear HF hi hz hlk
    go_wp2_with (first
      | (go_at_call 41; refine (rvalid_calls a _).mono ?_; rintro e w1 ⟨rfl, hb1⟩; replace HB := Lib.hid (HB.out.trans (hb1.mono HB.out.size)); clear hb1)
      | (go_at_call 42; refine (rfloor_calls a _).mono ?_; rintro e w1 ⟨rfl, hb1⟩; replace HB := Lib.hid (HB.out.trans (hb1.mono HB.out.size)); clear hb1)
      | (go_at_call 43; refine (HPL.out _ HB.out).mono ?_; rintro e w1 ⟨rfl, hb1⟩; replace HB := Lib.hid (HB.out.trans (hb1.mono HB.out.size)); clear hb1; have c2 := HC2.out _ HB.out)
      | (refine gate_ (.load 32 (.tmp 4)) rfl ?_; first | (refine ld_A (.tmp 4) rfl rfl (HRG.out _ HB.out) rfl ?_) | (refine wpList_guarded (by rfl) ?_; refine ld_A (.tmp 4) rfl rfl (HRG.out _ HB.out) rfl ?_)))
    go_ret2
    exact ⟨by rw [HG.out]; rfl, HE.out.trans (HB.out.mono HE.out.size)⟩
  | some k =>
    obtain ⟨hk, hka⟩ := idx_of hi
    have hz : idxZ L a = (k : Int) := by unfold idxZ; rw [hi]
    have hlk := look_at hi hk
    rw [hlk] at HF
    replace HF : getS L a first = (if L[k].2.est < first then L[k].2.est else first, 0) := HF
    rw [hz] at HPL
    have hk0 : (0 : Int) ≤ (k : Int) := by omega
    have hkz : (k : Int) < (L.length : Int) := by omega
    obtain ⟨g, rfl, _⟩ := HEN.out k hk _ HB.out
    have HEN2 : Hid (∀ W, Below (w.alloc (.cells (aV a) 32)).heap.size (w.alloc (.cells (aV a) 32)) W → W.cell? ⟨g, k * 20 + 17, none⟩ = some (.int .i64 L[k].2.est)) := Lib.hid fun W hb => by
      obtain ⟨g', e, he⟩ := HEN.out k hk W hb
      obtain rfl : g = g' := by injection e with e; injection e
      exact he
    generalize L[k].2.est = est at *
    clear hi hz hlk hka HEN
    by_cases hlt : est < first
    · have HG := Lib.hid (show getS L a first = (est, 0) by rw [HF, if_pos hlt])
      clear HF
      go_wp2_with (first
        | (go_at_call 41; refine (rvalid_calls a _).mono ?_; rintro e w1 ⟨rfl, hb1⟩; replace HB := Lib.hid (HB.out.trans (hb1.mono HB.out.size)); clear hb1)
        | (go_at_call 42; refine (rfloor_calls a _).mono ?_; rintro e w1 ⟨rfl, hb1⟩; replace HB := Lib.hid (HB.out.trans (hb1.mono HB.out.size)); clear hb1)
        | (go_at_call 43; refine (HPL.out _ HB.out).mono ?_; rintro e w1 ⟨rfl, hb1⟩; replace HB := Lib.hid (HB.out.trans (hb1.mono HB.out.size)); clear hb1; have c2 := HC2.out _ HB.out; have ce := HEN2.out _ HB.out)
        | (refine gate_ (.load 32 (.tmp 4)) rfl ?_; first | (refine ld_A (.tmp 4) rfl rfl (HRG.out _ HB.out) rfl ?_) | (refine wpList_guarded (by rfl) ?_; refine ld_A (.tmp 4) rfl rfl (HRG.out _ HB.out) rfl ?_)))
      go_ret2
      exact ⟨by rw [HG.out]; rfl, HE.out.trans (HB.out.mono HE.out.size)⟩
    · have HG := Lib.hid (show getS L a first = (first, 0) by rw [HF, if_neg hlt])
      clear HF
      go_wp2_with (first
        | (go_at_call 41; refine (rvalid_calls a _).mono ?_; rintro e w1 ⟨rfl, hb1⟩; replace HB := Lib.hid (HB.out.trans (hb1.mono HB.out.size)); clear hb1)
        | (go_at_call 42; refine (rfloor_calls a _).mono ?_; rintro e w1 ⟨rfl, hb1⟩; replace HB := Lib.hid (HB.out.trans (hb1.mono HB.out.size)); clear hb1)
        | (go_at_call 43; refine (HPL.out _ HB.out).mono ?_; rintro e w1 ⟨rfl, hb1⟩; replace HB := Lib.hid (HB.out.trans (hb1.mono HB.out.size)); clear hb1; have c2 := HC2.out _ HB.out; have ce := HEN2.out _ HB.out)
        | (refine gate_ (.load 32 (.tmp 4)) rfl ?_; first | (refine ld_A (.tmp 4) rfl rfl (HRG.out _ HB.out) rfl ?_) | (refine wpList_guarded (by rfl) ?_; refine ld_A (.tmp 4) rfl rfl (HRG.out _ HB.out) rfl ?_)))
      go_ret2
      exact ⟨by rw [HG.out]; rfl, HE.out.trans (HB.out.mono HE.out.size)⟩
end
section
variable {w0 w : World} {Γ Δ : List Ob}
set_option maxHeartbeats 8000000 in
set_option maxRecDepth 100000 in
theorem rwithout_raw (x : RcSt) (h : St w0 w (x.G ++ Δ)) (hl : x.L.length ≤ 100) (i : Nat) (hi : i < x.L.length) :
    Calls Tryd.prog 45 #[.pointer (some ⟨x.p, 0, none⟩), .int .i64 (i : Int)] w fun e w' => ∃ B c', e = .returned (.slice B (x.L.eraseIdx i).length c') ∧ St w0 w' (obEn (.slice B (x.L.eraseIdx i).length c') (x.L.eraseIdx i) :: (x.G ++ Δ)) := by
  obtain ⟨p, A, c, E, Ag, last, l⟩ := x
  have c2 := (RcSt.cells h).2.2.1
  replace hl : l.length ≤ 100 := hl
  replace hi : i < l.length := hi
  show Calls Tryd.prog 45 #[.pointer (some ⟨p, 0, none⟩), .int .i64 (i : Int)] w fun e w' => ∃ B c', e = .returned (.slice B (l.eraseIdx i).length c') ∧ St w0 w' (obEn (.slice B (l.eraseIdx i).length c') (l.eraseIdx i) :: (RcSt.G ⟨p, A, c, E, Ag, last, l⟩ ++ Δ))
  generalize hG : RcSt.G ⟨p, A, c, E, Ag, last, l⟩ ++ Δ = Γ at *
  have hj : Γ[1]? = some (obEn (.slice A l.length c) l) := by rw [← hG]; rfl
  have hj0 : Γ[0]? = some (obB p (rcV E Ag last (.slice A l.length c)) 83) := by rw [← hG]; rfl
  clear hG
  obtain ⟨g, rfl, -⟩ := h.en 1 hj i hi
  have hc := (Kd.R_reads' (h.get 1 hj)).2.1
  have H := Lib.hid h
  have HJ := Lib.hid hj
  have HJ0 := Lib.hid hj0
  replace c2 : w.cell? ⟨p, 2, none⟩ = some (.slice (some ⟨g, 0, none⟩) l.length c) := c2
  have hi0 : (0 : Int) ≤ (i : Int) := by omega
  have hi1 : (i : Int) < (l.length : Int) := by omega
  have hi2 : (i : Int) ≤ (c : Int) := by omega
  have hi3 : (i : Int) + 1 ≤ (l.length : Int) := by omega
  have hc2 : (l.length : Int) ≤ (c : Int) := by omega
  clear h hj hj0
  go_enter Tryd.func45, Tryd.ntmps45
  have hl1 : (l.take i).length = i := by rw [List.length_take]; omega
  have HL1 := Lib.hid hl1
  have HC1 : Hid (kE.C w (some ⟨g, 0, none⟩) i (l.take i)) := Lib.hid (by have := Kd.C_take (m := i) (Kd.R_reads' (H.out.get 1 HJ.out)).2.2 (by omega); rw [HL1.out] at this; exact this)
  have hb1 : i * 48 ≤ 140737488355328 := by omega
  clear hl1
  have HER : Hid (l.take i ++ l.drop (i + 1) = l.eraseIdx i) := Lib.hid (List.eraseIdx_eq_take_drop_succ ..).symm
  by_cases hce : c = i + 1
  · subst hce
    have HC2 : Hid (∀ W o, St w0 W (o :: Γ) → kE.C W (some ⟨g, 0, none⟩) 0 (l.drop (i + 1))) := Lib.hid fun W o h => by
      have := Kd.C_drop (m := i + 1) (Kd.R_reads' (h.get 2 (by rw [List.getElem?_cons_succ]; exact HJ.out))).2.2 (by omega) (show l.length ≤ i + 1 by omega)
      rw [List.length_drop] at this
      rw [if_pos rfl, show l.length - (i + 1) = 0 by omega] at this; exact this
    go_wp2_with (first
      | (have _g := HS3; at_builtin; go_must (refine wpList_append_rows_St kE HS3.out 0 rfl rfl (.tmp 14) (.tmp 21) 81 (.agg (enV (zA 0, zBel))) 48 rfl Tryd.underlying81 infoE (enV_size _) (by decide) (by decide) (l.drop (i + 1)) (some ⟨g, 0, none⟩) 0 0 rfl rfl (HC2.out _ _ HS3.out) (by rw [HL1.out]; omega) ?_; intro v1 w5 hv1 HS4; rw [HER.out] at hv1 HS4; obtain ⟨B2, c2, rfl⟩ := hv1.out; have HS5 : Hid (St w0 w5 (obEn (.slice B2 (l.eraseIdx i).length c2) (l.eraseIdx i) :: Γ)) := HS4; clear hv1 HS4))
      | (at_builtin; (refine wpList_append_new_St kE flE H.out rfl (.tmp 6) (.tmp 12) 81 (.agg (enV (zA 0, zBel))) 48 rfl Tryd.underlying81 infoE (enV_size _) (by decide) (by decide) (l.take i) (some ⟨g, 0, none⟩) i _ rfl rfl HC1.out hb1 ?_; intro v1 w3 hv1 HS2; rw [HL1.out] at hv1; obtain ⟨B1, c1, rfl⟩ := hv1.out; have HS3 : Hid (St w0 w3 (obEn (.slice B1 i c1) (l.take i) :: Γ)) := Lib.hid HS2.out.front1; have e2 := HS3.out.cellB 1 (by rw [List.getElem?_cons_succ]; exact HJ0.out) 2 rfl; clear hv1 HS2)))
    go_ret
    exact ⟨B2, c2, rfl, HS5.out⟩
  · have hce2 : ¬ (c : Int) = (i : Int) + 1 := by omega
    have HC2 : Hid (∀ W o, St w0 W (o :: Γ) → kE.C W (some ⟨g, (i + 1) * 20, none⟩) (l.length - (i + 1)) (l.drop (i + 1))) := Lib.hid fun W o h => by
      have := Kd.C_drop (m := i + 1) (Kd.R_reads' (h.get 2 (by rw [List.getElem?_cons_succ]; exact HJ.out))).2.2 (by omega) (show l.length ≤ c by omega)
      rw [List.length_drop] at this
      rw [if_neg hce] at this; have hadd : (⟨g, 0, none⟩ : Addr).add ((i + 1) * 20) = ⟨g, (i + 1) * 20, none⟩ := (by unfold Addr.add; split <;> simp_all); rw [← hadd]; exact this
    go_wp2_with (first
      | (have _g := HS3; at_builtin; go_must (refine wpList_append_rows_St kE HS3.out 0 rfl rfl (.tmp 14) (.tmp 21) 81 (.agg (enV (zA 0, zBel))) 48 rfl Tryd.underlying81 infoE (enV_size _) (by decide) (by decide) (l.drop (i + 1)) (some ⟨g, (i + 1) * 20, none⟩) (l.length - (i + 1)) (c - (i + 1)) rfl rfl (HC2.out _ _ HS3.out) (by rw [HL1.out]; omega) ?_; intro v1 w5 hv1 HS4; rw [HER.out] at hv1 HS4; obtain ⟨B2, c2, rfl⟩ := hv1.out; have HS5 : Hid (St w0 w5 (obEn (.slice B2 (l.eraseIdx i).length c2) (l.eraseIdx i) :: Γ)) := HS4; clear hv1 HS4))
      | (at_builtin; (refine wpList_append_new_St kE flE H.out rfl (.tmp 6) (.tmp 12) 81 (.agg (enV (zA 0, zBel))) 48 rfl Tryd.underlying81 infoE (enV_size _) (by decide) (by decide) (l.take i) (some ⟨g, 0, none⟩) i _ rfl rfl HC1.out hb1 ?_; intro v1 w3 hv1 HS2; rw [HL1.out] at hv1; obtain ⟨B1, c1, rfl⟩ := hv1.out; have HS3 : Hid (St w0 w3 (obEn (.slice B1 i c1) (l.take i) :: Γ)) := Lib.hid HS2.out.front1; have e2 := HS3.out.cellB 1 (by rw [List.getElem?_cons_succ]; exact HJ0.out) 2 rfl; clear hv1 HS2)))
    go_ret
    exact ⟨B2, c2, rfl, HS5.out⟩
end
end Go.Proofs.YtdinkhhaomblcaaDoor.SL
