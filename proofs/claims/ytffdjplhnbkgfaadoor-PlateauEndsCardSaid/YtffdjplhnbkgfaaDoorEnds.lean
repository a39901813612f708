/- The statement PlateauEnds (mosaiclaw16), for every input: its row over the table, and its card, which ties the table to the program's text. No further condition. -/
import Derived.Test.YtffdjplhnbkgfaaDoorP1
namespace Go.Proofs.YtffdjplhnbkgfaaDoor
open Go.ChangeShapes Go.WideShapes Go.ChangeAt Go.RowKit
namespace PlateauEndsR

theorem down_succ (k : Nat) (n : Int) : down (k + 1) n = down k (below n) := by
  induction k with
  | zero => rfl
  | succ k ih => show below (down (k + 1) n) = below (down k (below n)); rw [ih]
theorem up_succ (k : Nat) (n : Int) : up (k + 1) n = up k (above n) := by
  induction k with
  | zero => rfl
  | succ k ih => show above (up (k + 1) n) = above (up k (above n)); rw [ih]
theorem below_in (n : Int) : isP (below n) = true := by
  obtain ⟨h1, h2, _⟩ := below_spec n
  rcases h2 with h | h
  · rw [h]; rfl
  · exact h
theorem downs (n : Int) : below (down 12 n) = 68 ∧ down 12 n = 68 := by
  have h := below_in n
  rw [down_succ]
  generalize below n = b at *
  rw [isP_iff] at h
  rcases h with rfl | rfl | rfl | rfl | rfl | rfl | rfl | rfl | rfl | rfl | rfl | rfl <;> decide
theorem ups (n : Int) : above (up 12 n) = 65535 ∧ up 12 n = 65535 := by
  obtain ⟨_, h, _⟩ := above_spec n
  rw [up_succ]
  generalize above n = b at *
  rw [isP_iff] at h
  rcases h with rfl | rfl | rfl | rfl | rfl | rfl | rfl | rfl | rfl | rfl | rfl | rfl <;> decide
set_option maxRecDepth 100000 in
theorem lifted (os : Os) (started : os.Started) (H : Type) (enc : TypeId × Value → H) :
    ReturnsInHanded {} Tryd.checked os 5 .any (fun w args => (Rows.plateauEndsSpec.pre enc Tryd.prog Tryd.f5 [] false w args ∧ laidMetH Tryd.prog laid1 w) ∧ sizedMet enc Tryd.prog Tryd.f5 (OpenSpec.ofChange Rows.plateauEndsSpec) false w args)
      (Rows.plateauEndsSpec.post enc Tryd.prog Tryd.f5 false true false false) := by
  refine returnsInHanded_of_change_and (C := Tryd.checked) (X := fun w _ => laidMetH Tryd.prog laid1 w) (fun _ _ _ hh h => h.of_heap hh) own started (by kernel_rfl) Tryd.func5
    (ChangeSpec.witness_shaped (enc := enc) (C := Tryd.checked) (os := os) (X := fun w _ => laidMetH Tryd.prog laid1 w) false (World.doorLaid Tryd.prog 400 os) #[.int .i64 0] 8 rfl (World.shaped_of_RefB (by kernel_rfl) (by kernel_rfl)) (by kernel_rfl) (by kernel_rfl) (by kernel_rfl) (door_met os _)) ?_
  intro W base args ds gs before hval0 hW _ _ hL _
  have hval : ∀ (j : Nat) t v, Tryd.f5.params[j]? = some t → args[j]? = some v → Value.okWide Tryd.prog W .any base t v := hval0
  have hW' := hW
  obtain ⟨p, q, hA0, hV, rfl, hfz, hnd⟩ := hW
  have hA : DataW.TrodAll enc Tryd.prog W 0 (fun _ => true) true Tryd.f5.params.toList args.toList ds p := hA0
  rw [Tryd.params5] at hA hval
  obtain ⟨vn, vsn, dn, dsn, pn, qn, hargs, rfl, rfl, hn, rn⟩ := trodAll_cons hA
  obtain ⟨rfl, rfl, rfl⟩ := trodAll_nil rn
  obtain rfl : args = #[vn] := by cases args; simp_all
  obtain ⟨rfl, rfl⟩ := trodVars_none hV
  obtain ⟨n, rfl, rfl, rfl, wn⟩ := open_int Tryd.underlying3 (hval 0 3 vn rfl rfl) hn
  clear hA0 hval0
  refine (ends_any n W (tab_of_laid hL) (downs n) (ups n)).mono fun e W' ⟨he, hw⟩ => ?_
  subst he
  exact ⟨_, rfl, _, _, _, [], _, [], hW', trodAll_mk1 (shut_bool Tryd.underlying4 _), (trodAll_cons_mk (shut_int Tryd.underlying3 wn) trodAll_mk0), rfl, hw.frame _, fun h => by cases h⟩

theorem holds : Rows.PlateauEndsSaid :=
  OpenClaim.holds_of_wide 5 Tryd.f5 rfl rfl rfl rfl rfl rfl rfl ⟨rfl, rfl, rfl, rfl, rfl⟩ rfl rfl rfl rfl rfl (by kernel_rfl) Tryd.func5 (by kernel_rfl)
    (of_decide_eq_true (by kernel_rfl)) (by unfold Func.isWrapper; first | (rw [if_pos (by decide +kernel)]; kernel_rfl) | (rw [if_neg (by decide +kernel)]; exact ⟨rfl, rfl⟩))
    (fun os started H enc _ => lifted os started H enc)
theorem card_holds : Rows.PlateauEndsCardSaid :=
  Claim7.holds_tied_plain_at .later [] [.data] true harn false
    holds (fun _ h => by cases h) (by kernel_rfl) (fun _ h => by cases h) plateauEnds_row_tie rfl ⟨rfl, rfl⟩ (by kernel_rfl) rfl
    (fun f fn hf hfn => by
      obtain rfl : f = 5 := Option.some.inj ((show Tryd.prog.funcNamed "mosaic/mosaiclaw16.PlateauEnds" = some 5 by kernel_rfl).symm.trans hf) |>.symm
      obtain rfl : fn = Tryd.f5 := (Option.some.inj (Tryd.func5.symm.trans hfn)).symm
      exact ⟨by kernel_rfl, fun j t ht => by
        rw [Tryd.params5] at ht
        have hm : t ∈ [3] := by simpa using Array.mem_of_getElem? ht
        have hall : ([3].all fun u => !Tryd.prog.wantsStandIn u) = true := by kernel_rfl
        exact (show Tryd.prog.wantsStandIn t = false by simpa using List.all_eq_true.1 hall t hm)⟩)
    (by kernel_rfl)
end PlateauEndsR
theorem plateauEnds_card : Rows.PlateauEndsCardSaid := PlateauEndsR.card_holds
#print axioms plateauEnds_card
end Go.Proofs.YtffdjplhnbkgfaaDoor
