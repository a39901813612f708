/- What the tie gives the walks: the table stands in its variable when the call begins. -/
import Derived.Test.YtdinkhhaomblcaaDoorW1
import Derived.Test.YtdinkhhaomblcaaDoorCards
import Derived.Test.YtdinkhhaomblcaaDoorTie
import Derived.ProofKit
import Derived.LaidMore
import Derived.OpenShut
import Derived.Stop.Joined
import Derived.SevenTiedAt
namespace Go.Proofs.YtdinkhhaomblcaaDoor
open Go.ChangeShapes Go.WideShapes Go.ChangeAt Go.RowKit

theorem own : ownKnob Tryd.prog.godebug = none := by kernel_rfl
theorem gTab : Tryd.prog.globalNamed "mosaic/plateau.plateaus" = some 0 := by kernel_rfl
theorem tTab : (Tryd.prog.globals[0]?).map (·.type) = some 49 := by kernel_rfl
abbrev laid1 {H : Type} : List (String × DataW H) := [("mosaic/plateau.plateaus", Rows.laid_mosaic_plateau_plateaus)]

theorem door_met (os : Os) (args : Array Value) : laidMetH Tryd.prog laid1 ((World.doorLaid Tryd.prog 400 os).forCall (fun _ _ => 0) ⟨#[], args, []⟩).memory :=
  laidMetH_of_parts3 (fuel := 8) (laidMet_of_run' 8 (by kernel_rfl) (by kernel_rfl)) (by kernel_rfl) (by kernel_rfl)

set_option maxRecDepth 100000 in
theorem tab_of_laid {W : World} (h : laidMetH Tryd.prog laid1 W) : Tab W := by
  rw [MakeChecks.laidMetH_plain _ _ _ (by kernel_rfl)] at h
  obtain ⟨ps, ⟨g0, t0, cs0, f0, p0, q0, hg0, ht0, hv0, hd0, _, _⟩, _, _⟩ := h
  obtain rfl := Option.some.inj (gTab.symm.trans hg0)
  obtain rfl := Option.some.inj (tTab.symm.trans ht0)
  obtain ⟨xs, m1, rfl, hx1, hlen, hn3, hel⟩ := DataW.trod_array Tryd.underlying49 hd0
  have c3 : Tryd.prog.cellsOf 3 = 1 := by kernel_rfl
  have c24 : Tryd.prog.cellsOf 49 = 12 := by kernel_rfl
  have key : ∀ (i : Nat) (v : Int), i < 12 → (xs.map (·.1))[i]? = some (.lit (.int .i64 v)) → W.cell? ⟨0, i, none⟩ = some (.int .i64 v) := by
    intro i v hi hx
    rw [World.var?_cell hg0 hv0 i]
    have h := hel i hi
    rw [c3, Nat.mul_one] at h
    rw [List.getElem?_map] at hx
    obtain ⟨x, hxi, hxv⟩ := Option.map_eq_some_iff.1 hx
    rw [hxi] at h
    obtain ⟨n, e1, e2, _⟩ := DataW.trod_int Tryd.underlying3 h
    rw [e2] at hxv
    have hn : n = v := by simpa using hxv
    subst hn
    obtain ⟨l⟩ := cs0
    have : (l.drop i).head? = some (.int .i64 n) := by
      cases hd : l.drop i with
      | nil => rw [show (⟨l⟩ : Array Value).toList = l from rfl, hd] at e1; simp at e1
      | cons c r => rw [show (⟨l⟩ : Array Value).toList = l from rfl, hd] at e1; simp at e1; subst e1; rfl
    rw [List.head?_drop] at this
    simpa using this
  have hl : xs.map (·.1) = [.lit (.int .i64 65535), .lit (.int .i64 32000), .lit (.int .i64 17914), .lit (.int .i64 8166), .lit (.int .i64 4352), .lit (.int .i64 2002), .lit (.int .i64 1492), .lit (.int .i64 1280), .lit (.int .i64 1006), .lit (.int .i64 508), .lit (.int .i64 296), .lit (.int .i64 68)] := by
    simp only [Prod.mk.injEq] at hx1
    have h := hx1.1
    unfold Rows.laid_mosaic_plateau_plateaus at h
    injection h with h
    exact h.symm
  rw [hl] at key
  exact ⟨key 0 _ (by omega) rfl, key 1 _ (by omega) rfl, key 2 _ (by omega) rfl, key 3 _ (by omega) rfl, key 4 _ (by omega) rfl, key 5 _ (by omega) rfl, key 6 _ (by omega) rfl, key 7 _ (by omega) rfl, key 8 _ (by omega) rfl, key 9 _ (by omega) rfl, key 10 _ (by omega) rfl, key 11 _ (by omega) rfl⟩

/-- The harness that the cards name. -/
abbrev harn : Bool × String := (true, "77c8d9cb15cad47e15868afca6b1f45e4d8d6e359ae909563b8970a5f8a474de")
end Go.Proofs.YtdinkhhaomblcaaDoor
