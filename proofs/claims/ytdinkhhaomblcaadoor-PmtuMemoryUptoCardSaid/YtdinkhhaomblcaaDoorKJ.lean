/- The statements' told. No condition but sizes. -/
import Derived.Test.YtdinkhhaomblcaaDoorKN
namespace Go.Proofs.YtdinkhhaomblcaaDoor.SL
open Go.RowKit Go.Proofs.YtdinkhhaomblcaaDoorW.PrintWords Go.Proofs.YtdinkhhaomblcaaDoorW.PrintLast Go.Proofs.YtdinkhhaomblcaaDoorW.PrintMore
attribute [-go_sem] loadVar
attribute [local go_sem] lv3
attribute [local go_sem high] eql_ad
attribute [local go_sem ↓] Go.wp_at_zero Go.wp_at_succ
set_option maxHeartbeats 4000000 in
set_option maxRecDepth 100000 in
theorem told_calls (v : Value) (x : List Ad) (a : Ad) (w : World) (hx : RdA w v x) (hl : x.length < 1000000000) :
    Calls Tryd.prog 24 #[v, .agg (aV a)] w fun e w' => e = .returned (.bool (decide (a ∈ x))) ∧ Below w.heap.size w w' := by
  obtain ⟨A, c, rfl, hx1, HX⟩ := hx
  have HX := Lib.hid HX
  have hB0 : Below w.heap.size w (w.alloc (.cells (aV a) 32)) := ((Touch.refl [] w).alloc _).below
  have HB0 := Lib.hid hB0
  have HA : Hid ((w.alloc (.cells (aV a) 32)).heap[w.heap.size]? = some (.cells (aV a) 32 (0, 0))) := Lib.hid (heap_alloc_new w _)
  clear hB0
  go_enter Tryd.func24, Tryd.ntmps24
  go_wp2_with fail
  go_loopw [5] (fun i wr => ∃ k : Nat, k ≤ x.length ∧ i = .int .i64 k ∧ Hid (Below (w.alloc (.cells (aV a) 32)).heap.size (w.alloc (.cells (aV a) 32)) wr) ∧ Hid (a ∉ x.take k)) (fun i _ => x.length - (intOf i).toNat)
  case atStart => exact ⟨0, Nat.zero_le _, rfl, Lib.hid (Below.refl _ _), Lib.hid (by simp)⟩
  case round =>
    obtain ⟨k, hk, rfl, HB, HE⟩ := hrel
    by_cases hlt : k < x.length
    · have hltz : (k : Int) < (x.length : Int) := by omega
      have hk0 : (0 : Int) ≤ (k : Int) := by omega
      obtain ⟨g, rfl, hr1, hg1⟩ := HX.out k _ (List.getElem?_eq_getElem hlt)
      have HT := Lib.hid (List.take_succ_eq_append_getElem hlt)
      have HM := Lib.hid (List.getElem_mem hlt)
      have HZ : Hid (Below w.heap.size w wr) := Lib.hid (HB0.out.trans (HB.out.mono HB0.out.size))
      have R1 := Lib.hid (rangeAt_below hr1 hg1 HZ.out)
      have R2 : Hid (wr.rangeAt w.heap.size 0 (aL a)) := Lib.hid (range_A ((HB.out.block _ (lt_of_block HA.out)).trans HA.out))
      have HL := Lib.hid hlt
      clear hr1 hg1 hk
      generalize x[k] = s at R1 HT HM
      have hLD1 : ∀ W : World, W.rangeAt g (k * 17) (aL s) → (loadVar 32 ⟨g, k * 17, none⟩).run Tryd.prog W = .ok (.agg (aV s)) W := fun W h => lvA h
      have hLD2 : ∀ W : World, W.rangeAt w.heap.size 0 (aL a) → (loadVar 32 ⟨w.heap.size, 0, none⟩).run Tryd.prog W = .ok (.agg (aV a)) W := fun W h => lvA h
      have R1d : Hid (wr.drew.rangeAt g (k * 17) (aL s)) := Lib.hid (fun j u h => R1.out j u h)
      have R2d : Hid (wr.drew.rangeAt w.heap.size 0 (aL a)) := Lib.hid (fun j u h => R2.out j u h)
      go_wp2_with fail
      go_region_held3 (fun W => W.rangeAt g (k * 17) (aL s) ∧ W.rangeAt w.heap.size 0 (aL a)) (first | exact ⟨R1.out, R2.out⟩ | exact ⟨R1d.out, R2d.out⟩) (fail)
      generalize hq : decide (s = a) = q
      have HQ := Lib.hid hq
      clear hq
      cases q with
      | true =>
        go_wp2_with fail
        go_ret
        refine ⟨?_, HZ.out.drew⟩
        have : a ∈ x := by rw [← of_decide_eq_true HQ.out]; exact HM.out
        rw [decide_eq_true this]
        rfl
      | false =>
        go_wp2_with fail
        go_roundw
        case rel => exact ⟨k + 1, by have := HL.out; omega, by go_num, Lib.hid HB.out.drew, Lib.hid (by
          rw [HT.out]
          intro hm
          rcases List.mem_append.1 hm with hm | hm
          · exact HE.out hm
          · exact of_decide_eq_false HQ.out (List.mem_singleton.1 hm).symm)⟩
        case measure => have := HL.out; simp [intOf]; omega
    · have hltz : ¬ (k : Int) < (x.length : Int) := by omega
      have hkx : k = x.length := by omega
      subst hkx
      go_wp2
      go_ret
      refine ⟨?_, HB0.out.trans (HB.out.mono HB0.out.size)⟩
      have e := HE.out
      rw [List.take_length] at e
      rw [decide_eq_false e]
      rfl
theorem c_told {w0 w : World} {Γ : List Ob} (h : St w0 w Γ) {v : Value} {x : List Ad} (hx : RdA w v x) (hl : x.length < 1000000000) (a : Ad) {r : Bool} (hr : decide (a ∈ x) = r) :
    Calls Tryd.prog 24 #[v, .agg (aV a)] w fun e w' => e = .returned (.bool r) ∧ St w0 w' Γ := by
  subst hr
  exact (told_calls v x a w hx hl).mono fun _ _ ⟨he, hb⟩ => ⟨he, h.below hb⟩
/-! ### what rises -/
/-- How many plateaus stand above. -/
def rk (n : Int) : Nat := if n < 68 then 12 else if n < 296 then 11 else if n < 508 then 10 else if n < 1006 then 9 else if n < 1280 then 8 else if n < 1492 then 7 else if n < 2002 then 6 else if n < 4352 then 5 else if n < 8166 then 4 else if n < 17914 then 3 else if n < 32000 then 2 else if n < 65535 then 1 else 0
theorem rk_le (n : Int) : rk n ≤ 12 := by unfold rk; repeat' split
                                          all_goals omega
theorem rk_above {n : Int} (h : n < 65535) : rk (above n) + 1 ≤ rk n := by
  by_cases h0 : n < 68
  · rw [above_0 n h0, show rk 68 = 11 by decide]; unfold rk; rw [if_pos h0]; decide
  by_cases h1 : n < 296
  · rw [above_1 n (by omega) h1, show rk 296 = 10 by decide]; unfold rk; rw [if_neg h0, if_pos h1]; decide
  by_cases h2 : n < 508
  · rw [above_2 n (by omega) h2, show rk 508 = 9 by decide]; unfold rk; rw [if_neg h0, if_neg h1, if_pos h2]; decide
  by_cases h3 : n < 1006
  · rw [above_3 n (by omega) h3, show rk 1006 = 8 by decide]; unfold rk; rw [if_neg h0, if_neg h1, if_neg h2, if_pos h3]; decide
  by_cases h4 : n < 1280
  · rw [above_4 n (by omega) h4, show rk 1280 = 7 by decide]; unfold rk; rw [if_neg h0, if_neg h1, if_neg h2, if_neg h3, if_pos h4]; decide
  by_cases h5 : n < 1492
  · rw [above_5 n (by omega) h5, show rk 1492 = 6 by decide]; unfold rk; rw [if_neg h0, if_neg h1, if_neg h2, if_neg h3, if_neg h4, if_pos h5]; decide
  by_cases h6 : n < 2002
  · rw [above_6 n (by omega) h6, show rk 2002 = 5 by decide]; unfold rk; rw [if_neg h0, if_neg h1, if_neg h2, if_neg h3, if_neg h4, if_neg h5, if_pos h6]; decide
  by_cases h7 : n < 4352
  · rw [above_7 n (by omega) h7, show rk 4352 = 4 by decide]; unfold rk; rw [if_neg h0, if_neg h1, if_neg h2, if_neg h3, if_neg h4, if_neg h5, if_neg h6, if_pos h7]; decide
  by_cases h8 : n < 8166
  · rw [above_8 n (by omega) h8, show rk 8166 = 3 by decide]; unfold rk; rw [if_neg h0, if_neg h1, if_neg h2, if_neg h3, if_neg h4, if_neg h5, if_neg h6, if_neg h7, if_pos h8]; decide
  by_cases h9 : n < 17914
  · rw [above_9 n (by omega) h9, show rk 17914 = 2 by decide]; unfold rk; rw [if_neg h0, if_neg h1, if_neg h2, if_neg h3, if_neg h4, if_neg h5, if_neg h6, if_neg h7, if_neg h8, if_pos h9]; decide
  by_cases h10 : n < 32000
  · rw [above_10 n (by omega) h10, show rk 32000 = 1 by decide]; unfold rk; rw [if_neg h0, if_neg h1, if_neg h2, if_neg h3, if_neg h4, if_neg h5, if_neg h6, if_neg h7, if_neg h8, if_neg h9, if_pos h10]; decide
  · rw [above_11 n (by omega) h, show rk 65535 = 0 by decide]; unfold rk; rw [if_neg h0, if_neg h1, if_neg h2, if_neg h3, if_neg h4, if_neg h5, if_neg h6, if_neg h7, if_neg h8, if_neg h9, if_neg h10, if_pos h]; decide
theorem rk_zero {n : Int} (h : rk n = 0) : 65535 ≤ n := Int.not_lt.1 fun hlt => by
  have := rk_above hlt
  omega
/-- Behind k Ticks, each an age behind the one ahead. -/
def RkC (c : Ca) (k : Nat) : Prop := ∀ x ∈ c.M, rk x.2.est + k ≤ 12
section
variable {E A first now nw k : Int} {c : Ca}
theorem WI.above_gt (h : WI E A first now c k) {x : Ad × Bel} (hx : x ∈ c.M) : x.2.est < above x.2.est ∧ x.2.est < first := by
  have h1 := h.ok.ent x hx
  have h2 := h.fr x hx
  have := (above_spec x.2.est).1 (by omega)
  omega
theorem WI.riseAll (h : WI E A first now c k) (h1 : now + A ≤ nw) (h2 : nw ≤ 1099511627776) :
    ∃ c', tickS c above nw = (0, c') ∧ WI E A first nw c' k ∧ tickL c nw = ordS (c.M.map (·.1)) ∧ (∀ j, estS c.M first j ≤ estS c'.M first j ∧ (decide (estS c.M first j < estS c'.M first j) = decide (dstA j ∈ ordS (c.M.map (·.1))))) ∧ ∀ q, RkC c q → RkC c' (q + 1) := by
  have ha := h.ok.a1
  have haa := h.a
  obtain ⟨c', hr, hM, hl, hw', _⟩ := h.tick (nw := nw) (by omega) h2
  have hdue : ∀ x ∈ c.M, c.A ≤ nw - x.2.clk := fun x hx => by
    have h3 := (h.ok.ent x hx).2.1
    have h4 := h.nn
    omega
  have hall : dueS c.A nw c.M = c.M.map (·.1) := by
    unfold dueS
    rw [List.filter_eq_self.2 fun x hx => decide_eq_true (hdue x hx)]
  have hrise : ∀ x ∈ c.M, rise c.A nw above x = if x.2.fst ≤ above x.2.est then none else some (x.1, { x.2 with est := above x.2.est, clk := nw }) := fun x hx => by
    unfold rise
    rw [if_pos (hdue x hx)]
  refine ⟨c', hr, hw', by rw [hl, hall], fun j => ⟨tick_est h hw' hM j, ?_⟩, fun q hq x hx => ?_⟩
  · have hmem : dstA j ∈ ordS (c.M.map (·.1)) ↔ ∃ x, (dstA j, x) ∈ c.M := by
      rw [(ordS_spec h.ok.nd).2.mem_iff, List.mem_map]
      exact ⟨fun ⟨y, hy, e⟩ => ⟨y.2, by rw [← e]; exact hy⟩, fun ⟨x, hx⟩ => ⟨_, hx, rfl⟩⟩
    rw [h.est j, hw'.est j]
    cases hlk : lookM c.M (dstA j) with
    | none =>
      have h5 : lookM c'.M (dstA j) = none := by
        rw [look_none]
        intro x hx e
        rw [hM] at hx
        obtain ⟨u, hu, hr⟩ := List.mem_filterMap.1 hx
        exact look_none.1 hlk u hu ((rise_key hr).1.symm.trans e)
      rw [h5]
      have h6 : ¬ dstA j ∈ ordS (c.M.map (·.1)) := fun hm => by
        obtain ⟨x, hx⟩ := hmem.1 hm
        exact look_none.1 hlk _ hx rfl
      rw [decide_eq_false h6]
      simp
    | some x =>
      have hx := (look_mem h.ok.nd).1 hlk
      have hgt := h.above_gt hx
      rw [decide_eq_true (hmem.2 ⟨x, hx⟩)]
      refine decide_eq_true ?_
      cases hlk' : lookM c'.M (dstA j) with
      | none => exact hgt.2
      | some y =>
        have hm' := (look_mem hw'.ok.nd).1 hlk'
        rw [hM] at hm'
        obtain ⟨u, hu, hr⟩ := List.mem_filterMap.1 hm'
        have hk := (rise_key hr).1
        have : u = (dstA j, x) := NdM.one h.ok.nd hu hx hk.symm
        subst this
        rw [hrise _ hu] at hr
        split at hr
        · cases hr
        · injection hr with hr
          injection hr with _ hr
          rw [← hr]
          exact hgt.1
  · rw [hM] at hx
    obtain ⟨u, hu, hr⟩ := List.mem_filterMap.1 hx
    rw [hrise _ hu] at hr
    have hgt := h.above_gt hu
    have hf2 := h.f2
    split at hr
    · cases hr
    · injection hr with hr
      rw [← hr]
      have h7 := rk_above (n := u.2.est) (by omega)
      have h8 := hq u hu
      show rk (above u.2.est) + (q + 1) ≤ 12
      omega
theorem WI.rkEnd (h : WI E A first now c k) (hr : RkC c 12) : c.M = [] := by
  refine List.eq_nil_iff_forall_not_mem.2 fun x hx => ?_
  have h1 := hr x hx
  have h2 := rk_zero (show rk x.2.est = 0 by omega)
  have h3 := (h.above_gt hx).2
  have h4 := h.f2
  omega
end
end Go.Proofs.YtdinkhhaomblcaaDoor.SL
