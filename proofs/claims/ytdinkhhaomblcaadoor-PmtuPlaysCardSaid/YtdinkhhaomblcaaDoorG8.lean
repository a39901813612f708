/- The walk of Hear. No condition but sizes. -/
import Derived.Test.YtdinkhhaomblcaaDoorG7
namespace Go.Proofs.YtdinkhhaomblcaaDoor.SL
open Go.RowKit Go.Proofs.YtdinkhhaomblcaaDoorW.PrintWords Go.Proofs.YtdinkhhaomblcaaDoorW.PrintLast Go.Proofs.YtdinkhhaomblcaaDoorW.PrintMore
section
variable {w0 w : World} {Γ : List Ob} {p b : Nat} {c : Ca}
theorem St.now (h : St w0 w Γ) (i : Nat) (hi : Γ[i]? = some (obC p b c)) (now : Int) : St w0 (w.setCell ⟨p, 3, none⟩ (.int .i64 now)) (Γ.set i (obC p b { c with now := now })) :=
  h.putC i hi ((show CaAt w p b c from h.get i hi).setNow now) ((Touch.refl [p, b] w).setCell (.inl List.mem_cons_self) _)
theorem St.hrd (h : St w0 w Γ) (i : Nat) (hi : Γ[i]? = some (obC p b c)) (n : Int) : St w0 (w.setCell ⟨p, 4, none⟩ (.int .i64 n)) (Γ.set i (obC p b { c with hrd := n })) :=
  h.putC i hi ((show CaAt w p b c from h.get i hi).setHrd n) ((Touch.refl [p, b] w).setCell (.inl List.mem_cons_self) _)
theorem St.tabF {S : List Nat} {w1 : World} (h : St w0 w Γ) (i : Nat) (hi : Γ[i]? = some (obF w1 S)) (hT : Tab w1) (hS : 0 ∉ S) : Tab w :=
  tab_same hT ((show ∀ k, k < w1.heap.size → k ∉ S → w.heap[k]? = w1.heap[k]? from h.get i hi) _ (tab_lt hT) hS)
end
theorem OkC.withNow {c : Ca} (h : OkC c) {now : Int} (hm : mayS c now = true) : OkC { c with now := now } := by
  have hm : c.now ≤ now ∧ now ≤ 1099511627776 := of_decide_eq_true hm
  have hn0 := h.n0
  exact ⟨h.e1, h.e64, h.a1, h.a2, by show 0 ≤ now; omega, hm.2, h.h0, h.len, h.nd, h.hd, fun x hx => by
      obtain ⟨q1, q2, q3⟩ := h.ent x hx
      exact ⟨q1, by show x.2.clk ≤ now; omega, q3⟩⟩
theorem get_err (M : Mp) (a : Ad) (first : Int) : (getS M a first).2 = 0 ∨ (getS M a first).2 = 1 := by
  unfold getS
  split
  · exact .inr rfl
  · cases lookM M a <;> exact .inl rfl
abbrev hrA (p : Nat) (a : Ad) (first mtu length now : Int) : Array Value := #[.pointer (some ⟨p, 0, none⟩), .agg (aV a), .int .i64 first, .int .i64 mtu, .int .i64 length, .int .i64 now]
attribute [-go_sem] loadVar
attribute [local go_sem] lv3 lv64 lvMap
attribute [local go_sem ↓] Go.wp_at_zero Go.wp_at_succ
set_option maxHeartbeats 4000000 in
set_option maxRecDepth 100000 in
theorem hear_bad (p b : Nat) (c : Ca) (a : Ad) (first mtu length now : Int) (w : World) (h : CaAt w p b c) (hb : (getS c.M a first).2 ≠ 0 ∨ mayS c now = false) :
    Calls Tryd.prog 27 (hrA p a first mtu length now) w fun e w' => e = .returned (.tuple #[.bool false, .int .i64 1]) ∧ Below w.heap.size w w' := by
  have hB0 : Below w.heap.size w (w.alloc (.cells (aV a) 32)) := ((Touch.refl [] w).alloc _).below
  have HB := Lib.hid hB0
  have HR := Lib.hid (range_A (heap_alloc_new w (.cells (aV a) 32)))
  have HC : Hid (∀ W : World, Below w.heap.size w W → CaAt W p b c) := Lib.hid fun W hb => h.below hb
  clear h hB0
  have H1 : Hid ((getS c.M a first).2 = 0 ∨ (getS c.M a first).2 = 1) := Lib.hid (get_err _ _ _)
  go_enter Tryd.func27, Tryd.ntmps27
  by_cases hg : (getS c.M a first).2 = 0
  · have hm : mayS c now = false := hb.resolve_left (fun e => e hg)
    clear hb
    generalize hgs : (getS c.M a first).1 = pres at *
    have HGS := Lib.hid (And.intro hg hgs)
    clear hg hgs
    go_wp2_with (first
      | (refine gate_ (.load 32 (.tmp 7)) rfl ?_; go_must (refine ld_A (.tmp 7) rfl rfl HR.out rfl ?_))
      | (go_at_call 26; refine (get_calls p b c a first _ (HC.out _ HB.out)).mono ?_; rw [HGS.out.1, HGS.out.2]; rintro e w1 ⟨rfl, hb1⟩; replace HB := Lib.hid (HB.out.trans (hb1.mono HB.out.size)); clear hb1)
      | (go_at_call 34; refine (may_calls p b c now _ (HC.out _ HB.out)).mono ?_; rw [hm]; rintro e w1 ⟨rfl, hb1⟩; replace HB := Lib.hid (HB.out.trans (hb1.mono HB.out.size)); clear hb1))
    go_ret2
    exact ⟨rfl, HB.out⟩
  · have hg1 := H1.out.resolve_left hg
    clear hb hg
    generalize hgs : (getS c.M a first).1 = pres at *
    have HGS := Lib.hid (And.intro hg1 hgs)
    clear hg1 hgs
    go_wp2_with (first
      | (refine gate_ (.load 32 (.tmp 7)) rfl ?_; go_must (refine ld_A (.tmp 7) rfl rfl HR.out rfl ?_))
      | (go_at_call 26; refine (get_calls p b c a first _ (HC.out _ HB.out)).mono ?_; rw [HGS.out.1, HGS.out.2]; rintro e w1 ⟨rfl, hb1⟩; replace HB := Lib.hid (HB.out.trans (hb1.mono HB.out.size)); clear hb1))
    go_ret2
    exact ⟨rfl, HB.out⟩
/-- What Hear leaves, told by the objects. -/
theorem hear_end {w w' : World} {p b : Nat} {c' : Ca} {Γ : List Ob} (h : St (noHeap w) w' (obC p b c' :: obF w [p, b] :: Γ)) : CaAt w' p b c' ∧ Touch [p, b] w w' :=
  ⟨h.get 0 rfl, h.touch 1 [p, b] rfl (fun x hx => (obC p b c').lt w' (h.get 0 rfl) x hx)⟩
set_option maxHeartbeats 4000000 in
set_option maxRecDepth 100000 in
theorem hear_no (p b : Nat) (c : Ca) (a : Ad) (first mtu length now : Int) (w : World) (h : CaAt w p b c) (hT : Tab w) (hg0 : 0 ∉ [p, b]) (hg : (getS c.M a first).2 = 0) (hm : mayS c now = true) (hno : (meantS a mtu length).2 = false ∨ (getS c.M a first).1 ≤ (meantS a mtu length).1) :
    Calls Tryd.prog 27 (hrA p a first mtu length now) w fun e w' => e = .returned (.tuple #[.bool false, .int .i64 0]) ∧ CaAt w' p b { c with now := now } ∧ Touch [p, b] w w' := by
  have HS0 : Hid (St (noHeap w) w [obC p b c, obF w [p, b]]) := Lib.hid (St.start (o := obC p b c) h [p, b] (fun x hx => hx))
  have HG0 := Lib.hid hg0
  have HT := Lib.hid hT
  have HM := Lib.hid hm
  generalize hgs : (getS c.M a first).1 = pres at *
  have HGS := Lib.hid (And.intro hgs hg)
  generalize hn : meantS a mtu length = mm at *
  obtain ⟨n, is⟩ := mm
  have HN := Lib.hid hn
  clear h hT hg0 hm hgs hg hn
  simp only at hno
  go_enter Tryd.func27, Tryd.ntmps27
  cases is with
  | false =>
    clear hno
    go_wp2_with (first
    | (refine gate_ (.box 32 (.tmp 1)) rfl ?_; go_must (refine wpList_box_B rfl 32 (.tmp 1) rfl (aV a) rfl _ rfl HS0.out ?_; intro w1 hz hs; clear hz; have HS : Hid (St (noHeap w) w1 [obC p b c, obF w [p, b], obB w.heap.size (aV a) 32]) := Lib.hid hs; clear hs))
    | (refine gate_ (.load 32 (.tmp 7)) rfl ?_; go_must (first | refine ld_A (.tmp 7) rfl rfl (range_A (HS.out.get 2 rfl)) rfl ?_ | refine ld_A (.tmp 7) rfl rfl (range_A ((HS.out.now 0 rfl now).get 2 rfl)) rfl ?_))
    | (go_at_call 26; refine (get_calls p b c a first _ (HS.out.get 0 rfl)).mono ?_; rw [HGS.out.1, HGS.out.2]; rintro e w2 ⟨rfl, hb1⟩; replace HS := Lib.hid (HS.out.below hb1); clear hb1)
    | (go_at_call 34; refine (may_calls p b c now _ (HS.out.get 0 rfl)).mono ?_; rw [HM.out]; rintro e w3 ⟨rfl, hb1⟩; replace HS := Lib.hid (HS.out.below hb1); clear hb1; have fr := (show CaAt _ p b c from HS.out.get 0 rfl).free 3; have c3 := (show CaAt _ p b c from HS.out.get 0 rfl).cells.2.2.2.1)
    | (go_at_call 39; replace HS : Hid (St (noHeap w) _ [obC p b { c with now := now }, obF w [p, b], obB w.heap.size (aV a) 32]) := Lib.hid (HS.out.now 0 rfl now); refine (meant_calls a mtu length _ (HS.out.tabF 1 rfl HT.out HG0.out)).mono ?_; rw [HN.out]; rintro e w4 ⟨rfl, hb1⟩; replace HS := Lib.hid (HS.out.below hb1); clear hb1 fr c3))
    go_ret2
    exact ⟨rfl, hear_end HS.out⟩
  | true =>
    have hle : decide (n ≥ pres) = true := decide_eq_true (hno.resolve_left (by decide))
    clear hno
    go_wp2_with (first
    | (refine gate_ (.box 32 (.tmp 1)) rfl ?_; go_must (refine wpList_box_B rfl 32 (.tmp 1) rfl (aV a) rfl _ rfl HS0.out ?_; intro w1 hz hs; clear hz; have HS : Hid (St (noHeap w) w1 [obC p b c, obF w [p, b], obB w.heap.size (aV a) 32]) := Lib.hid hs; clear hs))
    | (refine gate_ (.load 32 (.tmp 7)) rfl ?_; go_must (first | refine ld_A (.tmp 7) rfl rfl (range_A (HS.out.get 2 rfl)) rfl ?_ | refine ld_A (.tmp 7) rfl rfl (range_A ((HS.out.now 0 rfl now).get 2 rfl)) rfl ?_))
    | (go_at_call 26; refine (get_calls p b c a first _ (HS.out.get 0 rfl)).mono ?_; rw [HGS.out.1, HGS.out.2]; rintro e w2 ⟨rfl, hb1⟩; replace HS := Lib.hid (HS.out.below hb1); clear hb1)
    | (go_at_call 34; refine (may_calls p b c now _ (HS.out.get 0 rfl)).mono ?_; rw [HM.out]; rintro e w3 ⟨rfl, hb1⟩; replace HS := Lib.hid (HS.out.below hb1); clear hb1; have fr := (show CaAt _ p b c from HS.out.get 0 rfl).free 3; have c3 := (show CaAt _ p b c from HS.out.get 0 rfl).cells.2.2.2.1)
    | (go_at_call 39; replace HS : Hid (St (noHeap w) _ [obC p b { c with now := now }, obF w [p, b], obB w.heap.size (aV a) 32]) := Lib.hid (HS.out.now 0 rfl now); refine (meant_calls a mtu length _ (HS.out.tabF 1 rfl HT.out HG0.out)).mono ?_; rw [HN.out]; rintro e w4 ⟨rfl, hb1⟩; replace HS := Lib.hid (HS.out.below hb1); clear hb1 fr c3))
    go_ret2
    exact ⟨rfl, hear_end HS.out⟩
end Go.Proofs.YtdinkhhaomblcaaDoor.SL
