/- The walk of Hear, where it falls. No condition but sizes. -/
import Derived.Test.YtdinkhhaomblcaaDoorG8
import Derived.Deep.QuietTactic
namespace Go.Proofs.YtdinkhhaomblcaaDoor.SL
open Go.RowKit Go.Proofs.YtdinkhhaomblcaaDoorW.PrintWords Go.Proofs.YtdinkhhaomblcaaDoorW.PrintLast Go.Proofs.YtdinkhhaomblcaaDoorW.PrintMore
theorem len_map (w : World) (b : Nat) (M : Mp) (h : MpAt w b M) (ty : TypeId) : (Builtin.len_ #[78] ty #[.map (some b)]).run Tryd.prog w = .ok (.int .i64 (M.length : Int)) w := by
  obtain ⟨es, clock, hb, he, _⟩ := h.ex
  have hlen : es.size = M.length := by
    have := congrArg List.length he
    simpa using this
  simp [Builtin.len_, run_underlying Tryd.underlying78, MapKept.run_getObj_map hb, Result.andThen, hlen]
  rfl
attribute [-go_sem] loadVar
attribute [local go_sem] lv3 lv64 lvMap
attribute [local go_sem ↓] Go.wp_at_zero Go.wp_at_succ
set_option maxHeartbeats 8000000 in
set_option maxRecDepth 100000 in
theorem hear_yes (p b : Nat) (c : Ca) (a : Ad) (first mtu length now : Int) (w : World) (h : CaAt w p b c) (hk : OkC c) (hh : c.hrd < 4000000000000000000) (hT : Tab w) (hg0 : 0 ∉ [p, b]) (hg : (getS c.M a first).2 = 0) (hm : mayS c now = true) (hno : (meantS a mtu length).2 = true ∧ (meantS a mtu length).1 < (getS c.M a first).1) :
    Calls Tryd.prog 27 (hrA p a first mtu length now) w fun e w' => e = .returned (.tuple #[.bool true, .int .i64 0]) ∧ CaAt w' p b (hearS c a first (meantS a mtu length).1 (meantS a mtu length).2 now).2.2 ∧ Touch [p, b] w w' := by
  have HR : Hid ((hearS c a first (meantS a mtu length).1 (meantS a mtu length).2 now).2.2 = { c with now := now, hrd := c.hrd + 1, M := putM (roomM c a) a ⟨(meantS a mtu length).1, first, now, c.hrd + 1⟩ }) := Lib.hid (by
    unfold hearS
    rw [if_neg (fun e => e.elim (fun e => e hg) (fun e => by rw [hm] at e; cases e)), if_neg (fun e => e.elim (fun e => by rw [hno.1] at e; cases e) (fun e => by omega))]
    rfl)
  have HK := Lib.hid (hk.withNow hm)
  have h0 := hk.h0
  have HS0 : Hid (St (noHeap w) w [obC p b c, obF w [p, b]]) := Lib.hid (St.start (o := obC p b c) h [p, b] (fun x hx => hx))
  have HG0 := Lib.hid hg0
  have HT := Lib.hid hT
  have HM := Lib.hid hm
  generalize hgs : (getS c.M a first).1 = pres at *
  have HGS := Lib.hid (And.intro hgs hg)
  generalize hn : meantS a mtu length = mm at *
  obtain ⟨n, is⟩ := mm
  have HN := Lib.hid hn
  clear h hT hg0 hm hgs hg hn
  have hlt : decide (n ≥ pres) = false := decide_eq_false (by have := hno.2; simp only at this; omega)
  obtain rfl : is = true := hno.1
  clear hno hk
  go_enter Tryd.func27, Tryd.ntmps27
  go_wp2_with (first
    | (refine gate_ (.box 32 (.tmp 1)) rfl ?_; go_must (refine wpList_box_B rfl 32 (.tmp 1) rfl (aV a) rfl _ rfl HS0.out ?_; intro w1 hz hs; clear hz; have HS : Hid (St (noHeap w) w1 [obC p b c, obF w [p, b], obB w.heap.size (aV a) 32]) := Lib.hid hs; clear hs))
    | (refine gate_ (.load 32 (.tmp 7)) rfl ?_; go_must (first | refine ld_A (.tmp 7) rfl rfl (range_A (HS.out.get 2 rfl)) rfl ?_ | refine ld_A (.tmp 7) rfl rfl (range_A ((HS.out.now 0 rfl now).get 2 rfl)) rfl ?_))
    | (go_at_call 26; refine (get_calls p b c a first _ (HS.out.get 0 rfl)).mono ?_; rw [HGS.out.1, HGS.out.2]; rintro e w2 ⟨rfl, hb1⟩; replace HS := Lib.hid (HS.out.below hb1); clear hb1)
    | (go_at_call 34; refine (may_calls p b c now _ (HS.out.get 0 rfl)).mono ?_; rw [HM.out]; rintro e w3 ⟨rfl, hb1⟩; replace HS := Lib.hid (HS.out.below hb1); clear hb1; have fr := (show CaAt _ p b c from HS.out.get 0 rfl).free 3; have c3 := (show CaAt _ p b c from HS.out.get 0 rfl).cells.2.2.2.1)
    | (go_at_call 39; replace HS : Hid (St (noHeap w) _ [obC p b { c with now := now }, obF w [p, b], obB w.heap.size (aV a) 32]) := Lib.hid (HS.out.now 0 rfl now); refine (meant_calls a mtu length _ (HS.out.tabF 1 rfl HT.out HG0.out)).mono ?_; rw [HN.out]; rintro e w4 ⟨rfl, hb1⟩; replace HS := Lib.hid (HS.out.below hb1); clear hb1 fr c3))
  obtain ⟨y, tt, hy, htt⟩ : ∃ (y : Bel) (tt : Bool), (∀ W : World, Below w4.heap.size w4 W → W.cell? ⟨p, 2, none⟩ = some (.map (some b)) ∧ W.rangeAt w.heap.size 0 (aL a) ∧ (Instr.lookup 78 (.map (some b)) (.agg (aV a)) true).run Tryd.prog W = .ok (.tuple #[.agg (beA y), .bool tt]) W) ∧ (lookM c.M a).isSome = tt := by
    refine ⟨(lookM c.M a).getD zBel, (lookM c.M a).isSome, fun W hb => ?_, rfl⟩
    have hq := CaRd.all (a := a) (show CaAt w4 p b { c with now := now } from HS.out.get 0 rfl) (show w4.heap[w.heap.size]? = some (.cells (aV a) 32 (0, 0)) from HS.out.get 2 rfl) hb
    exact ⟨hq.c2, hq.rg, hq.lk⟩
  have HC2 := Lib.hid hy
  have HTT := Lib.hid htt
  clear hy htt
  have hLD : ∀ W : World, W.rangeAt w.heap.size 0 (aL a) → (loadVar 32 ⟨w.heap.size, 0, none⟩).run Tryd.prog W = .ok (.agg (aV a)) W := fun W h => lvA h
  have HB : Hid (Below w4.heap.size w4 w4) := Lib.hid (Below.refl _ _)
  go_region_held3 (fun W => W.cell? ⟨p, 2, none⟩ = some (.map (some b)) ∧ W.rangeAt w.heap.size 0 (aL a) ∧ (Instr.lookup 78 (.map (some b)) (.agg (aV a)) true).run Tryd.prog W = .ok (.tuple #[.agg (beA y), .bool tt]) W) ((refine HC2.out _ ?_; first | exact HB.out | exact HB.out.drew | exact (HB.out.alloc HB.out.size _).drew)) (first | fail)
  all_goals
    have HS8 : Hid (St (noHeap w) (w4.alloc (.cells #[.int .i64 y.est, .int .i64 y.fst, .int .i64 y.clk, .int .i64 y.hrd] 90)).drew [obC p b { c with now := now }, obF w [p, b], obB w.heap.size (aV a) 32]) := Lib.hid (HS.out.alloc0 _).drew
    generalize (w4.alloc (.cells #[.int .i64 y.est, .int .i64 y.fst, .int .i64 y.clk, .int .i64 y.hrd] 90)).drew = W8 at HS8 ⊢
    clear HS HC2 hLD HB
    have HC8 : Hid (CaAt W8 p b { c with now := now }) := Lib.hid (HS8.out.get 0 rfl)
    have HC8d : Hid (CaAt W8.drew p b { c with now := now }) := Lib.hid (HS8.out.drew.get 0 rfl)
    have hLD : ∀ W : World, W.rangeAt w.heap.size 0 (aL a) → (loadVar 32 ⟨w.heap.size, 0, none⟩).run Tryd.prog W = .ok (.agg (aV a)) W := fun W h => lvA h
    cases tt with
    | true =>
      have HRM : Hid (roomM c a = c.M) := Lib.hid (if_neg (fun e => by have h1 := HTT.out; have h2 := e.1; revert h1 h2; cases lookM c.M a <;> simp))
      go_wp2_with fail
      go_quiet (fail)
      have HS9 : Hid (St (noHeap w) (W8.drewN nq) [obC p b { c with now := now }, obF w [p, b], obB w.heap.size (aV a) 32]) := Lib.hid (HS8.out.drewN nq)
      generalize W8.drewN nq = W9 at HS9 ⊢
      clear HS8 HC8 HC8d
      have HH : Hid (St (noHeap w) W9 [obC p b { c with now := now, M := roomM c a }, obF w [p, b], obB w.heap.size (aV a) 32]) := Lib.hid (by rw [HRM.out]; exact HS9.out)
      clear HRM
      have c4 : (W9).cell? ⟨p, 4, none⟩ = some (.int .i64 c.hrd) := (show CaAt W9 p b { c with now := now, M := roomM c a } from HH.out.get 0 rfl).cells.2.2.2.2
      have f4 := (show CaAt W9 p b { c with now := now, M := roomM c a } from HH.out.get 0 rfl).free 4
      have HT9 : Hid (St (noHeap w) ((W9).setCell ⟨p, 4, none⟩ (.int .i64 (c.hrd + 1))) [obC p b { c with now := now, M := roomM c a, hrd := c.hrd + 1 }, obF w [p, b], obB w.heap.size (aV a) 32]) := Lib.hid (HH.out.hrd 0 rfl (c.hrd + 1))
      go_wp2_with fail
      generalize (W9).setCell ⟨p, 4, none⟩ (.int .i64 (c.hrd + 1)) = W10 at HT9 ⊢
      clear c4 f4 HH
      have HCA : Hid (CaAt W10 p b { c with now := now, M := roomM c a, hrd := c.hrd + 1 }) := Lib.hid (HT9.out.get 0 rfl)
      have HCD : Hid (CaAt W10.drew p b { c with now := now, M := roomM c a, hrd := c.hrd + 1 }) := Lib.hid (HT9.out.drew.get 0 rfl)
      obtain ⟨es, ck, hput, hM⟩ := run_putM HCD.out.mp a ⟨n, first, now, c.hrd + 1⟩
      replace hput : (Instr.mapUpdate 78 (.map (some b)) (.agg (aV a)) (.agg #[.int .i64 n, .int .i64 first, .int .i64 now, .int .i64 (c.hrd + 1)])).run Tryd.prog W10.drew = .ok () (ChangeMaps.setBlock W10.drew b (.map es ck)) := hput
      have HTF : Hid (St (noHeap w) (ChangeMaps.setBlock W10.drew b (.map es ck)) [obC p b { c with now := now, M := putM (roomM c a) a ⟨n, first, now, c.hrd + 1⟩, hrd := c.hrd + 1 }, obF w [p, b], obB w.heap.size (aV a) 32]) := Lib.hid (HT9.out.drew.putC 0 rfl (HCD.out.setMap hM) ((touch_setBlock HCD.out.mp).mono (fun x hx => List.mem_cons_of_mem _ hx)))
      have HCF : Hid (CaAt (ChangeMaps.setBlock W10.drew b (.map es ck)) p b { c with now := now, M := putM (roomM c a) a ⟨n, first, now, c.hrd + 1⟩, hrd := c.hrd + 1 }) := Lib.hid (HTF.out.get 0 rfl)
      clear hM
      go_region_held3 (fun W => W.cell? ⟨p, 2, none⟩ = some (.map (some b)) ∧ W.cell? ⟨p, 4, none⟩ = some (.int .i64 (c.hrd + 1)) ∧ W.rangeAt w.heap.size 0 (aL a)) (first | exact ⟨HCA.out.cells.2.2.1, HCA.out.cells.2.2.2.2, range_A (HT9.out.get 2 rfl)⟩ | exact ⟨HCD.out.cells.2.2.1, HCD.out.cells.2.2.2.2, range_A (HT9.out.drew.get 2 rfl)⟩ | exact ⟨HCF.out.cells.2.2.1, HCF.out.cells.2.2.2.2, range_A (HTF.out.get 2 rfl)⟩) (first | fail)
      all_goals
        go_wp2_with fail
        go_ret2
        exact ⟨rfl, by rw [HR.out]; exact (hear_end HTF.out).1, (hear_end HTF.out).2⟩
    | false =>
      have c2 := HC8.out.cells.2.2.1
      have c0 : W8.cell? ⟨p, 0, none⟩ = some (.int .i64 c.E) := HC8.out.cells.1
      have hln : ∀ (q : Nat) ty, (Builtin.len_ #[78] ty #[.map (some b)]).run Tryd.prog (W8.drewN q) = .ok (.int .i64 (c.M.length : Int)) (W8.drewN q) := fun q ty => len_map _ _ _ (show CaAt (W8.drewN q) p b { c with now := now } from HS8.out.drewN q |>.get 0 rfl).mp ty
      have HTN : Hid (lookM c.M a = none) := Lib.hid (by have h1 := HTT.out; revert h1; cases lookM c.M a <;> simp)
      by_cases hful : c.E ≤ (c.M.length : Int)
      · have HRM : Hid (roomM c a = forgetS c) := Lib.hid (if_pos ⟨by rw [HTN.out]; rfl, hful⟩)
        have hd : decide ((c.M.length : Int) ≥ c.E) = true := decide_eq_true hful
        clear hful
        go_wp2_with fail
        go_quiet (fail)
        have HS9 : Hid (St (noHeap w) (W8.drewN nq) [obC p b { c with now := now }, obF w [p, b], obB w.heap.size (aV a) 32]) := Lib.hid (HS8.out.drewN nq)
        generalize W8.drewN nq = W9 at HS9 ⊢
        clear HS8 HC8 HC8d c2 c0 hln
        have HFC : Hid (Calls Tryd.prog 40 #[.pointer (some ⟨p, 0, none⟩)] W9 fun e w' => e = .returned (.tuple #[]) ∧ St (noHeap w) w' [obC p b { c with now := now, M := forgetS c }, obF w [p, b], obB w.heap.size (aV a) 32]) := Lib.hid ((forget_calls p b { c with now := now } W9 (HS9.out.get 0 rfl) HK.out hh).mono fun e w' ⟨he, hc, ht⟩ => ⟨he, HS9.out.putC 0 rfl hc (ht.mono (fun x hx => List.mem_cons_of_mem _ hx))⟩)
        go_wp2_with (first | (go_at_call 40; refine HFC.out.mono ?_; rintro e W11 ⟨rfl, hs⟩; have HS11 := Lib.hid hs; clear hs; have c4 : W11.cell? ⟨p, 4, none⟩ = some (.int .i64 c.hrd) := (show CaAt W11 p b { c with now := now, M := forgetS c } from HS11.out.get 0 rfl).cells.2.2.2.2; have f4 := (show CaAt W11 p b { c with now := now, M := forgetS c } from HS11.out.get 0 rfl).free 4))
        have HH : Hid (St (noHeap w) W11 [obC p b { c with now := now, M := roomM c a }, obF w [p, b], obB w.heap.size (aV a) 32]) := Lib.hid (by rw [HRM.out]; exact HS11.out)
        clear HRM
        have HT9 : Hid (St (noHeap w) ((W11).setCell ⟨p, 4, none⟩ (.int .i64 (c.hrd + 1))) [obC p b { c with now := now, M := roomM c a, hrd := c.hrd + 1 }, obF w [p, b], obB w.heap.size (aV a) 32]) := Lib.hid (HH.out.hrd 0 rfl (c.hrd + 1))
        generalize (W11).setCell ⟨p, 4, none⟩ (.int .i64 (c.hrd + 1)) = W10 at HT9 ⊢
        clear c4 f4 HH HS11 HS9
        have HCA : Hid (CaAt W10 p b { c with now := now, M := roomM c a, hrd := c.hrd + 1 }) := Lib.hid (HT9.out.get 0 rfl)
        have HCD : Hid (CaAt W10.drew p b { c with now := now, M := roomM c a, hrd := c.hrd + 1 }) := Lib.hid (HT9.out.drew.get 0 rfl)
        obtain ⟨es, ck, hput, hM⟩ := run_putM HCD.out.mp a ⟨n, first, now, c.hrd + 1⟩
        replace hput : (Instr.mapUpdate 78 (.map (some b)) (.agg (aV a)) (.agg #[.int .i64 n, .int .i64 first, .int .i64 now, .int .i64 (c.hrd + 1)])).run Tryd.prog W10.drew = .ok () (ChangeMaps.setBlock W10.drew b (.map es ck)) := hput
        have HTF : Hid (St (noHeap w) (ChangeMaps.setBlock W10.drew b (.map es ck)) [obC p b { c with now := now, M := putM (roomM c a) a ⟨n, first, now, c.hrd + 1⟩, hrd := c.hrd + 1 }, obF w [p, b], obB w.heap.size (aV a) 32]) := Lib.hid (HT9.out.drew.putC 0 rfl (HCD.out.setMap hM) ((touch_setBlock HCD.out.mp).mono (fun x hx => List.mem_cons_of_mem _ hx)))
        have HCF : Hid (CaAt (ChangeMaps.setBlock W10.drew b (.map es ck)) p b { c with now := now, M := putM (roomM c a) a ⟨n, first, now, c.hrd + 1⟩, hrd := c.hrd + 1 }) := Lib.hid (HTF.out.get 0 rfl)
        clear hM
        go_region_held3 (fun W => W.cell? ⟨p, 2, none⟩ = some (.map (some b)) ∧ W.cell? ⟨p, 4, none⟩ = some (.int .i64 (c.hrd + 1)) ∧ W.rangeAt w.heap.size 0 (aL a)) (first | exact ⟨HCA.out.cells.2.2.1, HCA.out.cells.2.2.2.2, range_A (HT9.out.get 2 rfl)⟩ | exact ⟨HCD.out.cells.2.2.1, HCD.out.cells.2.2.2.2, range_A (HT9.out.drew.get 2 rfl)⟩ | exact ⟨HCF.out.cells.2.2.1, HCF.out.cells.2.2.2.2, range_A (HTF.out.get 2 rfl)⟩) (first | fail)
        all_goals
          go_wp2_with fail
          go_ret2
          exact ⟨rfl, by rw [HR.out]; exact (hear_end HTF.out).1, (hear_end HTF.out).2⟩
      · have HRM : Hid (roomM c a = c.M) := Lib.hid (if_neg (fun e => hful e.2))
        have hd : decide ((c.M.length : Int) ≥ c.E) = false := decide_eq_false hful
        clear hful
        go_wp2_with fail
        go_quiet (fail)
        have HS9 : Hid (St (noHeap w) (W8.drewN nq) [obC p b { c with now := now }, obF w [p, b], obB w.heap.size (aV a) 32]) := Lib.hid (HS8.out.drewN nq)
        generalize W8.drewN nq = W9 at HS9 ⊢
        clear HS8 HC8 HC8d c2 c0 hln
        have HH : Hid (St (noHeap w) W9 [obC p b { c with now := now, M := roomM c a }, obF w [p, b], obB w.heap.size (aV a) 32]) := Lib.hid (by rw [HRM.out]; exact HS9.out)
        clear HRM
        have c4 : (W9).cell? ⟨p, 4, none⟩ = some (.int .i64 c.hrd) := (show CaAt W9 p b { c with now := now, M := roomM c a } from HH.out.get 0 rfl).cells.2.2.2.2
        have f4 := (show CaAt W9 p b { c with now := now, M := roomM c a } from HH.out.get 0 rfl).free 4
        have HT9 : Hid (St (noHeap w) ((W9).setCell ⟨p, 4, none⟩ (.int .i64 (c.hrd + 1))) [obC p b { c with now := now, M := roomM c a, hrd := c.hrd + 1 }, obF w [p, b], obB w.heap.size (aV a) 32]) := Lib.hid (HH.out.hrd 0 rfl (c.hrd + 1))
        go_wp2_with fail
        generalize (W9).setCell ⟨p, 4, none⟩ (.int .i64 (c.hrd + 1)) = W10 at HT9 ⊢
        clear c4 f4 HH
        have HCA : Hid (CaAt W10 p b { c with now := now, M := roomM c a, hrd := c.hrd + 1 }) := Lib.hid (HT9.out.get 0 rfl)
        have HCD : Hid (CaAt W10.drew p b { c with now := now, M := roomM c a, hrd := c.hrd + 1 }) := Lib.hid (HT9.out.drew.get 0 rfl)
        obtain ⟨es, ck, hput, hM⟩ := run_putM HCD.out.mp a ⟨n, first, now, c.hrd + 1⟩
        replace hput : (Instr.mapUpdate 78 (.map (some b)) (.agg (aV a)) (.agg #[.int .i64 n, .int .i64 first, .int .i64 now, .int .i64 (c.hrd + 1)])).run Tryd.prog W10.drew = .ok () (ChangeMaps.setBlock W10.drew b (.map es ck)) := hput
        have HTF : Hid (St (noHeap w) (ChangeMaps.setBlock W10.drew b (.map es ck)) [obC p b { c with now := now, M := putM (roomM c a) a ⟨n, first, now, c.hrd + 1⟩, hrd := c.hrd + 1 }, obF w [p, b], obB w.heap.size (aV a) 32]) := Lib.hid (HT9.out.drew.putC 0 rfl (HCD.out.setMap hM) ((touch_setBlock HCD.out.mp).mono (fun x hx => List.mem_cons_of_mem _ hx)))
        have HCF : Hid (CaAt (ChangeMaps.setBlock W10.drew b (.map es ck)) p b { c with now := now, M := putM (roomM c a) a ⟨n, first, now, c.hrd + 1⟩, hrd := c.hrd + 1 }) := Lib.hid (HTF.out.get 0 rfl)
        clear hM
        go_region_held3 (fun W => W.cell? ⟨p, 2, none⟩ = some (.map (some b)) ∧ W.cell? ⟨p, 4, none⟩ = some (.int .i64 (c.hrd + 1)) ∧ W.rangeAt w.heap.size 0 (aL a)) (first | exact ⟨HCA.out.cells.2.2.1, HCA.out.cells.2.2.2.2, range_A (HT9.out.get 2 rfl)⟩ | exact ⟨HCD.out.cells.2.2.1, HCD.out.cells.2.2.2.2, range_A (HT9.out.drew.get 2 rfl)⟩ | exact ⟨HCF.out.cells.2.2.1, HCF.out.cells.2.2.2.2, range_A (HTF.out.get 2 rfl)⟩) (first | fail)
        all_goals
          go_wp2_with fail
          go_ret2
          exact ⟨rfl, by rw [HR.out]; exact (hear_end HTF.out).1, (hear_end HTF.out).2⟩
end Go.Proofs.YtdinkhhaomblcaaDoor.SL
