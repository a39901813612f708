/- The walk of the statement WheelMemory. No condition. -/
import Derived.Test.YtadhceoaoopcjaaF8
namespace Go.Proofs.Ytadhceoaoopcjaa.SL
open Go.RowKit Go.Proofs.YtadhceoaoopcjaaW.PrintWords Go.Proofs.YtadhceoaoopcjaaW.PrintLast Go.Proofs.YtadhceoaoopcjaaW.PrintMore
set_option maxHeartbeats 32000000 in
set_option maxRecDepth 100000 in
theorem memory_calls (n0 : Int) (a : Option Addr) (cap : Nat) (z : List Tm) (n2 : Int) (w : World) (hC : kTm.C w a z.length z) (_ : ∀ x ∈ z, TmR x) (hz : z.length * 16 ≤ 140737488351232) :
    Calls Try.prog 6 #[.int .i64 n0, .slice a z.length cap, .int .i64 n2] w fun e w' => e = .returned (.bool true) ∧ Below w.heap.size w w' := by
  have HWA := Lib.hid fun W => within_calls n0 W
  have HWB := Lib.hid fun W => within_calls n2 W
  have hw0 := wi_rng n0
  have hw2 := wi_rng n2
  generalize wi n0 = now at *
  generalize wi n2 = tw at *
  obtain ⟨hn0, hn1⟩ := hw0
  obtain ⟨ht0, ht1⟩ := hw2
  obtain ⟨tk, htk⟩ : ∃ tk, max now tw = tk := ⟨_, rfl⟩
  have hk1 : now ≤ tk := by omega
  have hk2 : tk < 1099511627776 := by omega
  have HFI0 := filT_ok (z := z) hn0 (show now ≤ 1099511627776 by omega)
  obtain ⟨ats, hats⟩ : ∃ ats, filT now z = ats := ⟨_, rfl⟩
  rw [hats] at HFI0
  have hal : ats.length ≤ 3000 := HFI0.l
  obtain ⟨b1, b2, b3⟩ := bk_adv (ats := ats) (c := -1) hk1 (show tk ≤ 1099511627776 by omega) (show -1 ≤ tk by omega)
  obtain ⟨c1, c2, c3⟩ := bk_adv (ats := ats) (c := tk) (tk := 1099511627776) (show tk ≤ 1099511627776 by omega) (Int.le_refl _) (show tk ≤ 1099511627776 by omega)
  obtain ⟨-, -, d3⟩ := bk_due ats (show -1 ≤ tk by omega)
  obtain ⟨-, -, d4⟩ := bk_due ats (show tk ≤ 1099511627776 by omega)
  have HI1 := Lib.hid (due_id (ats := ats) (show -1 ≤ tk by omega))
  have HI2 := Lib.hid (due_id (ats := ats) (show tk ≤ 1099511627776 by omega))
  obtain ⟨la, hla⟩ : ∃ l, ordT ((bookL ats (-1)).filter (dueP tk)) = l := ⟨_, rfl⟩
  obtain ⟨ld, hld⟩ : ∃ l, ordT ((bookL ats tk).filter (dueP 1099511627776)) = l := ⟨_, rfl⟩
  rw [hla] at b3 d3 HI1
  rw [hld] at c3 d4 HI2
  have hcle := cntB_le ats (-1) ats.length
  have hlen : la.length + ld.length ≤ ats.length := by omega
  have hlenz : ¬ (ats.length : Int) < (la.length : Int) + (ld.length : Int) := by omega
  have HAD := Lib.hid (And.intro b3 (And.intro b1 b2))
  have HAE := Lib.hid (And.intro c3 (And.intro c1 c2))
  have HFC : Hid (∀ W Γ, St w W Γ → Calls Try.prog 17 #[.int .i64 now, .slice a z.length cap] W (FillP w Γ now z)) := Lib.hid fun W Γ h => c_filled h now hn0 (by omega) a cap z hC hz
  have HATS := Lib.hid hats
  have HNW : Hid ((bkW now ats (-1)).now = now) := Lib.hid rfl
  have HB1 : Hid (∀ (_ : True), now - 1 < (bkW now ats (-1)).now ∨ 1099511627776 < now - 1) := Lib.hid fun _ => .inl (by show now - 1 < now; omega)
  have HB2 : Hid (∀ (_ : True), (1099511627777 : Int) < (bkW now ats (-1)).now ∨ 1099511627776 < (1099511627777 : Int)) := Lib.hid fun _ => .inr (by decide)
  clear b1 b2 b3 c1 c2 c3 d3 d4 hla hld hcle hats hC HFI0
  go_enter Try.func6, Try.ntmps6
  go_wp2_with (first
    | (go_at_call 9; refine (alive_calls _).mono ?_; rintro e w1 ⟨rfl, hb⟩; have HB0 := Lib.hid hb; clear hb)
    | (go_at_call 10; refine (HWA.out _).mono ?_; rintro e w2 ⟨rfl, rfl⟩)
    | (go_at_call 10; refine (HWB.out _).mono ?_; rintro e w2 ⟨rfl, rfl⟩)
    | (go_at_call 17; refine (HFC.out _ _ HS1.out).mono ?_; rintro e w4 ⟨q, y, B, cb, rfl, hy, hs⟩; rw [HATS.out] at hy hs ⊢; have HY : Hid (y.Is q (bkW now ats (-1))) := Lib.hid hy; have HS2 : Hid (St w w4 [obWh y, obWh x]) := Lib.hid (hs.sub (show List.Sublist [obWh y, obWh x] (_ :: [obWh y, obWh x]) from List.sublist_cons_self _ _)); clear hy hs HS1 HFC)
    | (go_at_call 17; refine (HFC.out _ _ ((St.nil w).below HB0.out)).mono ?_; rintro e w3 ⟨p, x, A, c, rfl, hx, hs⟩; rw [HATS.out] at hx hs ⊢; have HX : Hid (x.Is p (bkW now ats (-1))) := Lib.hid hx; have HS1 : Hid (St w w3 [obWh x]) := Lib.hid (hs.sub (show List.Sublist [obWh x] (_ :: [obWh x]) from List.sublist_cons_self _ _)); clear hx hs HB0)
    | (go_at_call 13; refine (c_now HS4.out 1 rfl HX4.out).mono ?_; rw [HNW.out]; rintro e w7 ⟨rfl, rfl⟩)
    | (go_at_call 14; refine (c_adv HS5.out 1 rfl HY.out tk HAD.out.1 HAD.out.2.1 HAD.out.2.2).mono ?_; rintro e w9 ⟨A6, c6, y6, rfl, hx, hs⟩; have HY6 := Lib.hid hx; have HS6 : Hid (St w w9 [obD (.slice A6 la.length c6) la, obD (.slice A5 la.length c5) la, obWh y6, obWh x5]) := Lib.hid hs; clear hx hs HS5 HY)
    | (go_at_call 14; refine (c_adv HS4.out 1 rfl HX4.out tk HAD.out.1 HAD.out.2.1 HAD.out.2.2).mono ?_; rintro e w8 ⟨A5, c5, x5, rfl, hx, hs⟩; have HX5 := Lib.hid hx; have HS5 : Hid (St w w8 [obD (.slice A5 la.length c5) la, obWh y, obWh x5]) := Lib.hid hs; clear hx hs HS4 HX4)
    | (go_at_call 14; refine (c_adv_bad HS3.out 1 rfl HX3.out 1099511627777 (HB2.out trivial)).mono ?_; rintro e w6 ⟨A4, c4, x4, rfl, hx, hs⟩; have HX4 := Lib.hid hx; have HS4 : Hid (St w w6 [obWh y, obWh x4]) := Lib.hid hs; clear hx hs HS3 HX3)
    | (go_at_call 14; refine (c_adv_bad HS2.out 1 rfl HX.out (now - 1) (HB1.out trivial)).mono ?_; rintro e w5 ⟨A3, c3, x3, rfl, hx, hs⟩; have HX3 := Lib.hid hx; have HS3 : Hid (St w w5 [obWh y, obWh x3]) := Lib.hid hs; clear hx hs HS2 HX))
  clear HWA HWB HATS HAD HB1 HB2 HNW
  have HM0 : Hid (St w w9 [obD (.slice A6 la.length c6) la, obD (.slice A5 la.length c5) (mkL la 0), obWh y6, obWh x5]) := HS6
  go_loopw [19] (fun s19 wr => ∃ k : Nat, k ≤ la.length ∧ s19 = .int .i64 k ∧ Hid (St w wr [obD (.slice A6 la.length c6) la, obD (.slice A5 la.length c5) (mkL la k), obWh y6, obWh x5])) (fun s19 _ => la.length - (intOf s19).toNat)
  case atStart => exact ⟨0, Nat.zero_le _, rfl, HM0⟩
  case round =>
    clear HM0 HS6
    obtain ⟨k, hk, rfl, HS⟩ := hrel
    have hk0 : (0 : Int) ≤ (k : Int) := by omega
    by_cases hkt : k < la.length
    · have hkz : (k : Int) < (la.length : Int) := by omega
      obtain ⟨g, rfl, -, -, -, -⟩ := HS.out.cellD 1 rfl k (by rw [mkL_len la hk]; exact hkt)
      have HMS := Lib.hid (mkL_set la hkt)
      go_wp2_with (first
        | (refine gate_ (.store 36 (.tmp 109) (.tmp 108)) rfl ?_; go_must (refine wpList_store_St kD HS.out 1 rfl rfl rfl 36 (.tmp 109) (.tmp 108) rfl (k : Int) hk0 hkz m1 (.agg (dV m1)) (dL m1) ?h1 rfl rfl sizD rfl rfl ?_))
        | (refine gate_ (.build 36 #[(0, .const (.int .i64 (-1)))]) rfl ?_; go_must (refine wpList_buildA rfl 36 #[(0, .const (.int .i64 (-1)))] rfl [(0, .int .i64 (-1))] rfl blt_m1 ?_)))
      case h1 => rfl
      intro w10 HS9
      have HS8 : Hid (St w w10 [obD (.slice A6 la.length c6) la, obD (.slice (some ⟨g, 0, none⟩) la.length c5) (mkL la (k + 1)), obWh y6, obWh x5]) := Lib.hid (by rw [← HMS.out]; exact HS9.out)
      clear HS9 HS
      go_wp2_with fail
      go_roundw
      case rel => exact ⟨k + 1, by omega, by go_num, HS8⟩
      case measure => simp [intOf]; omega
    · obtain rfl : k = la.length := by omega
      have hkz : ¬ (la.length : Int) < (la.length : Int) := by omega
      have HS7 : Hid (St w wr [obD (.slice A6 la.length c6) la, obD (.slice A5 la.length c5) (List.replicate la.length m1), obWh y6, obWh x5]) := Lib.hid (by rw [← mkL_all]; exact HS.out)
      have HT0 : Hid (St w wr [obD (.slice A6 la.length c6) la, obT A5 c5 (List.replicate la.length m1) (.slice A5 (la.length + 0) c5) (List.replicate la.length m1 ++ List.replicate 0 m2), obWh y6, obWh x5]) := Lib.hid (by rw [List.replicate_zero, List.append_nil]; exact HS7.out.toTw flD hz3 1 rfl)
      clear HS HS7
      go_wp2_with fail
      go_loopw [20, 21] (fun v s21 wr => ∃ (j : Nat) (A2 : Option Addr) (c2 : Nat), j ≤ 80 ∧ s21 = .int .i64 j ∧ v = .slice A2 (la.length + j) c2 ∧ Hid (St w wr [obD (.slice A6 la.length c6) la, obT A5 c5 (List.replicate la.length m1) (.slice A2 (la.length + j) c2) (List.replicate la.length m1 ++ List.replicate j m2), obWh y6, obWh x5])) (fun _ s21 _ => 80 - (intOf s21).toNat)
      case atStart => exact ⟨0, A5, c5, by decide, rfl, rfl, HT0⟩
      case round =>
        clear HT0
        obtain ⟨j, A2, c2, hj, rfl, rfl, HS⟩ := hrel
        have hj0 : (0 : Int) ≤ (j : Int) := by omega
        by_cases hjt : j < 80
        · have hjz : (j : Int) < 80 := by omega
          have HRL : Hid ((List.replicate la.length m1 ++ List.replicate j m2).length = la.length + j) := Lib.hid (by rw [List.length_append, List.length_replicate, List.length_replicate])
          have HB3 : Hid (True → ((List.replicate la.length m1 ++ List.replicate j m2).length + 1) * 24 ≤ 140737488355328) := Lib.hid fun _ => by rw [HRL.out]; omega
          go_wp2_with (first
            | (at_builtin; go_must (refine wpList_append_Tw kD HS.out 1 rfl rfl (.tmp 115) (.tmp 117) 32 (.agg (dV ⟨0, 0, 0⟩)) 24 rfl Try.underlying32 infoD rfl (by decide) m2 (dL m2) rfl rfl rfl (HB3.out trivial) ?_; intro v1 w11 HG HS9; rw [HRL.out] at HG; obtain ⟨X1, c1x, rfl⟩ := HG.out.slice; have HS8 : Hid (St w w11 [obD (.slice A6 la.length c6) la, obT A5 c5 (List.replicate la.length m1) (.slice (some X1) (la.length + j + 1) c1x) (List.replicate la.length m1 ++ List.replicate (j + 1) m2), obWh y6, obWh x5]) := Lib.hid (by rw [List.replicate_succ', ← List.append_assoc]; exact HS9.out); clear HG HS9))
            | (refine gate_ (.build 36 #[(0, .const (.int .i64 (-2)))]) rfl ?_; go_must (refine wpList_buildA rfl 36 #[(0, .const (.int .i64 (-2)))] rfl [(0, .int .i64 (-2))] rfl blt_m2 ?_)))
          go_roundw
          case rel => exact ⟨j + 1, some X1, c1x, by omega, by go_num, rfl, HS8⟩
          case measure => simp [intOf]; omega
        · obtain rfl : j = 80 := by omega
          go_wp2_with (first
            | (go_at_call 14; refine (c_adv HSa.out 3 rfl HY6.out 1099511627776 HAE.out.1 HAE.out.2.1 HAE.out.2.2).mono ?_; rintro e w13 ⟨A8, c8, y7, rfl, hx, hs⟩; have HSb : Hid (St w w13 [obD (.slice A8 ld.length c8) ld, obD (.slice A7 ld.length c7) ld, obD (.slice A6 la.length c6) la, obT A5 c5 (List.replicate la.length m1) (.slice A2 (la.length + 80) c2) (List.replicate la.length m1 ++ List.replicate 80 m2), obWh y7, obWh x6]) := Lib.hid hs; clear hx hs HSa HY6)
            | (go_at_call 14; refine (c_adv HS.out 3 rfl HX5.out 1099511627776 HAE.out.1 HAE.out.2.1 HAE.out.2.2).mono ?_; rintro e w12 ⟨A7, c7, x6, rfl, hx, hs⟩; have HSa : Hid (St w w12 [obD (.slice A7 ld.length c7) ld, obD (.slice A6 la.length c6) la, obT A5 c5 (List.replicate la.length m1) (.slice A2 (la.length + 80) c2) (List.replicate la.length m1 ++ List.replicate 80 m2), obWh y6, obWh x6]) := Lib.hid hs; clear hx hs HS HX5))
          have HB0 : Hid (Below w13.heap.size w13 w13) := Lib.hid (Below.refl _ _)
          go_loopw [26] (fun s26 wr => ∃ k : Nat, k ≤ ld.length ∧ s26 = .int .i64 k ∧ Hid (Below w13.heap.size w13 wr)) (fun s26 _ => ld.length - (intOf s26).toNat)
          case atStart => exact ⟨0, Nat.zero_le _, rfl, HB0⟩
          case round =>
            clear HB0
            obtain ⟨k, hk, rfl, HB⟩ := hrel
            have hk0 : (0 : Int) ≤ (k : Int) := by omega
            by_cases hkt : k < ld.length
            · have hkz : (k : Int) < (ld.length : Int) := by omega
              obtain ⟨gg, rfl, -, -⟩ := HSb.out.cellD 0 rfl k hkt
              obtain ⟨gd, rfl, -, -⟩ := HSb.out.cellD 1 rfl k hkt
              have HR : Hid (∀ W, Below w13.heap.size w13 W → W.cell? ⟨gg, k * 3, none⟩ = some (.int .i64 ld[k].id) ∧ W.cell? ⟨gg, k * 3 + 1, none⟩ = some (.int .i64 ld[k].t) ∧ W.cell? ⟨gg, k * 3 + 2, none⟩ = some (.int .i64 ld[k].x) ∧ W.cell? ⟨gd, k * 3, none⟩ = some (.int .i64 ld[k].id) ∧ W.cell? ⟨gd, k * 3 + 1, none⟩ = some (.int .i64 ld[k].t) ∧ W.cell? ⟨gd, k * 3 + 2, none⟩ = some (.int .i64 ld[k].x)) := Lib.hid fun W hW => by
                obtain ⟨g1, e1, -, q0, q1, q2⟩ := (HSb.out.below hW).cellD 0 rfl k hkt
                obtain ⟨g2, e2, -, q3, q4, q5⟩ := (HSb.out.below hW).cellD 1 rfl k hkt
                obtain rfl : gg = g1 := by injection e1 with e1; injection e1
                obtain rfl : gd = g2 := by injection e2 with e2; injection e2
                exact ⟨q0, q1, q2, q3, q4, q5⟩
              have hid : 1 ≤ ld[k].id := HI2.out _ (List.getElem_mem _)
              generalize ld[k] = y at *
              go_wp2_with fail
              go_region_held3 (fun W => W.cell? ⟨gg, k * 3, none⟩ = some (.int .i64 y.id) ∧ W.cell? ⟨gg, k * 3 + 1, none⟩ = some (.int .i64 y.t) ∧ W.cell? ⟨gg, k * 3 + 2, none⟩ = some (.int .i64 y.x) ∧ W.cell? ⟨gd, k * 3, none⟩ = some (.int .i64 y.id) ∧ W.cell? ⟨gd, k * 3 + 1, none⟩ = some (.int .i64 y.t) ∧ W.cell? ⟨gd, k * 3 + 2, none⟩ = some (.int .i64 y.x)) (first | exact HR.out _ HB.out | exact HR.out _ HB.out.drew) (fail)
              go_wp2_with fail
              go_roundw
              case rel => exact ⟨k + 1, by omega, by go_num, Lib.hid HB.out.drew⟩
              case measure => simp [intOf]; omega
            · obtain rfl : k = ld.length := by omega
              have hkz : ¬ (ld.length : Int) < (ld.length : Int) := by omega
              have HSF := Lib.hid (HSb.out.below HB.out)
              clear HB HSb
              go_wp2_with fail
              go_loop [27] (fun s27 => ∃ k : Nat, k ≤ la.length ∧ s27 = .int .i64 k) (fun s27 => la.length - (intOf s27).toNat)
              case atStart => exact ⟨0, Nat.zero_le _, rfl⟩
              case round =>
                obtain ⟨k, hk, rfl⟩ := hrel
                have hk0 : (0 : Int) ≤ (k : Int) := by omega
                have hl2 : (List.replicate la.length m1 ++ List.replicate 80 m2).length = la.length + 80 := by rw [List.length_append, List.length_replicate, List.length_replicate]
                by_cases hkt : k < la.length
                · have hkz : (k : Int) < (la.length : Int) := by omega
                  have hkz2 : (k : Int) < (la.length : Int) + 80 := by omega
                  have hr1 : (List.replicate la.length m1)[k]? = some m1 := by rw [List.getElem?_replicate, if_pos hkt]
                  obtain ⟨g1, rfl, q1⟩ := tw_lo HSF.out 3 rfl k m1 hr1
                  obtain ⟨g2, rfl, q2⟩ := tw_hi HSF.out 3 rfl k m1 (by rw [List.getElem?_append_left (by rw [List.length_replicate]; exact hkt)]; exact hr1)
                  obtain ⟨g3, rfl, -, q3, -⟩ := HSF.out.cellD 2 rfl k hkt
                  have hid : 1 ≤ la[k].id := HI1.out _ (List.getElem_mem _)
                  generalize la[k].id = yi at *
                  replace q1 : wr.cell? ⟨g1, k * 3, none⟩ = some (.int .i64 (-1)) := q1
                  replace q2 : wr.cell? ⟨g2, k * 3, none⟩ = some (.int .i64 (-1)) := q2
                  clear hr1 hl2
                  go_wp2_with fail
                  go_round
                  case rel => exact ⟨k + 1, by omega, by go_num⟩
                  case measure => simp [intOf]; omega
                · obtain rfl : k = la.length := by omega
                  have hkz : ¬ (la.length : Int) < (la.length : Int) := by omega
                  have hkz2 : (la.length : Int) < (la.length : Int) + 80 := by omega
                  obtain ⟨g2, rfl, q2⟩ := tw_hi HSF.out 3 rfl la.length m2 (by rw [List.getElem?_append_right (by rw [List.length_replicate]; exact Nat.le_refl _), List.length_replicate, Nat.sub_self]; rfl)
                  replace q2 : wr.cell? ⟨g2, la.length * 3, none⟩ = some (.int .i64 (-2)) := q2
                  clear hl2
                  go_wp2_with fail
                  go_ret
                  exact ⟨rfl, HSF.out.bl⟩
end Go.Proofs.Ytadhceoaoopcjaa.SL
