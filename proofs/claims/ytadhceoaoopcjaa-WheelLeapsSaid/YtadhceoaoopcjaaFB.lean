/- The walk of the statement WheelLeaps. No condition. -/
import Derived.Test.YtadhceoaoopcjaaFA
import Derived.Deep.Cut
import Derived.Deep.DeepCutAuto
namespace Go.Proofs.Ytadhceoaoopcjaa.SL
open Go.RowKit Go.Proofs.YtadhceoaoopcjaaW.PrintWords Go.Proofs.YtadhceoaoopcjaaW.PrintLast Go.Proofs.YtadhceoaoopcjaaW.PrintMore
theorem n64_at {w : World} {a : Option Addr} {z : List Int} (h : ReadsInt w .i64 a z.length z) {k : Nat} (hk : k < z.length) : ∃ ad, a = some ad ∧ ad.block < w.heap.size ∧ w.cell? (ad.add k) = some (.int .i64 (z.getD k 0)) := by
  obtain ⟨x, ha, hc⟩ := h.2.2 (by omega)
  have h1 := hc k hk
  have := World.block_lt_of_cell? w _ h1
  rw [add_block'] at this
  exact ⟨x, ha, this, h1⟩
theorem n64_below {w w' : World} {ad : Addr} {k : Nat} {v : Value} (hl : ad.block < w.heap.size) (h : w.cell? (ad.add k) = some v) (hb : Below w.heap.size w w') : w'.cell? (ad.add k) = some v :=
  (World.cell?_of_block (w := w) (by rw [add_block']; exact hb.block _ hl)).trans h
set_option maxHeartbeats 64000000 in
set_option maxRecDepth 100000 in
theorem leaps_calls (n0 : Int) (a : Option Addr) (cap : Nat) (z : List Tm) (a2 : Option Addr) (cap2 : Nat) (z2 : List Int) (w : World) (hC : kTm.C w a z.length z) (_ : ∀ x ∈ z, TmR x) (hC2 : ReadsInt w .i64 a2 z2.length z2) (_ : ∀ n ∈ z2, -9223372036854775808 ≤ n ∧ n ≤ 9223372036854775807) (hz : z.length * 16 ≤ 140737488351232) (hz2 : z2.length * 8 ≤ 140737488351232) :
    Calls Try.prog 5 #[.int .i64 n0, .slice a z.length cap, .slice a2 z2.length cap2] w fun e w' => e = .returned (.bool true) ∧ Below w.heap.size w w' := by
  have HWA := Lib.hid fun W => within_calls n0 W
  have HWB := Lib.hid fun (W : World) (n : Int) => within_calls n W
  have hw0 := wi_rng n0
  generalize wi n0 = now at *
  obtain ⟨hn0, hn1⟩ := hw0
  have HFI0 := filT_ok (z := z) hn0 (show now ≤ 1099511627776 by omega)
  obtain ⟨ats, hats⟩ : ∃ ats, filT now z = ats := ⟨_, rfl⟩
  rw [hats] at HFI0
  have HFI := Lib.hid HFI0
  have hal : ats.length ≤ 3000 := HFI0.l
  have hmx : ∀ i, i < ats.length → ats.getD i 0 ≤ 1099511627776 := fun i hi => by rcases HFI0.r i hi with e | e <;> omega
  have hcz := cnt_last hmx ats.length (Nat.le_refl _)
  have hlz : (bkW 1099511627776 ats 1099511627776).L.length = 0 := (book_len ats _).trans hcz
  have htl := told_len ats (show (-1 : Int) ≤ 1099511627776 by decide)
  rw [hcz, Nat.add_zero] at htl
  obtain ⟨b1, b2, b3⟩ := leap_adv (ats := ats) (tk := now) (c := -1) (tk' := 1099511627776) (by omega) (Int.le_refl _) (by omega)
  have HAL := Lib.hid (And.intro b1 (And.intro b2 b3))
  have HLZ := Lib.hid hlz
  have HTL := Lib.hid htl
  have HFC : Hid (∀ W Γ, St w W Γ → Calls Try.prog 17 #[.int .i64 now, .slice a z.length cap] W (FillP w Γ now z)) := Lib.hid fun W Γ h => c_filled h now hn0 (by omega) a cap z hC hz
  have HATS := Lib.hid hats
  have HZ2 : Hid (∀ k, k < z2.length → ∃ ad, a2 = some ad ∧ ad.block < w.heap.size ∧ w.cell? (ad.add k) = some (.int .i64 (z2.getD k 0))) := Lib.hid fun k hk => n64_at hC2 hk
  obtain ⟨lall, hlall⟩ : ∃ l, dueB ats (-1) 1099511627776 = l := ⟨_, rfl⟩
  have HLA : Hid (toldL ats 1099511627776 = lall) := Lib.hid hlall
  rw [hlall] at HAL
  have hlla : lall.length ≤ ats.length := by rw [← hlall]; exact due_len ats (by decide)
  clear b1 b2 b3 hlz htl hats hC hC2 HFI0 hmx hcz hlall
  go_enter Try.func5, Try.ntmps5
  go_wp2_with (first
    | (go_at_call 9; refine (alive_calls _).mono ?_; rintro e w1 ⟨rfl, hb⟩; have HB0 := Lib.hid hb; clear hb)
    | (go_at_call 10; refine (HWA.out _).mono ?_; rintro e w2 ⟨rfl, rfl⟩)
    | (go_at_call 17; refine (HFC.out _ _ HS1.out).mono ?_; rintro e w4 ⟨q, y, B, cb, rfl, hy, hs⟩; rw [HATS.out] at hy hs ⊢; have HY : Hid (y.Is q (bkW now ats (-1))) := Lib.hid hy; have HS2 : Hid (St w w4 [obWh y, ob64 (.slice A ats.length c) ats, obWh x]) := Lib.hid (hs.sub (show List.Sublist [obWh y, ob64 (.slice A ats.length c) ats, obWh x] (_ :: [obWh y, ob64 (.slice A ats.length c) ats, obWh x]) from List.sublist_cons_self _ _)); clear hy hs HS1 HFC)
    | (go_at_call 17; refine (HFC.out _ _ ((St.nil w).below HB0.out)).mono ?_; rintro e w3 ⟨p, x, A, c, rfl, hx, hs⟩; rw [HATS.out] at hx hs ⊢; have HX : Hid (x.Is p (bkW now ats (-1))) := Lib.hid hx; have HS1 : Hid (St w w3 [ob64 (.slice A ats.length c) ats, obWh x]) := Lib.hid hs; clear hx hs HB0)
    | (go_at_call 15; refine (c_len HS3.out 1 rfl HY3.out).mono ?_; rw [HLZ.out]; rintro e w7 ⟨rfl, rfl⟩)
    | (go_at_call 14; refine (c_adv HS2.out 0 rfl HY.out 1099511627776 HAL.out.1 HAL.out.2.1 HAL.out.2.2).mono ?_; rintro e w9 ⟨A6, c6, y6, rfl, hx, hs⟩; have HY3 := Lib.hid hx; have HS3 : Hid (St w w9 [obD (.slice A6 lall.length c6) lall, obWh y6, ob64 (.slice A ats.length c) ats, obWh x]) := Lib.hid hs; clear hx hs HS2 HY))
  have HS4 : Hid (St w _ [obD (.slice A6 lall.length c6) lall, ob64 (.slice A ats.length c) ats, obWh x]) := Lib.hid (HS3.out.sub (List.Sublist.cons_cons _ (List.sublist_cons_self _ _)))
  have HSL : Hid (St w _ [obD (.slice none (toldL ats (-1)).length 0) (toldL ats (-1)), obD (.slice A6 lall.length c6) lall, ob64 (.slice A ats.length c) ats, obWh x]) := Lib.hid (by rw [told_nil]; exact (HS4.out.newW (d := kD) (e := 36) flD).front1)
  have HT0 : Hid ((toldL ats (-1)).length = 0) := Lib.hid (by rw [told_nil]; rfl)
  have HLI : Hid (LeapI now 0 now (-1)) := Lib.hid ⟨Int.le_refl _, by omega, fun _ => ⟨rfl, rfl⟩, fun h => absurd h (Nat.lt_irrefl 0)⟩
  clear HS3 HS4 HY3 HWA HATS HAL
  go_loopw [13, 14, 15] (fun v s14 s15 wr => ∃ (i : Nat) (tk ct : Int) (x : WSt) (A3 : Option Addr) (c3 : Nat), i ≤ z2.length + 1 ∧ s15 = .int .i64 i ∧ s14 = .int .i64 tk ∧ v = .slice A3 (toldL ats ct).length c3 ∧ Hid (z2.length < i → tk = 1099511627776) ∧ Hid (LeapI now i tk ct) ∧ Hid (x.Is p (bkW tk ats ct)) ∧ Hid (St w wr [obD (.slice A3 (toldL ats ct).length c3) (toldL ats ct), obD (.slice A6 lall.length c6) lall, ob64 (.slice A ats.length c) ats, obWh x])) (fun _ _ s15 _ => z2.length + 1 - (intOf s15).toNat)
  case atStart => exact ⟨0, now, -1, x, none, 0, Nat.zero_le _, rfl, rfl, by rw [HT0.out], Lib.hid (fun h => absurd h (Nat.not_lt_zero _)), HLI, HX, HSL⟩
  case round =>
    clear HX HSL HLI HT0
    obtain ⟨i, tk, ct, x, A3, c3, hi, rfl, rfl, rfl, HE, HLI, HX, HS⟩ := hrel
    have hi0 : (0 : Int) ≤ (i : Int) := by omega
    have htk0 := HLI.out.n0
    have htk1 := HLI.out.n1
    have hcr := HLI.out.c0 hn0
    have hcr1 := hcr.1
    have hcr2 := hcr.2
    clear hcr
    have HTB : Hid (∀ tk', tk ≤ tk' → tk' ≤ 1099511627776 → (dueB ats ct tk').length ≤ 3000 ∧ toldL ats ct ++ dueB ats ct tk' = toldL ats tk' ∧ (toldL ats ct).length ≤ 3000) := Lib.hid fun tk' h1 _ => ⟨Nat.le_trans (due_len ats (by omega)) hal, told_step ats hcr1 (by omega), Nat.le_trans (told_len_le ats hcr1) hal⟩
    by_cases hile0 : i ≤ z2.length
    · have hile : (i : Int) ≤ (z2.length : Int) := by omega
      go_upto_if 70 with fail
      go_cut [16] (fun v16 wx => ∃ t : Int, tk ≤ t ∧ t ≤ 1099511627776 ∧ v16 = .int .i64 t ∧ Hid (z2.length ≤ i → t = 1099511627776) ∧ Hid (St w wx [obD (.slice A3 (toldL ats ct).length c3) (toldL ats ct), obD (.slice A6 lall.length c6) lall, ob64 (.slice A ats.length c) ats, obWh x]))
      case first =>
        by_cases hit : i < z2.length
        · have hiz0 : (i : Int) < (z2.length : Int) := by omega
          obtain ⟨ad, rfl, hlt, hcell⟩ := HZ2.out i hit
          have y9 := n64_below hlt hcell HS.out.bl
          have HY9 : Hid (∀ W, Below w.heap.size w W → W.cell? (ad.add i) = some (.int .i64 (z2.getD i 0))) := Lib.hid fun W hb => n64_below hlt hcell hb
          have hws := wi_rng (z2.getD i 0)
          generalize z2.getD i 0 = st at *
          obtain ⟨ws, hwse⟩ : ∃ ws, wi st = ws := ⟨_, rfl⟩
          have HWS : Hid (∀ W, Calls Try.prog 10 #[.int .i64 st] W fun e w' => e = .returned (.int .i64 ws) ∧ w' = W) := Lib.hid fun W => by rw [← hwse]; exact HWB.out W st
          rw [hwse] at hws
          obtain ⟨hws0, hws1⟩ := hws
          clear hwse hcell hlt
          obtain ⟨r, is, hnx⟩ : ∃ r is, nextS (bkW tk ats ct) = (r, is) := ⟨_, _, rfl⟩
          have HNX := Lib.hid hnx
          have hrr : is = true → tk ≤ r ∧ r ≤ 1099511627776 := fun e => by subst e; exact next_rng (leap_wok HLI.out HFI.out) hnx
          clear hnx
          by_cases hst : st < 0
          · cases is with
            | true =>
              obtain ⟨hrr0, hrr1⟩ := hrr rfl
              clear hrr
              as_aux_lemma =>
                go_wp2_with (first | (go_at_call 10; refine (HWS.out _).mono ?_; rintro e w2 ⟨rfl, rfl⟩) | (go_at_call 18; refine (c_next HS.out 3 rfl HX.out HNX.out).mono ?_; rintro e w5 ⟨rfl, hs⟩; have y10 := HY9.out _ hs.bl; have HSn := Lib.hid hs; clear hs))
                go_meet
                case rel => exact ⟨r, hrr0, hrr1, rfl, Lib.hid (fun h => absurd h (by omega)), HSn⟩
            | false =>
              clear hrr
              by_cases hbig : 1099511627776 < tk + ws
              · as_aux_lemma =>
                  go_wp2_with (first | (go_at_call 10; refine (HWS.out _).mono ?_; rintro e w2 ⟨rfl, rfl⟩) | (go_at_call 18; refine (c_next HS.out 3 rfl HX.out HNX.out).mono ?_; rintro e w5 ⟨rfl, hs⟩; have y10 := HY9.out _ hs.bl; have HSn := Lib.hid hs; clear hs))
                  go_meet
                  case rel => exact ⟨1099511627776, htk1, Int.le_refl _, rfl, Lib.hid (fun h => absurd h (by omega)), HSn⟩
              · as_aux_lemma =>
                  go_wp2_with (first | (go_at_call 10; refine (HWS.out _).mono ?_; rintro e w2 ⟨rfl, rfl⟩) | (go_at_call 18; refine (c_next HS.out 3 rfl HX.out HNX.out).mono ?_; rintro e w5 ⟨rfl, hs⟩; have y10 := HY9.out _ hs.bl; have HSn := Lib.hid hs; clear hs))
                  go_meet
                  case rel => exact ⟨tk + ws, by omega, by omega, rfl, Lib.hid (fun h => absurd h (by omega)), HSn⟩
          · clear hrr
            by_cases hbig : 1099511627776 < tk + ws
            · as_aux_lemma =>
                go_wp2_with (first | (go_at_call 10; refine (HWS.out _).mono ?_; rintro e w2 ⟨rfl, rfl⟩) | (go_at_call 18; refine (c_next HS.out 3 rfl HX.out HNX.out).mono ?_; rintro e w5 ⟨rfl, hs⟩; have y10 := HY9.out _ hs.bl; have HSn := Lib.hid hs; clear hs))
                go_meet
                case rel => exact ⟨1099511627776, htk1, Int.le_refl _, rfl, Lib.hid (fun h => absurd h (by omega)), HSn⟩
            · as_aux_lemma =>
                go_wp2_with (first | (go_at_call 10; refine (HWS.out _).mono ?_; rintro e w2 ⟨rfl, rfl⟩) | (go_at_call 18; refine (c_next HS.out 3 rfl HX.out HNX.out).mono ?_; rintro e w5 ⟨rfl, hs⟩; have y10 := HY9.out _ hs.bl; have HSn := Lib.hid hs; clear hs))
                go_meet
                case rel => exact ⟨tk + ws, by omega, by omega, rfl, Lib.hid (fun h => absurd h (by omega)), HSn⟩
        · have hiz0 : ¬ (i : Int) < (z2.length : Int) := by omega
          as_aux_lemma =>
            go_wp2_with fail
            go_meet
            case rel => exact ⟨1099511627776, htk1, Int.le_refl _, rfl, Lib.hid (fun _ => rfl), HS⟩
      case rest =>
        clear HS
        obtain ⟨t, hto0, hto1, rfl, HTE, HS⟩ := hcut
        obtain ⟨q1, q2, q3⟩ := leap_adv (ats := ats) (c := ct) hto0 hto1 hcr2
        have HQ := Lib.hid (And.intro q1 (And.intro q2 q3))
        obtain ⟨t1, t2, t3⟩ := HTB.out t hto0 hto1
        have HDM : Hid (∀ y ∈ dueB ats ct t, ct < y.t ∧ y.t ≤ t) := Lib.hid fun y hy => due_mem (by omega) hy
        have HT2 := Lib.hid t2
        have HLN := Lib.hid (HLI.out.next hto0 hto1)
        have HNW : Hid ((bkW t ats t).now = t) := Lib.hid rfl
        have htb : Hid (True → ((toldL ats ct).length + (dueB ats ct t).length) * 24 ≤ 140737488355328) := Lib.hid fun _ => by omega
        generalize dueB ats ct t = l at *
        clear q1 q2 q3 t2
        go_wp2_with (first
          | (go_at_call 13; refine (c_now HSb.out 4 rfl HXb.out).mono ?_; rw [HNW.out]; rintro e w7 ⟨rfl, rfl⟩)
          | (go_at_call 14; refine (c_adv HS.out 3 rfl HX.out t HQ.out.1 HQ.out.2.1 HQ.out.2.2).mono ?_; rintro e w6 ⟨Ab, cb2, xb, rfl, hx, hs⟩; have HXb := Lib.hid hx; have HSb : Hid (St w w6 [obD (.slice Ab l.length cb2) l, obD (.slice A3 (toldL ats ct).length c3) (toldL ats ct), obD (.slice A6 lall.length c6) lall, ob64 (.slice A ats.length c) ats, obWh xb]) := Lib.hid hs; clear hx hs))
        go_loop [21] (fun s21 => ∃ m : Nat, m ≤ l.length ∧ s21 = .int .i64 m) (fun s21 => l.length - (intOf s21).toNat)
        case atStart => exact ⟨0, Nat.zero_le _, rfl⟩
        case round =>
          obtain ⟨m, hm, rfl⟩ := hrel
          have hm0 : (0 : Int) ≤ (m : Int) := by omega
          by_cases hmt : m < l.length
          · have hmz : (m : Int) < (l.length : Int) := by omega
            obtain ⟨g, rfl, -, y0, y1, y2⟩ := HSb.out.cellD 0 rfl m hmt
            have hyt := HDM.out _ (List.getElem_mem hmt)
            obtain ⟨hyt0, hyt1⟩ := hyt
            generalize l[m] = y at *
            by_cases hiz : i = 0
            · subst hiz
              have hiz2 : ¬ (0 : Int) < ((0 : Nat) : Int) := by omega
              clear HDM HLN
              by_cases hle : y.t ≤ tk
              · by_cases hen : y.t = now
                · as_aux_lemma =>
                    go_wp2_with fail
                    go_round
                    case rel => exact ⟨m + 1, by omega, by go_num⟩
                    case measure => simp [intOf]; omega
                · as_aux_lemma =>
                    go_wp2_with fail
                    go_round
                    case rel => exact ⟨m + 1, by omega, by go_num⟩
                    case measure => simp [intOf]; omega
              · as_aux_lemma =>
                  go_wp2_with fail
                  go_round
                  case rel => exact ⟨m + 1, by omega, by go_num⟩
                  case measure => simp [intOf]; omega
            · have hiz2 : (0 : Int) < (i : Int) := by omega
              have hce := HLI.out.s (by omega)
              rw [hce] at hyt0
              clear HDM HLN
              as_aux_lemma =>
                go_wp2_with fail
                go_round
                case rel => exact ⟨m + 1, by omega, by go_num⟩
                case measure => simp [intOf]; omega
          · obtain rfl : m = l.length := by omega
            have hmz : ¬ (l.length : Int) < (l.length : Int) := by omega
            as_aux_lemma =>
              go_wp2_with (at_builtin; go_must (refine wpList_append_rows_St kD HSb.out 1 rfl rfl (.tmp 156) (.tmp 157) 32 (.agg (dV ⟨0, 0, 0⟩)) 24 rfl Try.underlying32 infoD rfl (by decide) (by decide) l Ab l.length cb2 rfl rfl (by have hh := HSb.out.get 0 rfl; exact (Kd.R_reads' hh).2.2) (htb.out trivial) ?_; intro v1 w8 hv1 HS8; obtain ⟨B', c8, rfl⟩ := hv1.out; have HS9 : Hid (St w w8 [obD (.slice B' (toldL ats t).length c8) (toldL ats t), obD (.slice A6 lall.length c6) lall, ob64 (.slice A ats.length c) ats, obWh xb]) := Lib.hid (by have hh := HS8.out; rw [HT2.out] at hh; exact hh.sub (List.sublist_cons_self _ _)); rw [HT2.out]; clear hv1 HS8))
              go_roundw
              case rel => exact ⟨i + 1, t, t, xb, B', c8, by omega, by go_num, rfl, rfl, Lib.hid (fun h => HTE.out (by omega)), HLN, HXb, HS9⟩
              case measure => simp [intOf]; omega
    · have hie2 : i = z2.length + 1 := by omega
      have hge : ¬ (i : Int) ≤ (z2.length : Int) := by omega
      have htke := HE.out (by omega)
      have hce := HLI.out.s (by omega)
      subst htke
      subst hce
      rw [HLA.out] at HS ⊢
      have hcl : cntB ats (-1) ats.length = lall.length := by rw [← HTL.out, HLA.out]
      have HCL := Lib.hid hcl
      have HMEM : Hid (∀ y ∈ lall, ∃ j, j < ats.length ∧ -1 < ats.getD j 0 ∧ y = bkD ats j) := Lib.hid fun y hy => told_mem (c := 1099511627776) (by decide) (by rw [HLA.out]; exact hy)
      have HORD := Lib.hid (told_ord2 (by decide) HLA.out)
      clear hcl HTB HLA HTL HLI HE HZ2 HWB htk0 htk1 hcr1 hcr2 hi hi0 hile0
      go_wp2_with fail
      go_loop [22, 23] (fun s22 s23 => ∃ k : Nat, k ≤ ats.length ∧ s23 = .int .i64 k ∧ s22 = .int .i64 (cntB ats (-1) k : Nat)) (fun _ s23 => ats.length - (intOf s23).toNat)
      case atStart => exact ⟨0, Nat.zero_le _, rfl, rfl⟩
      case round =>
        obtain ⟨k, hk, rfl, rfl⟩ := hrel
        have hk0 : (0 : Int) ≤ (k : Int) := by omega
        have hck := cntB_le ats (-1) k
        by_cases hkt : k < ats.length
        · have hkz : (k : Int) < (ats.length : Int) := by omega
          obtain ⟨g, ⟨c9, e1⟩, y0⟩ := RI_at (show kI.R _ _ _ _ _ _ from HS.out.get 2 rfl) k (ats.getD k 0) (by rw [List.getD_eq_getElem?_getD, List.getElem?_eq_getElem hkt]; rfl)
          injection e1 with e1 e2 e3
          subst e1
          have HCS := Lib.hid (cntB_succ ats (-1) k)
          generalize cntB ats (-1) k = C at *
          generalize ats.getD k 0 = y at *
          clear e2 e3
          by_cases hy : -1 < y
          · have hy0 : ¬ y < 0 := by omega
            as_aux_lemma =>
              go_wp2_with fail
              go_round
              case rel => exact ⟨k + 1, by omega, by go_num, by rw [HCS.out, if_pos hy]; go_num⟩
              case measure => simp [intOf]; omega
          · have hy0 : y < 0 := by omega
            as_aux_lemma =>
              go_wp2_with fail
              go_round
              case rel => exact ⟨k + 1, by omega, by go_num, by rw [HCS.out, if_neg hy]; go_num⟩
              case measure => simp [intOf]; omega
        · obtain rfl : k = ats.length := by omega
          have hkz : ¬ (ats.length : Int) < (ats.length : Int) := by omega
          rw [HCL.out]
          go_wp2_with (go_at_call 15; refine (c_len HS.out 3 rfl HX.out).mono ?_; rw [HLZ.out]; rintro e w7 ⟨rfl, rfl⟩)
          go_loopw [24] (fun s24 wr => ∃ k : Nat, k ≤ lall.length ∧ s24 = .int .i64 k ∧ Hid (St w wr [obD (.slice A3 lall.length c3) lall, obD (.slice A6 lall.length c6) lall, ob64 (.slice A ats.length c) ats, obWh x])) (fun s24 _ => lall.length - (intOf s24).toNat)
          case atStart => exact ⟨0, Nat.zero_le _, rfl, HS⟩
          case round =>
            clear HS HX HLZ
            obtain ⟨k, hk, rfl, HS⟩ := hrel
            have hk0 : (0 : Int) ≤ (k : Int) := by omega
            by_cases hkt : k < lall.length
            · have hkz : (k : Int) < (lall.length : Int) := by omega
              obtain ⟨g3, rfl, -, x0, x1, x2⟩ := HS.out.cellD 0 rfl k hkt
              obtain ⟨g6, rfl, -, -, -, -⟩ := HS.out.cellD 1 rfl k hkt
              obtain ⟨j, hj, hjc, hy⟩ := HMEM.out lall[k] (List.getElem_mem hkt)
              rw [hy] at x0 x1 x2
              replace x0 : wr.cell? ⟨g3, k * 3, none⟩ = some (.int .i64 ((j : Int) + 1)) := x0
              replace x1 : wr.cell? ⟨g3, k * 3 + 1, none⟩ = some (.int .i64 (ats.getD j 0)) := x1
              replace x2 : wr.cell? ⟨g3, k * 3 + 2, none⟩ = some (.int .i64 (7 * (j : Int))) := x2
              obtain ⟨g8, ⟨c9, e1⟩, -⟩ := RI_at (show kI.R _ _ _ _ _ _ from HS.out.get 2 rfl) j (ats.getD j 0) (by rw [List.getD_eq_getElem?_getD, List.getElem?_eq_getElem hj]; rfl)
              injection e1 with e1 e2 e3
              subst e1
              have HBX : Hid (St w (wr.alloc (.cells #[.int .i64 ((j : Int) + 1), .int .i64 (ats.getD j 0), .int .i64 (7 * (j : Int))] 36)) (obB wr.heap.size (dV ⟨(j : Int) + 1, ats.getD j 0, 7 * (j : Int)⟩) 36 :: [obD (.slice (some ⟨g3, 0, none⟩) lall.length c3) lall, obD (.slice (some ⟨g6, 0, none⟩) lall.length c6) lall, ob64 (.slice (some ⟨g8, 0, none⟩) ats.length c) ats, obWh x])) := Lib.hid (HS.out.boxF (dV ⟨(j : Int) + 1, ats.getD j 0, 7 * (j : Int)⟩) 36)
              have HR : Hid (∀ W, Below (wr.alloc (.cells #[.int .i64 ((j : Int) + 1), .int .i64 (ats.getD j 0), .int .i64 (7 * (j : Int))] 36)).heap.size (wr.alloc (.cells #[.int .i64 ((j : Int) + 1), .int .i64 (ats.getD j 0), .int .i64 (7 * (j : Int))] 36)) W → W.cell? ⟨wr.heap.size, 0, none⟩ = some (.int .i64 ((j : Int) + 1)) ∧ W.cell? ⟨wr.heap.size, 1, none⟩ = some (.int .i64 (ats.getD j 0)) ∧ W.cell? ⟨wr.heap.size, 2, none⟩ = some (.int .i64 (7 * (j : Int))) ∧ W.cell? ⟨g6, k * 3, none⟩ = some (.int .i64 ((j : Int) + 1)) ∧ W.cell? ⟨g6, k * 3 + 1, none⟩ = some (.int .i64 (ats.getD j 0)) ∧ W.cell? ⟨g6, k * 3 + 2, none⟩ = some (.int .i64 (7 * (j : Int))) ∧ W.cell? ⟨g8, j, none⟩ = some (.int .i64 (ats.getD j 0))) := Lib.hid fun W hW => by
                have hh := HBX.out.below hW
                obtain ⟨b0, b1, b2⟩ := box_cells (hh.get 0 rfl)
                obtain ⟨g, e, -, c0, c1, c2⟩ := hh.cellD 2 rfl k hkt
                obtain rfl : g6 = g := by injection e with e; injection e
                obtain ⟨g', ⟨c9', e'⟩, d0⟩ := RI_at (show kI.R _ _ _ _ _ _ from hh.get 3 rfl) j (ats.getD j 0) (by rw [List.getD_eq_getElem?_getD, List.getElem?_eq_getElem hj]; rfl)
                obtain rfl : g8 = g' := by injection e' with e'; injection e' with e'; injection e'
                rw [hy] at c0 c1 c2
                exact ⟨b0, b1, b2, c0, c1, c2, d0⟩
              have HP : Hid (∀ kp, k = kp + 1 → ∃ P : Du, (P.t < ats.getD j 0 ∨ (P.t = ats.getD j 0 ∧ P.id < (j : Int) + 1)) ∧ ∀ W, Below (wr.alloc (.cells #[.int .i64 ((j : Int) + 1), .int .i64 (ats.getD j 0), .int .i64 (7 * (j : Int))] 36)).heap.size (wr.alloc (.cells #[.int .i64 ((j : Int) + 1), .int .i64 (ats.getD j 0), .int .i64 (7 * (j : Int))] 36)) W → W.cell? ⟨g3, kp * 3, none⟩ = some (.int .i64 P.id) ∧ W.cell? ⟨g3, kp * 3 + 1, none⟩ = some (.int .i64 P.t)) := Lib.hid fun kp ekp => by
                subst ekp
                have ho := HORD.out kp hkt
                rw [hy] at ho
                refine ⟨lall[kp], ho, fun W hW => ?_⟩
                obtain ⟨g, e, -, c0, c1, c2⟩ := (HBX.out.below hW).cellD 1 rfl kp (by omega)
                obtain rfl : g3 = g := by injection e with e; injection e
                exact ⟨c0, c1⟩
              clear e2 e3 hy hkt
              generalize ats.getD j 0 = T at *
              have hjz : (j : Int) < (ats.length : Int) := by omega
              have hj0 : (0 : Int) ≤ (j : Int) := by omega
              obtain ⟨J, hJ⟩ : ∃ J, (j : Int) + 1 = J := ⟨_, rfl⟩
              rw [hJ] at HR x0 HP
              have hJ1 : 1 ≤ J := by omega
              have hJ2 : J ≤ (ats.length : Int) := by omega
              have hwr : IntKind.i64.wrap (J - 1) = (j : Int) := by rw [i64_wrap_small _ (by omega) (by omega)]; omega
              have hj1 : J - 1 = (j : Int) := by omega
              have hwr2 : IntKind.i64.wrap (j : Int) = (j : Int) := i64_wrap_small _ (by omega) (by omega)
              have hJ3 : ¬ J < 1 := by omega
              have hJ4 : ¬ (ats.length : Int) < J := by omega
              have hwm : IntKind.i64.wrap (7 * (j : Int)) = 7 * (j : Int) := i64_wrap_small _ (by omega) (by omega)
              have HSA := Lib.hid (HS.out.alloc0 (.cells #[.int .i64 J, .int .i64 T, .int .i64 (7 * (j : Int))] 36))
              clear hJ HBX HORD HMEM
              go_wp2_with fail
              clear x0 x1 x2 HS
              generalize hWA : wr.alloc (.cells #[.int .i64 J, .int .i64 T, .int .i64 (7 * (j : Int))] 36) = WA at HR HP HSA ⊢
              generalize wr.heap.size = N at HR ⊢
              clear hWA
              obtain ⟨X, hX⟩ : ∃ X, 7 * (j : Int) = X := ⟨_, rfl⟩
              rw [hX] at HR hwm ⊢
              have hX2 : (X == X) = true := by simp
              have hJ5 : ¬ J < 1 := by omega
              have hJ6 : ¬ (ats.length : Int) < J := by omega
              have hJ7 : decide (J < 1) = false := decide_eq_false hJ5
              have hJ8 : decide ((ats.length : Int) < J) = false := decide_eq_false hJ6
              go_region_held3 (fun W => W.cell? ⟨N, 0, none⟩ = some (.int .i64 J) ∧ W.cell? ⟨N, 1, none⟩ = some (.int .i64 T) ∧ W.cell? ⟨N, 2, none⟩ = some (.int .i64 X) ∧ W.cell? ⟨g6, k * 3, none⟩ = some (.int .i64 J) ∧ W.cell? ⟨g6, k * 3 + 1, none⟩ = some (.int .i64 T) ∧ W.cell? ⟨g6, k * 3 + 2, none⟩ = some (.int .i64 X) ∧ W.cell? ⟨g8, j, none⟩ = some (.int .i64 T)) (first | exact HR.out _ (Below.refl _ _) | exact HR.out _ (Below.refl _ _).drew) (fail)
              go_wp2_with fail
              clear hJ5 hJ6 hJ7 hJ8
              by_cases hk9 : 0 < k
              · obtain ⟨kp, hkp⟩ : ∃ kp, k = kp + 1 := ⟨k - 1, by omega⟩
                obtain ⟨⟨Pi, Pt, Px⟩, hPo, hPW⟩ := HP.out kp hkp
                replace hPo : Pt < T ∨ (Pt = T ∧ Pi < J) := hPo
                have HPF : Hid (∀ W, Below WA.heap.size WA W → W.cell? ⟨N, 0, none⟩ = some (.int .i64 J) ∧ W.cell? ⟨N, 1, none⟩ = some (.int .i64 T) ∧ W.cell? ⟨g3, kp * 3, none⟩ = some (.int .i64 Pi) ∧ W.cell? ⟨g3, kp * 3 + 1, none⟩ = some (.int .i64 Pt)) := Lib.hid fun W hW => by
                  obtain ⟨f0, f1, -⟩ := HR.out W hW
                  exact ⟨f0, f1, hPW W hW⟩
                clear hPW HP HR
                have hk8 : (0 : Int) < (k : Int) := by omega
                have hk7 : decide ((0 : Int) < (k : Int)) = true := decide_eq_true hk8
                have hks : (k : Int) - 1 = (kp : Int) := by omega
                have hkw : IntKind.i64.wrap ((k : Int) - 1) = (kp : Int) := by rw [i64_wrap_small _ (by omega) (by omega)]; omega
                have hkw2 : IntKind.i64.wrap (kp : Int) = (kp : Int) := i64_wrap_small _ (by omega) (by omega)
                have hkp0 : (0 : Int) ≤ (kp : Int) := by omega
                have hkp1 : (kp : Int) < (lall.length : Int) := by omega
                have hT1 : ¬ T < Pt := by omega
                have hT2 : decide (T < Pt) = false := decide_eq_false hT1
                by_cases hPT : Pt = T
                · have hI1 : ¬ J ≤ Pi := by omega
                  have hI2 : decide (J ≤ Pi) = false := decide_eq_false hI1
                  have hE1 : (Pt == T) = true := by simpa using hPT
                  have hE2 : decide (Pt = T) = true := decide_eq_true hPT
                  clear hPo hkp
                  as_aux_lemma =>
                    go_region_held3 (fun W => W.cell? ⟨N, 0, none⟩ = some (.int .i64 J) ∧ W.cell? ⟨N, 1, none⟩ = some (.int .i64 T) ∧ W.cell? ⟨g3, kp * 3, none⟩ = some (.int .i64 Pi) ∧ W.cell? ⟨g3, kp * 3 + 1, none⟩ = some (.int .i64 Pt)) (first | exact HPF.out _ (Below.refl _ _).drew | exact HPF.out _ (Below.refl _ _).drew.drew) (fail)
                    go_wp2_with fail
                    go_roundw
                    case rel => exact ⟨k + 1, by omega, by go_num, Lib.hid (HSA.out.below (Below.refl _ _).drew.drew)⟩
                    case measure => simp [intOf]; omega
                · have hE1 : (Pt == T) = false := by simpa using hPT
                  clear hPo hkp hPT
                  as_aux_lemma =>
                    obtain ⟨f0, f1, f2, f3⟩ := HPF.out _ (Below.refl _ WA).drew
                    obtain ⟨e0, e1, e2, e3⟩ := HPF.out _ (Below.refl _ WA).drew.drew
                    go_region
                    go_wp2_with fail
                    go_roundw
                    case rel => exact ⟨k + 1, by omega, by go_num, Lib.hid (HSA.out.below (Below.refl _ _).drew.drew)⟩
                    case measure => simp [intOf]; omega
              · have hk00 : (k : Int) = 0 := by omega
                rw [hk00]
                have HPF : Hid (∀ W, Below WA.heap.size WA W → W.cell? ⟨N, 0, none⟩ = some (.int .i64 J)) := Lib.hid fun W hW => (HR.out W hW).1
                clear HP HR
                as_aux_lemma =>
                  have f0 := HPF.out _ (Below.refl _ WA).drew
                  have e0 := HPF.out _ (Below.refl _ WA).drew.drew
                  go_region
                  go_wp2_with fail
                  go_roundw
                  case rel => exact ⟨k + 1, by omega, by go_num, Lib.hid (HSA.out.below (Below.refl _ _).drew.drew)⟩
                  case measure => simp [intOf]; omega
            · obtain rfl : k = lall.length := by omega
              have hkz : ¬ (lall.length : Int) < (lall.length : Int) := by omega
              as_aux_lemma =>
                go_wp2_with fail
                go_ret
                exact ⟨rfl, HS.out.bl⟩
end Go.Proofs.Ytadhceoaoopcjaa.SL
