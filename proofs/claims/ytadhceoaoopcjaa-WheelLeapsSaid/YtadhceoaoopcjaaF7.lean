/- The walk of the statement WheelWaits. No condition. -/
import Derived.Test.YtadhceoaoopcjaaF6
namespace Go.Proofs.Ytadhceoaoopcjaa.SL
open Go.RowKit Go.Proofs.YtadhceoaoopcjaaW.PrintWords Go.Proofs.YtadhceoaoopcjaaW.PrintLast Go.Proofs.YtadhceoaoopcjaaW.PrintMore
theorem cutW_none {s : Wh} {id : Int} (h : findW s id = none) : cutW s id = s := by
  unfold cutW
  rw [List.filter_eq_self.2 fun d hd => ?_]
  have := findW_none h d hd
  unfold notId
  simpa using this
theorem find_out {s : Wh} (h : WOk s) {id : Int} (ho : id ≤ 0 ∨ s.last < id) : findW s id = none :=
  find_none fun d hd e => by have := h.i1 d hd; omega
theorem out_cut {s : Wh} (h : WOk s) {id : Int} (ho : id ≤ 0 ∨ s.last < id) : (findW s id).isSome = false ∧ cutW s id = s := by
  rw [cutW_none (find_out h ho), find_out h ho]
  exact ⟨rfl, rfl⟩
theorem bk_adv {at0 : Int} {ats : List Int} {c tk : Int} (h1 : at0 ≤ tk) (h2 : tk ≤ 1099511627776) (hc : c ≤ tk) : advE (bkW at0 ats c) tk = 0 ∧ advS (bkW at0 ats c) tk = bkW tk ats tk ∧ dueL (bkW at0 ats c) tk = ordT ((bookL ats c).filter (dueP tk)) := by
  have he : advE (bkW at0 ats c) tk = 0 := if_neg (by show ¬ (tk < at0 ∨ _); omega)
  refine ⟨he, ?_, ?_⟩
  · unfold advS
    rw [if_pos he]
    show Wh.mk tk (ats.length : Nat) ((bookL ats c).filter fun d => !dueP tk d) = _
    rw [book_adv _ hc]
    rfl
  · unfold dueL
    rw [if_pos he]
    rfl
theorem book_nodup (ats : List Int) (c : Int) : ((bookL ats c).map (·.id)).Nodup := by
  rw [List.nodup_iff_pairwise_ne, List.pairwise_map]
  exact (book_ids ats c).imp fun h => Int.ne_of_lt h
theorem bk_due (ats : List Int) {c tk : Int} (hc : c ≤ tk) : OrdD (ordT ((bookL ats c).filter (dueP tk))) ∧ (ordT ((bookL ats c).filter (dueP tk))).Perm ((bookL ats c).filter (dueP tk)) ∧ (ordT ((bookL ats c).filter (dueP tk))).length + cntB ats tk ats.length = cntB ats c ats.length := by
  obtain ⟨h1, h2⟩ := ordT_spec (l := (bookL ats c).filter (dueP tk)) ((book_nodup ats c).sublist (List.filter_sublist.map _))
  refine ⟨h1, h2, ?_⟩
  have hp := (part_perm (fun _ => true) (dueP tk) (fun d => !dueP tk d) (bookL ats c) (fun x _ => by cases dueP tk x <;> rfl) (fun x _ h => by rw [h]; rfl)).length_eq
  rw [List.filter_eq_self.2 fun _ _ => rfl, List.length_append, book_adv _ hc, book_len, book_len] at hp
  rw [h2.length_eq]
  exact hp.symm
theorem bk_wok {now : Int} {ats : List Int} (h : FilI now ats) {tk : Int} (h1 : now ≤ tk) (h2 : tk ≤ 1099511627776) : WOk (bkW tk ats tk) :=
  book_ok (by have := h.n0; omega) h2 (by have := h.l; omega) fun i hi hc => by rcases h.r i hi with e | e <;> omega
/-- One more at the end. -/
theorem bk_add {now : Int} {ats : List Int} (h : FilI now ats) {tk : Int} (h1 : now ≤ tk) (h2 : tk ≤ 1099511627776) : addR (bkW tk ats tk) 1099511627776 = (ats.length : Int) + 1 ∧ addE (bkW tk ats tk) 1099511627776 = 0 ∧ WOk (addS (bkW tk ats tk) 1099511627776 1) ∧ (addS (bkW tk ats tk) 1099511627776 1).last = (ats.length : Int) + 1 := by
  have hl := h.l
  have hb : (bookL ats tk).length ≤ ats.length := by unfold bookL; rw [List.length_map]; exact Nat.le_trans (List.length_filter_le _ _) (by rw [List.length_range]; exact Nat.le_refl _)
  have he : addE (bkW tk ats tk) 1099511627776 = 0 := by
    unfold addE
    rw [if_neg (by show ¬ (1099511627776 < tk ∨ _); omega), if_neg (by show ¬ (4096 ≤ ((bookL ats tk).length : Int)); omega)]
  refine ⟨by unfold addR; rw [if_pos he]; rfl, he, ?_, ?_⟩
  · unfold addS
    rw [if_pos he]
    exact add_ok (bk_wok h h1 h2) 1 he
  · unfold addS
    rw [if_pos he]
    rfl
theorem bk_find (now : Int) (ats : List Int) (c : Int) (k : Nat) (hk : k < ats.length) :
    (c < ats.getD k 0 → ((findW (bkW now ats c) ((k : Int) + 1)).map (·.t)).getD 0 = ats.getD k 0 ∧ (findW (bkW now ats c) ((k : Int) + 1)).isSome = true) ∧
    (¬ c < ats.getD k 0 → ((findW (bkW now ats c) ((k : Int) + 1)).map (·.t)).getD 0 = 0 ∧ (findW (bkW now ats c) ((k : Int) + 1)).isSome = false ∧ cutW (bkW now ats c) ((k : Int) + 1) = bkW now ats c) := by
  have hf := book_find (now := now) (c := c) k hk
  refine ⟨fun h => ?_, fun h => ?_⟩
  · rw [if_pos h] at hf
    rw [hf]
    exact ⟨rfl, rfl⟩
  · rw [if_neg h] at hf
    rw [cutW_none hf, hf]
    exact ⟨rfl, rfl, rfl⟩
theorem least_rng {now : Int} {ats : List Int} (h : FilI now ats) {c : Int} (hc : 0 ≤ c) (k : Nat) (hk : k ≤ ats.length) : -1 ≤ leastB ats c k ∧ leastB ats c k ≤ 1099511627776 := by
  rcases leastB_spec (ats := ats) hc k with ⟨e, _⟩ | ⟨i, hi, hci, e, _⟩
  · omega
  · rcases h.r i (by omega) with g | g <;> omega
set_option maxHeartbeats 16000000 in
set_option maxRecDepth 100000 in
theorem waits_calls (n0 : Int) (a : Option Addr) (cap : Nat) (z : List Tm) (n2 : Int) (w : World) (hC : kTm.C w a z.length z) (_ : ∀ x ∈ z, TmR x) (hz : z.length * 16 ≤ 140737488351232) :
    Calls Try.prog 7 #[.int .i64 n0, .slice a z.length cap, .int .i64 n2] w fun e w' => e = .returned (.bool true) ∧ Below w.heap.size w w' := by
  have HWA := Lib.hid fun W => within_calls n0 W
  have HWB := Lib.hid fun W => within_calls n2 W
  have hw0 := wi_rng n0
  have hw2 := wi_rng n2
  generalize wi n0 = now at *
  generalize wi n2 = tw at *
  obtain ⟨hn0, hn1⟩ := hw0
  obtain ⟨ht0, ht1⟩ := hw2
  obtain ⟨tk, htk⟩ : ∃ tk, max now tw = tk := ⟨_, rfl⟩
  have hk1 : now ≤ tk := by omega
  have hk2 : tk < 1099511627776 := by omega
  have HFI0 := filT_ok (z := z) hn0 (show now ≤ 1099511627776 by omega)
  obtain ⟨ats, hats⟩ : ∃ ats, filT now z = ats := ⟨_, rfl⟩
  rw [hats] at HFI0
  have HFI := Lib.hid HFI0
  have hal : ats.length ≤ 3000 := HFI0.l
  obtain ⟨b1, b2, b3⟩ := bk_adv (ats := ats) (c := -1) hk1 (show tk ≤ 1099511627776 by omega) (show -1 ≤ tk by omega)
  obtain ⟨d1, d2, d3⟩ := bk_due ats (show -1 ≤ tk by omega)
  obtain ⟨l, hl⟩ : ∃ l, ordT ((bookL ats (-1)).filter (dueP tk)) = l := ⟨_, rfl⟩
  rw [hl] at b3 d3
  have hcle := cntB_le ats (-1) ats.length
  have hcle2 := cntB_le ats tk ats.length
  have HAD := Lib.hid (And.intro b3 (And.intro b1 b2))
  have HFC : Hid (∀ W, Below w.heap.size w W → Calls Try.prog 17 #[.int .i64 now, .slice a z.length cap] W (FillP w [] now z)) := Lib.hid fun W hb => c_filled ((St.nil w).below hb) now hn0 (by omega) a cap z hC hz
  have HATS := Lib.hid hats
  clear b1 b2 b3 d1 d2 hl hats hC HFI0
  go_enter Try.func7, Try.ntmps7
  go_wp2_with (first
    | (go_at_call 9; refine (alive_calls _).mono ?_; rintro e w1 ⟨rfl, hb⟩; have HB0 := Lib.hid hb; clear hb)
    | (go_at_call 10; refine (HWA.out _).mono ?_; rintro e w2 ⟨rfl, rfl⟩)
    | (go_at_call 10; refine (HWB.out _).mono ?_; rintro e w2 ⟨rfl, rfl⟩)
    | (go_at_call 17; refine (HFC.out _ HB0.out).mono ?_; rintro e w3 ⟨p, x, A, c, rfl, hx, hs⟩; rw [HATS.out] at hx hs ⊢; have HX : Hid (x.Is p (bkW now ats (-1))) := Lib.hid hx; have HS : Hid (St w w3 [ob64 (.slice A ats.length c) ats, obWh x]) := Lib.hid hs; clear hx hs HB0 HFC)
    | (go_at_call 14; refine (c_adv HS.out 1 rfl HX.out tk HAD.out.1 HAD.out.2.1 HAD.out.2.2).mono ?_; rintro e w6 ⟨A6, c6, x6, rfl, hx, hs⟩; have HX6 := Lib.hid hx; have HS6 : Hid (St w w6 [obD (.slice A6 l.length c6) l, ob64 (.slice A ats.length c) ats, obWh x6]) := Lib.hid hs; clear hx hs HS HX))
  go_loopw [11, 12, 13] (fun s11 s12 s13 wr => ∃ (k : Nat) (x : WSt), k ≤ ats.length ∧ s13 = .int .i64 k ∧ s12 = .int .i64 (cntB ats tk k : Nat) ∧ s11 = .int .i64 (leastB ats tk k) ∧ Hid (x.Is p (bkW tk ats tk)) ∧ Hid (St w wr [obD (.slice A6 l.length c6) l, ob64 (.slice A ats.length c) ats, obWh x])) (fun _ _ s13 _ => ats.length - (intOf s13).toNat)
  case atStart => exact ⟨0, x6, Nat.zero_le _, rfl, rfl, rfl, HX6, HS6⟩
  case round =>
    clear HX6 HS6
    obtain ⟨k, x, hk, rfl, rfl, rfl, HX, HS⟩ := hrel
    have hk0 : (0 : Int) ≤ (k : Int) := by omega
    have hlr := least_rng HFI.out (c := tk) (by omega) k hk
    have hck := cntB_le ats tk k
    by_cases hkt : k < ats.length
    · have hkz : (k : Int) < (ats.length : Int) := by omega
      obtain ⟨g, ⟨c9, e1⟩, y0⟩ := RI_at (show kI.R _ _ _ _ _ _ from HS.out.get 1 rfl) k (ats.getD k 0) (by rw [List.getD_eq_getElem?_getD, List.getElem?_eq_getElem hkt]; rfl)
      injection e1 with e1 e2 e3
      subst e1
      obtain ⟨hf1, hf2⟩ := bk_find tk ats tk k hkt
      have hcs := cntB_succ ats tk k
      have hls : leastB ats tk (k + 1) = if tk < ats.getD k 0 ∧ (leastB ats tk k < 0 ∨ ats.getD k 0 < leastB ats tk k) then ats.getD k 0 else leastB ats tk k := rfl
      have hyr : ats.getD k 0 ≤ 1099511627776 := by rcases HFI.out.r k hkt with e | e <;> omega
      have hyr0 : -1 ≤ ats.getD k 0 := by rcases HFI.out.r k hkt with e | e <;> omega
      generalize leastB ats tk k = L at *
      generalize cntB ats tk k = C at *
      generalize ats.getD k 0 = y at *
      clear e2 e3
      by_cases hy : tk < y
      · have hf := Lib.hid (hf1 hy)
        rw [if_pos hy] at hcs
        have HCS := Lib.hid hcs
        have HY := Lib.hid hy
        clear hf1 hf2 hcs
        by_cases h1 : L < 0
        · rw [if_pos ⟨hy, .inl h1⟩] at hls
          have HLS := Lib.hid hls
          clear hls
          go_wp2_with (go_at_call 19; refine (c_at HS.out 2 rfl HX.out _ hf.out.1 hf.out.2).mono ?_; rintro e w5 ⟨rfl, rfl⟩)
          go_roundw
          case rel => exact ⟨k + 1, x, by omega, by go_num, by rw [HCS.out]; go_num, by rw [HLS.out], HX, HS⟩
          case measure => simp [intOf]; omega
        · by_cases h2 : y < L
          · rw [if_pos ⟨hy, .inr h2⟩] at hls
            have HLS := Lib.hid hls
            clear hls
            go_wp2_with (go_at_call 19; refine (c_at HS.out 2 rfl HX.out _ hf.out.1 hf.out.2).mono ?_; rintro e w5 ⟨rfl, rfl⟩)
            go_roundw
            case rel => exact ⟨k + 1, x, by omega, by go_num, by rw [HCS.out]; go_num, by rw [HLS.out], HX, HS⟩
            case measure => simp [intOf]; omega
          · rw [if_neg fun e => e.2.elim h1 h2] at hls
            have HLS := Lib.hid hls
            clear hls
            go_wp2_with (go_at_call 19; refine (c_at HS.out 2 rfl HX.out _ hf.out.1 hf.out.2).mono ?_; rintro e w5 ⟨rfl, rfl⟩)
            go_roundw
            case rel => exact ⟨k + 1, x, by omega, by go_num, by rw [HCS.out]; go_num, by rw [HLS.out], HX, HS⟩
            case measure => simp [intOf]; omega
      · have hf := Lib.hid (hf2 hy)
        rw [if_neg hy] at hcs
        rw [if_neg fun e => hy e.1] at hls
        have HCS := Lib.hid hcs
        have HLS := Lib.hid hls
        clear hf1 hf2 hcs hls
        go_wp2_with (first
          | (go_at_call 19; refine (c_at HS.out 2 rfl HX.out _ hf.out.1 hf.out.2.1).mono ?_; rintro e w5 ⟨rfl, rfl⟩)
          | (go_at_call 16; refine (c_cancel HS.out 2 rfl HX.out _ hf.out.2.1 hf.out.2.2).mono ?_; rintro e w6 ⟨x3, rfl, hx, hs⟩; have HX3 := Lib.hid hx; have HS3 : Hid (St w w6 [obD (.slice A6 l.length c6) l, ob64 (.slice (some ⟨g, 0, none⟩) ats.length c) ats, obWh x3]) := Lib.hid hs; clear hx hs))
        go_roundw
        case rel => exact ⟨k + 1, x3, by omega, by go_num, by rw [HCS.out]; go_num, by rw [HLS.out], HX3, HS3⟩
        case measure => simp [intOf]; omega
    · obtain rfl : k = ats.length := by omega
      have hkz : ¬ (ats.length : Int) < (ats.length : Int) := by omega
      have hbn := book_next (now := tk) (ats := ats) (c := tk) (by omega)
      have hbl : (bkW tk ats tk).L.length = cntB ats tk ats.length := book_len ats tk
      obtain ⟨a1, a2, a3, a4⟩ := bk_add HFI.out (tk := tk) hk1 (by omega)
      obtain ⟨s2, hs2⟩ : ∃ s2, addS (bkW tk ats tk) 1099511627776 1 = s2 := ⟨_, rfl⟩
      rw [hs2] at a3 a4
      have hlast : Hid (True → (bkW tk ats tk).last < 4000000000000000000) := Lib.hid fun _ => by show (ats.length : Int) < _; omega
      have hat : findW s2 ((ats.length : Int) + 2) = none := find_out a3 (.inr (by rw [a4]; omega))
      have HAT := Lib.hid (show ((findW s2 ((ats.length : Int) + 2)).map (·.t)).getD 0 = 0 ∧ (findW s2 ((ats.length : Int) + 2)).isSome = false by rw [hat]; exact ⟨rfl, rfl⟩)
      have HC0 := Lib.hid (out_cut a3 (id := 0) (.inl (by decide)))
      have HC1 := Lib.hid (out_cut a3 (id := -1) (.inl (by decide)))
      have HA2 := Lib.hid (And.intro a1 (And.intro a2 hs2))
      have HBL := Lib.hid hbl
      generalize leastB ats tk ats.length = L at *
      clear a1 a2 a3 a4 hs2 hat hbl
      by_cases hc : 0 < cntB ats tk ats.length
      · rw [if_pos hc] at hbn
        have HBN := Lib.hid hbn
        generalize cntB ats tk ats.length = C at *
        have hc' : 0 < (C : Int) := by omega
        clear hbn
        go_wp2_with (first
          | (go_at_call 16; refine (c_cancel HS4.out 2 rfl HX4.out (-1) HC1.out.1 HC1.out.2).mono ?_; rintro e w8 ⟨x5, rfl, hx, hs⟩; have HS5 := Lib.hid hs.bl; clear hx hs HX4 HS4)
          | (go_at_call 16; refine (c_cancel HS3.out 2 rfl HX3.out 0 HC0.out.1 HC0.out.2).mono ?_; rintro e w7 ⟨x4, rfl, hx, hs⟩; have HX4 := Lib.hid hx; have HS4 : Hid (St w w7 [obD (.slice A6 l.length c6) l, ob64 (.slice A ats.length c) ats, obWh x4]) := Lib.hid hs; clear hx hs HX3 HS3)
          | (go_at_call 19; refine (c_at HS3.out 2 rfl HX3.out _ HAT.out.1 HAT.out.2).mono ?_; rintro e w5 ⟨rfl, rfl⟩)
          | (go_at_call 12; refine (c_add HS2.out 2 rfl HX.out (hlast.out trivial) 1099511627776 1 HA2.out.1 HA2.out.2.1 HA2.out.2.2).mono ?_; rintro e w4 ⟨x3, rfl, hx, hs⟩; have HX3 := Lib.hid hx; have HS3 : Hid (St w w4 [obD (.slice A6 l.length c6) l, ob64 (.slice A ats.length c) ats, obWh x3]) := Lib.hid hs; clear hx hs HS2 HX)
          | (go_at_call 15; refine (c_len HS2.out 2 rfl HX.out).mono ?_; rw [HBL.out]; rintro e w7 ⟨rfl, rfl⟩)
          | (go_at_call 18; refine (c_next HS.out 2 rfl HX.out HBN.out).mono ?_; rintro e w7 ⟨rfl, hs⟩; have HS2 := Lib.hid hs; clear hs HS))
        go_ret
        have hd : decide ((l.length : Int) ≤ (ats.length : Int) - (C : Int)) = true := decide_eq_true (by omega)
        exact ⟨congrArg (fun b => Ending.returned (.bool b)) hd, HS5.out⟩
      · rw [if_neg hc] at hbn
        have HBN := Lib.hid hbn
        have hc0 : cntB ats tk ats.length = 0 := by omega
        rw [hc0] at *
        clear hbn
        go_wp2_with (first
          | (go_at_call 16; refine (c_cancel HS4.out 2 rfl HX4.out (-1) HC1.out.1 HC1.out.2).mono ?_; rintro e w8 ⟨x5, rfl, hx, hs⟩; have HS5 := Lib.hid hs.bl; clear hx hs HX4 HS4)
          | (go_at_call 16; refine (c_cancel HS3.out 2 rfl HX3.out 0 HC0.out.1 HC0.out.2).mono ?_; rintro e w7 ⟨x4, rfl, hx, hs⟩; have HX4 := Lib.hid hx; have HS4 : Hid (St w w7 [obD (.slice A6 l.length c6) l, ob64 (.slice A ats.length c) ats, obWh x4]) := Lib.hid hs; clear hx hs HX3 HS3)
          | (go_at_call 19; refine (c_at HS3.out 2 rfl HX3.out _ HAT.out.1 HAT.out.2).mono ?_; rintro e w5 ⟨rfl, rfl⟩)
          | (go_at_call 12; refine (c_add HS2.out 2 rfl HX.out (hlast.out trivial) 1099511627776 1 HA2.out.1 HA2.out.2.1 HA2.out.2.2).mono ?_; rintro e w4 ⟨x3, rfl, hx, hs⟩; have HX3 := Lib.hid hx; have HS3 : Hid (St w w4 [obD (.slice A6 l.length c6) l, ob64 (.slice A ats.length c) ats, obWh x3]) := Lib.hid hs; clear hx hs HS2 HX)
          | (go_at_call 15; refine (c_len HS2.out 2 rfl HX.out).mono ?_; rw [HBL.out]; rintro e w7 ⟨rfl, rfl⟩)
          | (go_at_call 18; refine (c_next HS.out 2 rfl HX.out HBN.out).mono ?_; rintro e w7 ⟨rfl, hs⟩; have HS2 := Lib.hid hs; clear hs HS))
        go_ret
        have hd : decide (l.length ≤ ats.length) = true := decide_eq_true (by omega)
        exact ⟨congrArg (fun b => Ending.returned (.bool b)) hd, HS5.out⟩
end Go.Proofs.Ytadhceoaoopcjaa.SL
