/- The walk of the statement PmtuRises. No condition but sizes and that the table stands in its variable. -/
import Derived.Test.YtdinkhhaomblcaaDoorKJ
namespace Go.Proofs.YtdinkhhaomblcaaDoor.SL
open Go.RowKit Go.Proofs.YtdinkhhaomblcaaDoorW.PrintWords Go.Proofs.YtdinkhhaomblcaaDoorW.PrintLast Go.Proofs.YtdinkhhaomblcaaDoorW.PrintMore
theorem bits_and1 (s : Int) : bits .and .i64 s 1 = 0 ∨ bits .and .i64 s 1 = 1 := by
  have h : ((BitVec.ofInt 64 s &&& BitVec.ofInt 64 1).toNat) ≤ 1 := by
    rw [BitVec.toNat_and]
    exact Nat.and_le_right
  have e : bits .and .i64 s 1 = ((BitVec.ofInt 64 s &&& BitVec.ofInt 64 1).toNat : Int) := by
    show IntKind.i64.wrap ((BitVec.ofInt 64 s &&& BitVec.ofInt 64 1).toNat : Int) = _
    rw [IntKind.wrap_i64]
    omega
  rw [e]
  omega
/-- Between the rounds. -/
structure LoopW (E A first now : Int) (c : Ca) (hd : List Int) (k : Nat) : Prop where
  i : WI E A first now c k
  n : now ≤ 5000 * (k : Int)
  h : hd.length ≤ k
theorem keys_len {c : Ca} (h : OkC c) : (ordS (c.M.map (·.1))).length = c.M.length := by
  rw [(ordS_spec h.nd).2.length_eq, List.length_map]
theorem WI.weak {E A first now k k' : Int} {c : Ca} (h : WI E A first now c k) (hk : k ≤ k') : WI E A first now c k' :=
  ⟨h.ok, h.ab, h.fl, h.fr, h.ky, h.e, h.a, h.nn, h.n0, by have := h.hr; omega, h.f1, h.f2⟩
/-- Between the last Ticks. -/
structure LoopR (E A first now : Int) (c : Ca) (q : Nat) : Prop where
  i : WI E A first now c 4000
  n : now ≤ 20000000 + 6000 * (q : Int)
  r : RkC c q
  a : A ≤ 1000
set_option maxHeartbeats 16000000 in
set_option maxRecDepth 100000 in
theorem rises_calls (entries age fst0 more : Int) (ha : -9223372036854775808 ≤ age ∧ age ≤ 9223372036854775807) (hmo : -9223372036854775808 ≤ more ∧ more ≤ 9223372036854775807) (A0 : Option Addr) (cp : Nat) (ns : List Nw) (w : World) (hT : Tab w) (h0 : kN.C w A0 ns.length ns) (hwf : ∀ x ∈ ns, -9223372036854775808 ≤ x.t ∧ x.t ≤ 9223372036854775807) (hlen : ns.length ≤ 4000000000000) :
    Calls Tryd.prog 6 #[.int .i64 entries, .int .i64 age, .int .i64 fst0, .slice A0 ns.length cp, .int .i64 more] w fun e w' => e = .returned (.bool true) ∧ Below w.heap.size w w' := by
  have HA : Hid (∀ k, k < ns.length → ∃ ad, A0 = some ad ∧ NwAt w ad k (ns.getD k zN)) := Lib.hid fun k hk => nw_at h0 k hk
  have HWF : Hid (∀ k, k < ns.length → -9223372036854775808 ≤ (ns.getD k zN).t ∧ (ns.getD k zN).t ≤ 9223372036854775807) := Lib.hid fun k hk => by
    rw [List.getD_eq_getElem?_getD, List.getElem?_eq_getElem hk]
    exact hwf _ (List.getElem_mem hk)
  have HS0 := Lib.hid (St.tab w hT)
  have HT := Lib.hid hT
  have HAG := Lib.hid (And.intro ha hmo)
  have hbig : ns.length ≤ 9223372036854775807 := by omega
  have HWI := Lib.hid (WI.start entries age fst0)
  have hA1 := (w_rng entries age fst0).2.1.2
  obtain ⟨E, hE⟩ : ∃ E, wE entries = E := ⟨_, rfl⟩
  obtain ⟨A, hA⟩ : ∃ A, wA age = A := ⟨_, rfl⟩
  obtain ⟨first, hF⟩ : ∃ first, wF fst0 = first := ⟨_, rfl⟩
  rw [hE, hA, hF] at HWI
  rw [hA] at hA1
  have HA1 := Lib.hid hA1
  have HEQ := Lib.hid (And.intro hE (And.intro hA hF))
  clear h0 hwf hT ha hmo hlen hE hA hF hA1
  go_enter Tryd.func6, Tryd.ntmps6
  go_wp2_with (first
    | (go_at_call 9; refine (alive_calls _ HT.out).mono ?_; rintro e w1 ⟨rfl, hb1⟩; have HS1 := Lib.hid (HS0.out.below hb1); clear hb1)
    | (go_at_call 16; refine (watch_calls HS1.out entries age fst0 HAG.out.1.1 HAG.out.1.2).mono ?_; rw [HEQ.out.1, HEQ.out.2.1, HEQ.out.2.2]; rintro e w2 ⟨wp, p, b, rfl, hs⟩; have HS2 : Hid (St w w2 (Wat wp p b E A first 0 (.slice none 0 0) [] ⟨E, A, [], 0, 0⟩ [])) := Lib.hid hs; clear hs HS1))
  have HLW : Hid (LoopW E A first 0 ⟨E, A, [], 0, 0⟩ [] 0) := Lib.hid ⟨HWI.out, by simp, Nat.le_refl _⟩
  clear HWI HS0 HEQ
  go_loopw [14] (fun i wr => ∃ (k : Nat) (now : Int) (c : Ca) (hd : List Int) (hv : Value), k ≤ ns.length ∧ k ≤ 4000 ∧ i = .int .i64 k ∧ Hid (LoopW E A first now c hd k) ∧ Hid (St w wr (Wat wp p b E A first now hv hd c []))) (fun i _ => ns.length - (intOf i).toNat)
  case atStart => exact ⟨0, 0, _, [], _, Nat.zero_le _, Nat.zero_le _, rfl, HLW, HS2⟩
  case round =>
    obtain ⟨k, now, c, hd, hv, hk, hk4, rfl, HLW2, HS⟩ := hrel
    clear HLW HS2
    by_cases hin : k < ns.length ∧ k < 4000
    · obtain ⟨hlt, h4⟩ := hin
      have hltz : (k : Int) < (ns.length : Int) := by omega
      have h4z : (k : Int) < 4000 := by omega
      obtain ⟨ad, rfl, hnw⟩ := HA.out k hlt
      have HNW : Hid (∀ W : World, Below w.heap.size w W → NwAt W ad k (ns.getD k zN)) := Lib.hid fun W hb => hnw.below hb
      have HXT := Lib.hid (HWF.out k hlt)
      clear hnw
      generalize ns.getD k zN = x at HNW HXT
      have HK := Lib.hid (And.intro hlt h4)
      have hk0 : (0 : Int) ≤ (k : Int) := by omega
      have hN := HNW.out _ HS.out.bl
      have n0 := hN.n0
      have n1 := hN.n1
      have n2 := hN.n2
      have n3 := hN.n3
      have n4' := hN.n4
      clear hN
      have hnx := nxt_rng now x.t
      have hnow := HLW2.out.n
      have hn0 := HLW2.out.i.n0
      have HNB := Lib.hid (And.intro hn0 (show now ≤ 1000000000000 by omega))
      obtain ⟨nw, hnw⟩ : ∃ nw, nxt now x.t = nw := ⟨_, rfl⟩
      have HNX := Lib.hid hnw
      rcases bits_and1 x.k with hkd | hkd
      · have hkb : (bits .and .i64 x.k 1 == 1) = false := by rw [hkd]; rfl
        clear hkd
        obtain ⟨c', hr, hw', _⟩ := HLW2.out.i.hear (nw := nxt now x.t) hnx.1 (by omega) (dN_rng x.d) x.m x.l
        obtain ⟨f, hf⟩ : ∃ f, decide ((meantS (dstA (dN x.d)) x.m x.l).2 = true ∧ (meantS (dstA (dN x.d)) x.m x.l).1 < estS c.M first (dN x.d)) = f := ⟨_, rfl⟩
        rw [hf] at hr
        have HRR := Lib.hid hr
        rw [hnw] at hw' hnx
        have HLN : Hid (LoopW E A first nw c' hd (k + 1)) := Lib.hid ⟨by have := hw'; exact_mod_cast this, by omega, by have := HLW2.out.h; omega⟩
        clear hr hw' hf hnw hnx hnow hn0
        as_aux_lemma =>
          go_wp2_with (go_at_call 20; refine (c_hears HS.out HLW2.out.i.ok (by have := HLW2.out.i.hr; omega) x HXT.out HNB.out (by have := HLW2.out.h; omega) HRR.out).mono ?_; rw [HNX.out]; rintro e w5 ⟨hv', hd', rfl, hdl, hs⟩; have HS5 := Lib.hid hs; have HDL := Lib.hid hdl; clear hs hdl n0 n1 n2 n3 n4')
          go_roundw
          case rel => exact ⟨k + 1, nw, c', hd', hv', by have := HK.out; omega, by have := HK.out; omega, by go_num, Lib.hid ⟨HLN.out.i, HLN.out.n, by have := HDL.out; have := HLW2.out.h; omega⟩, HS5⟩
          case measure => have := HK.out; simp [intOf]; omega
      · have hkb : (bits .and .i64 x.k 1 == 1) = true := by rw [hkd]; rfl
        clear hkd
        obtain ⟨c', hr, hM, hl5, hw', _⟩ := HLW2.out.i.tick (nw := nxt now x.t) hnx.1 (by omega)
        obtain ⟨L5, hL5⟩ : ∃ L5, tickL c (nxt now x.t) = L5 := ⟨_, rfl⟩
        rw [hnw] at hr hL5 hw' hnx
        have HLN : Hid (LoopW E A first nw c' hd (k + 1)) := Lib.hid ⟨hw'.weak (by omega), by omega, by have := HLW2.out.h; omega⟩
        have HRR := Lib.hid (And.intro hr hL5)
        have k4 : wr.cell? ⟨wp, 4, none⟩ = some (.int .i64 now) := HS.out.cellB 0 rfl 4 rfl
        have f4 : wr.frozen? ⟨wp, 4, none⟩ = false := HS.out.freeB 0 rfl 4
        clear hr hw' hM hl5 hL5 hnw hnx hnow hn0
        as_aux_lemma =>
          go_wp2_with (go_at_call 18; refine (c_later HS.out 0 rfl x.t HXT.out HNB.out).mono ?_; rw [HNX.out]; rintro e w5 ⟨rfl, rfl⟩)
          have HS5 : Hid (St w (w5.setCell ⟨wp, 4, none⟩ (.int .i64 nw)) (Wat wp p b E A first nw hv hd c [])) := Lib.hid (HS.out.setB 0 rfl 4 (.int .i64 nw))
          generalize w5.setCell ⟨wp, 4, none⟩ (.int .i64 nw) = w5' at HS5 ⊢
          clear HS n0 n1 n2 n3 n4' k4 f4
          have HSd := Lib.hid HS5.out.drew
          go_region_held3 (fun W => W.cell? ⟨wp, 0, none⟩ = some (.pointer (some ⟨p, 0, none⟩)) ∧ W.cell? ⟨wp, 4, none⟩ = some (.int .i64 nw)) (first | exact ⟨HS5.out.cellB 0 rfl 0 rfl, HS5.out.cellB 0 rfl 4 rfl⟩ | exact ⟨HSd.out.cellB 0 rfl 0 rfl, HSd.out.cellB 0 rfl 4 rfl⟩ | exact ⟨HSt.out.cellB 0 rfl 0 rfl, HSt.out.cellB 0 rfl 4 rfl⟩)
            (first | (go_at_call 19; refine (c_tickF HSd.out 2 rfl 3 rfl HLW2.out.i.ok HLW2.out.i.ab nw HRR.out.1 HRR.out.2).mono ?_; rintro e wt ⟨A5, n5, rfl, hs⟩; have HSt : Hid (St w wt (Wat wp p b E A first nw hv hd c' [obAd (.slice A5 L5.length n5) L5])) := Lib.hid (St.inW hs); clear hs))
          go_wp2_with fail
          go_roundw
          case rel => exact ⟨k + 1, nw, c', hd, hv, by have := HK.out; omega, by have := HK.out; omega, by go_num, HLN, Lib.hid HSt.out.offW⟩
          case measure => have := HK.out; simp [intOf]; omega
    · have hb1 : (decide ((k : Int) < (ns.length : Int)) && decide ((k : Int) < 4000)) = false := by
        rw [← Bool.decide_and]
        exact decide_eq_false (fun h => hin ⟨by omega, by omega⟩)
      have HLR : Hid (LoopR E A first now c 0) := Lib.hid ⟨HLW2.out.i.weak (by omega), by have := HLW2.out.n; omega, fun x _ => by have := rk_le x.2.est; omega, HA1.out⟩
      clear HLW2
      have hfin : (k : Int) < (ns.length : Int) → ¬ (k : Int) < 4000 := fun h1 h2 => hin ⟨by omega, by omega⟩
      go_wp2_with fail
      all_goals
        go_loopw [20] (fun i wr => ∃ (q : Nat) (now : Int) (c : Ca), q ≤ 12 ∧ i = .int .i64 q ∧ Hid (LoopR E A first now c q) ∧ Hid (St w wr (Wat wp p b E A first now hv hd c []))) (fun i _ => 12 - (intOf i).toNat)
        case atStart => exact ⟨0, _, _, Nat.zero_le _, rfl, HLR, HS⟩
        case round =>
          obtain ⟨q, now, c, hq, rfl, HLR2, HSa⟩ := hrel
          clear HLR HS
          by_cases hq12 : q < 12
          · have hqz : (q : Int) < 12 := by omega
            have HQ := Lib.hid hq12
            have hnx := nxt_rng now more
            have hnow := HLR2.out.n
            have hn0 := HLR2.out.i.n0
            have hA0 : 1 ≤ A := by have := HLR2.out.i.ok.a1; have := HLR2.out.i.a; omega
            have hA1 := HLR2.out.a
            obtain ⟨c', hr, hw', hl5, hest, hrk⟩ := HLR2.out.i.riseAll (nw := nxt now more + A) (by omega) (by omega)
            obtain ⟨wf, hwf⟩ : ∃ wf, estS c.M first = wf := ⟨_, rfl⟩
            obtain ⟨jf, hjf⟩ : ∃ jf, estS c'.M first = jf := ⟨_, rfl⟩
            obtain ⟨L4, hL4⟩ : ∃ L4, ordS (c.M.map (·.1)) = L4 := ⟨_, rfl⟩
            rw [hL4] at hl5 hest
            rw [hwf, hjf] at hest
            have hll : L4.length < 1000000000 := by rw [← hL4, keys_len HLR2.out.i.ok]; have := HLR2.out.i.ok.len; have := HLR2.out.i.ok.e64; omega
            obtain ⟨nx, hnxe⟩ : ∃ nx, nxt now more = nx := ⟨_, rfl⟩
            obtain ⟨nw, hnwe⟩ : ∃ nw, nx + A = nw := ⟨_, rfl⟩
            rw [hnxe] at hnx hr hw' hl5
            rw [hnwe] at hr hw' hl5
            have hwn : wrap64 (nx + A) = nw := by simp only [wrap64]; omega
            have hwn2 : IntKind.i64.wrap (nx + A) = nw := by rw [IntKind.wrap_i64]; omega
            have HLN : Hid (LoopR E A first nw c' (q + 1)) := Lib.hid ⟨hw', by omega, hrk q HLR2.out.r, hA1⟩
            have HNX := Lib.hid hnxe
            have HNB := Lib.hid (And.intro hn0 (show now ≤ 1000000000000 by omega))
            have HRR := Lib.hid hr
            have HFF := Lib.hid hest
            have HLL := Lib.hid (And.intro hll hl5)
            have HMM := Lib.hid (And.intro hwf (And.intro hjf hL4))
            clear hr hw' hl5 hest hrk hwf hjf hL4 hll hnxe hnwe hnx hnow hn0 hA0 hA1
            as_aux_lemma =>
              go_wp2_with (first
                | (refine gate_ (.alloc 49) rfl ?_; go_must (refine wpList_alloc12 HS1.out rfl rfl ?_; intro w2 hs; have HS2 := Lib.hid (St.inW hs); clear hs HS1))
                | (refine gate_ (.store 49 (.tmp 21) (.tmp 100)) rfl ?_; go_must (refine wpList_store_B HS2.out 4 rfl rfl rfl 49 (.tmp 21) (.tmp 100) rfl (estQ wf) rfl rfl (by rw [estQ_size]; exact siz12) (by rw [estQ_size]; rfl) (estQ_one _) ?_; intro w3 hs; have HS3 : Hid (St w w3 (Wat wp p b E A first now hv hd c [obB w1.heap.size (estQ wf) 49])) := Lib.hid hs; have c0 : w3.cell? ⟨wp, 0, none⟩ = some (.pointer (some ⟨p, 0, none⟩)) := hs.cellB 0 rfl 0 rfl; clear hs HS2))
                | (go_at_call 17; (refine (c_wallK HSa.out HLR2.out.i HMM.out.1).mono ?_; rintro e w1 ⟨rfl, hs⟩; have HS1 := Lib.hid hs; clear hs HSa))
                | (go_at_call 14; refine (c_allF HS3.out 2 rfl HLR2.out.i.ok HLR2.out.i.ab HMM.out.2.2).mono ?_; rintro e w4 ⟨A4, n4, rfl, hs⟩; have HS4 : Hid (St w w4 (Wat wp p b E A first now hv hd c [obAd (.slice A4 L4.length n4) L4, obB w1.heap.size (estQ wf) 49])) := Lib.hid (St.inW hs); clear hs c0 HS3))
              have HSd := Lib.hid HS4.out.drew
              have k4 : w4.drew.cell? ⟨wp, 4, none⟩ = some (.int .i64 now) := HSd.out.cellB 0 rfl 4 rfl
              have f4 : w4.drew.frozen? ⟨wp, 4, none⟩ = false := HSd.out.freeB 0 rfl 4
              have HS5 : Hid (St w (w4.drew.setCell ⟨wp, 4, none⟩ (.int .i64 nw)) (Wat wp p b E A first nw hv hd c [obAd (.slice A4 L4.length n4) L4, obB w1.heap.size (estQ wf) 49])) := Lib.hid (HSd.out.setB 0 rfl 4 (.int .i64 nw))
              go_region_held3 (fun W => W.cell? ⟨wp, 2, none⟩ = some (.int .i64 A)) (first | exact HS4.out.cellB 0 rfl 2 rfl | exact HSd.out.cellB 0 rfl 2 rfl | exact HS5.out.cellB 0 rfl 2 rfl)
                (first | (go_at_call 18; refine (c_later HSd.out 0 rfl more HAG.out.2 HNB.out).mono ?_; rw [HNX.out]; rintro e w5 ⟨rfl, rfl⟩))
              all_goals
                have HS6 : Hid (St w (w4.setCell ⟨wp, 4, none⟩ (.int .i64 nw)).drew (Wat wp p b E A first nw hv hd c [obAd (.slice A4 L4.length n4) L4, obB w1.heap.size (estQ wf) 49])) := HS5
                generalize (w4.setCell ⟨wp, 4, none⟩ (.int .i64 nw)).drew = w5 at HS6 ⊢
                clear HS5 HSd HS4 k4 f4
                have HSd := Lib.hid HS6.out.drew
                go_wp2_with fail
                go_region_held3 (fun W => W.cell? ⟨wp, 0, none⟩ = some (.pointer (some ⟨p, 0, none⟩)) ∧ W.cell? ⟨wp, 4, none⟩ = some (.int .i64 nw)) (first | exact ⟨HS6.out.cellB 0 rfl 0 rfl, HS6.out.cellB 0 rfl 4 rfl⟩ | exact ⟨HSd.out.cellB 0 rfl 0 rfl, HSd.out.cellB 0 rfl 4 rfl⟩ | exact ⟨HSt.out.cellB 0 rfl 0 rfl, HSt.out.cellB 0 rfl 4 rfl⟩)
                  (first | (go_at_call 19; refine (c_tickF HSd.out 2 rfl 3 rfl HLR2.out.i.ok HLR2.out.i.ab nw HRR.out HLL.out.2).mono ?_; rintro e wt ⟨A5, n5, rfl, hs⟩; have HSt : Hid (St w wt (Wat wp p b E A first nw hv hd c' [obAd (.slice A5 L4.length n5) L4, obAd (.slice A4 L4.length n4) L4, obB w1.heap.size (estQ wf) 49])) := Lib.hid (St.inW hs); clear hs))
                go_wp2_with (first
                  | (refine gate_ (.alloc 49) rfl ?_; go_must (refine wpList_alloc12 HS7.out rfl rfl ?_; intro w7 hs; have HS8 := Lib.hid (St.inW hs); clear hs HS7))
                  | (refine gate_ (.store 49 (.tmp 25) (.tmp 131)) rfl ?_; go_must (refine wpList_store_B HS8.out 4 rfl rfl rfl 49 (.tmp 25) (.tmp 131) rfl (estQ jf) rfl rfl (by rw [estQ_size]; exact siz12) (by rw [estQ_size]; rfl) (estQ_one _) ?_; intro w8 hs; have HS9 : Hid (St w w8 (Wat wp p b E A first nw hv hd c' [obB w6.heap.size (estQ jf) 49, obAd (.slice A5 L4.length n5) L4, obAd (.slice A4 L4.length n4) L4, obB w1.heap.size (estQ wf) 49])) := Lib.hid hs; clear hs HS8))
                  | (go_at_call 17; refine (c_wallK HSt.out HLN.out.i HMM.out.2.1).mono ?_; rintro e w6 ⟨rfl, hs⟩; have HS7 := Lib.hid hs; clear hs)
                  | (go_at_call 13; refine (c_same HS9.out (HS9.out.rd 5 rfl) (HS9.out.rd 6 rfl) HLL.out.1 (r := true) (by simp)).mono ?_; rintro e w9 ⟨rfl, hs⟩; have HSX : Hid (St w w9 (Wat wp p b E A first nw hv hd c' [obB w6.heap.size (estQ jf) 49, obAd (.slice A5 L4.length n5) L4, obAd (.slice A4 L4.length n4) L4, obB w1.heap.size (estQ wf) 49])) := Lib.hid hs; clear hs HS9))
                clear HSd HSt HS6
                go_loopw [26] (fun s26 wr => ∃ j : Nat, j ≤ 12 ∧ s26 = .int .i64 j ∧ Hid (St w wr (Wat wp p b E A first nw hv hd c' [obB w6.heap.size (estQ jf) 49, obAd (.slice A5 L4.length n5) L4, obAd (.slice A4 L4.length n4) L4, obB w1.heap.size (estQ wf) 49]))) (fun i _ => 12 - (intOf i).toNat)
                case atStart => exact ⟨0, by decide, rfl, HSX⟩
                case round =>
                  obtain ⟨j, hj, rfl, HSb⟩ := hrel
                  clear HSX
                  as_aux_lemma =>
                    by_cases hj12 : j < 12
                    · have hjz : (j : Int) < 12 := by omega
                      have hj0 : (0 : Int) ≤ (j : Int) := by omega
                      have HJ := Lib.hid hj12
                      obtain ⟨r, hr⟩ : ∃ r, decide (dstA (j : Int) ∈ L4) = r := ⟨_, rfl⟩
                      have d1 : decide (jf (j : Int) < wf (j : Int)) = false := decide_eq_false (by have := (HFF.out (j : Int)).1; omega)
                      have d2 : decide (wf (j : Int) < jf (j : Int)) = r := by rw [(HFF.out (j : Int)).2]; exact hr
                      have d3 : decide (jf (j : Int) > wf (j : Int)) = r := d2
                      have d4 : (r != r) = false := by simp
                      have HR := Lib.hid hr
                      clear hr
                      go_wp2_with (first
                        | (go_at_call 22; refine (c_dst HSb.out (j : Int)).mono ?_; rintro e wa ⟨rfl, hs⟩; have HSc := Lib.hid hs; clear hs)
                        | (go_at_call 24; refine (c_told HSc.out (HSc.out.rd 5 rfl) HLL.out.1 (dstA (j : Int)) HR.out).mono ?_; rintro e wb ⟨rfl, hs⟩; have HSe : Hid (St w wb (Wat wp p b E A first nw hv hd c' [obB w6.heap.size (estQ jf) 49, obAd (.slice A5 L4.length n5) L4, obAd (.slice A4 L4.length n4) L4, obB w1.heap.size (estQ wf) 49])) := Lib.hid hs; have qw : wb.cell? ⟨w1.heap.size, j, none⟩ = some (.int .i64 (wf (j : Int))) := hs.cellB 7 rfl j (estQ_get _ j HJ.out); have qj : wb.cell? ⟨w6.heap.size, j, none⟩ = some (.int .i64 (jf (j : Int))) := hs.cellB 4 rfl j (estQ_get _ j HJ.out); clear hs))
                      go_quiet (fail)
                      have HSf : Hid (St w (wb.drewN nq) (Wat wp p b E A first nw hv hd c' [obB w6.heap.size (estQ jf) 49, obAd (.slice A5 L4.length n5) L4, obAd (.slice A4 L4.length n4) L4, obB w1.heap.size (estQ wf) 49])) := Lib.hid (HSe.out.drewN nq)
                      generalize wb.drewN nq = wz at HSf ⊢
                      clear qw qj HSe
                      go_wp2_with fail
                      go_roundw
                      case rel => exact ⟨j + 1, by have := HJ.out; omega, by go_num, HSf⟩
                      case measure => have := HJ.out; simp [intOf]; omega
                    · have hjz : ¬ (j : Int) < 12 := by omega
                      clear hj hj12
                      go_wp2_with fail
                      go_roundw
                      case rel => exact ⟨q + 1, nw, c', by have := HQ.out; omega, by go_num, HLN, Lib.hid HSb.out.offW.offW.offW.offW⟩
                      case measure => have := HQ.out; simp [intOf]; omega
          · have hqz : ¬ (q : Int) < 12 := by omega
            obtain rfl : q = 12 := by omega
            have hM := HLR2.out.i.rkEnd HLR2.out.r
            obtain ⟨wf, hwf⟩ : ∃ wf, estS c.M first = wf := ⟨_, rfl⟩
            have hfirst : ∀ j, wf j = first := fun j => by rw [← hwf, HLR2.out.i.est, hM]; rfl
            have hL : ordS (c.M.map (·.1)) = [] := by rw [hM]; rfl
            have HMM := Lib.hid (And.intro hwf (And.intro hfirst hL))
            clear hq hq12 hM hwf hfirst hL
            as_aux_lemma =>
              go_wp2_with (first
                | (refine gate_ (.alloc 49) rfl ?_; go_must (refine wpList_alloc12 HS1.out rfl rfl ?_; intro w2 hs; have HS2 := Lib.hid (St.inW hs); clear hs HS1))
                | (refine gate_ (.store 49 (.tmp 28) (.tmp 167)) rfl ?_; go_must (refine wpList_store_B HS2.out 4 rfl rfl rfl 49 (.tmp 28) (.tmp 167) rfl (estQ wf) rfl rfl (by rw [estQ_size]; exact siz12) (by rw [estQ_size]; rfl) (estQ_one _) ?_; intro w3 hs; have HS3 : Hid (St w w3 (Wat wp p b E A first now hv hd c [obB w1.heap.size (estQ wf) 49])) := Lib.hid hs; clear hs HS2))
                | (go_at_call 17; (refine (c_wallK HSa.out HLR2.out.i HMM.out.1).mono ?_; rintro e w1 ⟨rfl, hs⟩; have HS1 := Lib.hid hs; clear hs HSa)))
              go_loopw [29] (fun s29 wr => ∃ j : Nat, j ≤ 12 ∧ s29 = .int .i64 j ∧ Hid (St w wr (Wat wp p b E A first now hv hd c [obB w1.heap.size (estQ wf) 49]))) (fun i _ => 12 - (intOf i).toNat)
              case atStart => exact ⟨0, by decide, rfl, HS3⟩
              case round =>
                obtain ⟨j, hj, rfl, HSb⟩ := hrel
                clear HS3
                by_cases hj12 : j < 12
                · have hjz : (j : Int) < 12 := by omega
                  have hj0 : (0 : Int) ≤ (j : Int) := by omega
                  have HJ := Lib.hid hj12
                  have d1 : (wf (j : Int) != first) = false := by rw [HMM.out.2.1 (j : Int)]; simp
                  have qw : wr.cell? ⟨w1.heap.size, j, none⟩ = some (.int .i64 (wf (j : Int))) := HSb.out.cellB 4 rfl j (estQ_get _ j hj12)
                  have qF : wr.cell? ⟨wp, 3, none⟩ = some (.int .i64 first) := HSb.out.cellB 0 rfl 3 rfl
                  go_wp2_with fail
                  go_quiet (fail)
                  have HSf : Hid (St w (wr.drewN nq) (Wat wp p b E A first now hv hd c [obB w1.heap.size (estQ wf) 49])) := Lib.hid (HSb.out.drewN nq)
                  generalize wr.drewN nq = wz at HSf ⊢
                  clear qw qF
                  go_wp2_with fail
                  go_roundw
                  case rel => exact ⟨j + 1, by have := HJ.out; omega, by go_num, HSf⟩
                  case measure => have := HJ.out; simp [intOf]; omega
                · have hjz : ¬ (j : Int) < 12 := by omega
                  have q0 : wr.cell? ⟨wp, 0, none⟩ = some (.pointer (some ⟨p, 0, none⟩)) := HSb.out.cellB 0 rfl 0 rfl
                  clear hj hj12
                  go_wp2_with (go_at_call 14; refine (c_allF HSb.out 2 rfl HLR2.out.i.ok HLR2.out.i.ab HMM.out.2.2).mono ?_; rintro e w4 ⟨A4, n4, rfl, hs⟩; have HS4 := Lib.hid hs; clear hs)
                  go_ret
                  exact ⟨rfl, HS4.out.bl⟩
end Go.Proofs.YtdinkhhaomblcaaDoor.SL
