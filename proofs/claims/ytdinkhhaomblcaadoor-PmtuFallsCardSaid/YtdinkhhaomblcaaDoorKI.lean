/- The walk of the statement PmtuFalls. No condition but sizes and that the table stands in its variable. -/
import Derived.Test.YtdinkhhaomblcaaDoorKN
namespace Go.Proofs.YtdinkhhaomblcaaDoor.SL
open Go.RowKit Go.Proofs.YtdinkhhaomblcaaDoorW.PrintWords Go.Proofs.YtdinkhhaomblcaaDoorW.PrintLast Go.Proofs.YtdinkhhaomblcaaDoorW.PrintMore
theorem bits_and1 (s : Int) : bits .and .i64 s 1 = 0 ∨ bits .and .i64 s 1 = 1 := by
  have h : ((BitVec.ofInt 64 s &&& BitVec.ofInt 64 1).toNat) ≤ 1 := by
    rw [BitVec.toNat_and]
    exact Nat.and_le_right
  have e : bits .and .i64 s 1 = ((BitVec.ofInt 64 s &&& BitVec.ofInt 64 1).toNat : Int) := by
    show IntKind.i64.wrap ((BitVec.ofInt 64 s &&& BitVec.ofInt 64 1).toNat : Int) = _
    rw [IntKind.wrap_i64]
    omega
  rw [e]
  omega
/-- Between the rounds. -/
structure LoopW (E A first now : Int) (c : Ca) (hd : List Int) (k : Nat) : Prop where
  i : WI E A first now c k
  n : now ≤ 5000 * (k : Int)
  h : hd.length ≤ k
theorem keys_len {c : Ca} (h : OkC c) : (ordS (c.M.map (·.1))).length = c.M.length := by
  rw [(ordS_spec h.nd).2.length_eq, List.length_map]
set_option maxHeartbeats 16000000 in
set_option maxRecDepth 100000 in
theorem falls_calls (entries age fst0 : Int) (ha : -9223372036854775808 ≤ age ∧ age ≤ 9223372036854775807) (A0 : Option Addr) (cp : Nat) (ns : List Nw) (w : World) (hT : Tab w) (h0 : kN.C w A0 ns.length ns) (hwf : ∀ x ∈ ns, -9223372036854775808 ≤ x.t ∧ x.t ≤ 9223372036854775807) (hlen : ns.length ≤ 4000000000000) :
    Calls Tryd.prog 4 #[.int .i64 entries, .int .i64 age, .int .i64 fst0, .slice A0 ns.length cp] w fun e w' => e = .returned (.bool true) ∧ Below w.heap.size w w' := by
  have HA : Hid (∀ k, k < ns.length → ∃ ad, A0 = some ad ∧ NwAt w ad k (ns.getD k zN)) := Lib.hid fun k hk => nw_at h0 k hk
  have HWF : Hid (∀ k, k < ns.length → -9223372036854775808 ≤ (ns.getD k zN).t ∧ (ns.getD k zN).t ≤ 9223372036854775807) := Lib.hid fun k hk => by
    rw [List.getD_eq_getElem?_getD, List.getElem?_eq_getElem hk]
    exact hwf _ (List.getElem_mem hk)
  have HS0 := Lib.hid (St.tab w hT)
  have HT := Lib.hid hT
  have HAG := Lib.hid ha
  have hbig : ns.length ≤ 9223372036854775807 := by omega
  have HWI := Lib.hid (WI.start entries age fst0)
  obtain ⟨E, hE⟩ : ∃ E, wE entries = E := ⟨_, rfl⟩
  obtain ⟨A, hA⟩ : ∃ A, wA age = A := ⟨_, rfl⟩
  obtain ⟨first, hF⟩ : ∃ first, wF fst0 = first := ⟨_, rfl⟩
  rw [hE, hA, hF] at HWI
  have HEQ := Lib.hid (And.intro hE (And.intro hA hF))
  clear h0 hwf hT ha hlen hE hA hF
  go_enter Tryd.func4, Tryd.ntmps4
  go_wp2_with (first
    | (go_at_call 9; refine (alive_calls _ HT.out).mono ?_; rintro e w1 ⟨rfl, hb1⟩; have HS1 := Lib.hid (HS0.out.below hb1); clear hb1)
    | (go_at_call 16; refine (watch_calls HS1.out entries age fst0 HAG.out.1 HAG.out.2).mono ?_; rw [HEQ.out.1, HEQ.out.2.1, HEQ.out.2.2]; rintro e w2 ⟨wp, p, b, rfl, hs⟩; have HS2 : Hid (St w w2 (Wat wp p b E A first 0 (.slice none 0 0) [] ⟨E, A, [], 0, 0⟩ [])) := Lib.hid hs; clear hs HS1))
  have HLW : Hid (LoopW E A first 0 ⟨E, A, [], 0, 0⟩ [] 0) := Lib.hid ⟨HWI.out, by simp, Nat.le_refl _⟩
  clear HWI HS0 HEQ HAG
  go_loopw [12] (fun i wr => ∃ (k : Nat) (now : Int) (c : Ca) (hd : List Int) (hv : Value), k ≤ ns.length ∧ k ≤ 4000 ∧ i = .int .i64 k ∧ Hid (LoopW E A first now c hd k) ∧ Hid (St w wr (Wat wp p b E A first now hv hd c []))) (fun i _ => ns.length - (intOf i).toNat)
  case atStart => exact ⟨0, 0, _, [], _, Nat.zero_le _, Nat.zero_le _, rfl, HLW, HS2⟩
  case round =>
    obtain ⟨k, now, c, hd, hv, hk, hk4, rfl, HLW2, HS⟩ := hrel
    clear HLW HS2
    by_cases hlt : k < ns.length
    · have hltz : (k : Int) < (ns.length : Int) := by omega
      by_cases h4 : k < 4000
      · have h4z : (k : Int) < 4000 := by omega
        obtain ⟨ad, rfl, hnw⟩ := HA.out k hlt
        have HNW : Hid (∀ W : World, Below w.heap.size w W → NwAt W ad k (ns.getD k zN)) := Lib.hid fun W hb => hnw.below hb
        have HXT := Lib.hid (HWF.out k hlt)
        clear hnw
        generalize ns.getD k zN = x at HNW HXT
        have HK := Lib.hid (And.intro hlt h4)
        have hk0 : (0 : Int) ≤ (k : Int) := by omega
        rcases bits_and1 x.k with hkd | hkd
        · have hkb : (bits .and .i64 x.k 1 == 1) = false := by rw [hkd]; rfl
          clear hkd
          -- what is heard
          have hnx := nxt_rng now x.t
          have hnow := HLW2.out.n
          have hn0 := HLW2.out.i.n0
          obtain ⟨c', hr, hw', hM⟩ := HLW2.out.i.hear (nw := nxt now x.t) hnx.1 (by omega) (dN_rng x.d) x.m x.l
          obtain ⟨m, hm, hm12⟩ : ∃ m : Nat, dN x.d = (m : Int) ∧ m < 12 := ⟨(dN x.d).toNat, by have := dN_rng x.d; omega, by have := dN_rng x.d; omega⟩
          obtain ⟨hff, hme⟩ := fall_spec HLW2.out.i hw' (dN_rng x.d) hM
          have hmt : (meantS (dstA (dN x.d)) x.m x.l).2 = true ∧ (meantS (dstA (dN x.d)) x.m x.l).1 < estS c.M first (dN x.d) → meant2S (dstA (dN x.d)) x.m x.l (estS c'.M first (dN x.d)) = true := fun h => by
            rw [hme h]; exact meant2_true _ _ _
          have hcc : OkC c' := hw'.ok
          obtain ⟨f, hf⟩ : ∃ f, decide ((meantS (dstA (dN x.d)) x.m x.l).2 = true ∧ (meantS (dstA (dN x.d)) x.m x.l).1 < estS c.M first (dN x.d)) = f := ⟨_, rfl⟩
          have hmt2 : f = true → meant2S (dstA (m : Int)) x.m x.l (estS c'.M first (m : Int)) = true := fun h => by
            rw [← hm]; exact hmt (of_decide_eq_true (hf.trans h))
          rw [hf] at hr hff
          have HRR := Lib.hid hr
          have HDN := Lib.hid hm
          rw [hm] at hff
          obtain ⟨wf, hwf⟩ : ∃ wf, estS c.M first = wf := ⟨_, rfl⟩
          obtain ⟨jf, hjf⟩ : ∃ jf, estS c'.M first = jf := ⟨_, rfl⟩
          rw [hwf, hjf] at hff
          rw [hjf] at hmt2
          obtain ⟨L4, hL4⟩ : ∃ L4, ordS (c.M.map (·.1)) = L4 := ⟨_, rfl⟩
          obtain ⟨L5, hL5⟩ : ∃ L5, ordS (c'.M.map (·.1)) = L5 := ⟨_, rfl⟩
          have hl4 : L4.length = c.M.length := by rw [← hL4]; exact keys_len HLW2.out.i.ok
          have hl5 : (L5.length : Int) ≤ E := by rw [← hL5, keys_len hcc]; have := hcc.len; have := hw'.e; omega
          rw [← hl4] at hff
          have hlw : LoopW E A first (nxt now x.t) c' hd (k + 1) := ⟨by have := hw'; exact_mod_cast this, by omega, by have := HLW2.out.h; omega⟩
          obtain ⟨nw, hnw⟩ : ∃ nw, nxt now x.t = nw := ⟨_, rfl⟩
          have HNX := Lib.hid hnw
          rw [hnw] at hlw
          have HLN := Lib.hid hlw
          have HNB := Lib.hid (And.intro hn0 (show now ≤ 1000000000000 by omega))
          have hgt : decide ((L5.length : Int) > E) = false := decide_eq_false (by omega)
          have HFF := Lib.hid hff
          have HMT := Lib.hid hmt2
          have HMM := Lib.hid (And.intro hm12 (And.intro hwf (And.intro hjf (And.intro hL4 hL5))))
          clear hr hw' hM hff hme hmt hmt2 hwf hjf hL4 hL5 hl4 hl5 hlw hnw hcc hf hm hnx hnow hn0 hm12
          as_aux_lemma =>
            go_wp2_with (first
              | (refine gate_ (.alloc 49) rfl ?_; first | (refine wpList_alloc12 HS6.out rfl rfl ?_; intro w7 hs; have HS7 := Lib.hid (St.inW hs); clear hs HS6) | (refine wpList_alloc12 HS1.out rfl rfl ?_; intro w2 hs; have HS2 := Lib.hid (St.inW hs); clear hs HS1))
              | (refine gate_ (.store 49 (.tmp 13) (.tmp 48)) rfl ?_; go_must (refine wpList_store_B HS2.out 4 rfl rfl rfl 49 (.tmp 13) (.tmp 48) rfl (estQ wf) rfl rfl (by rw [estQ_size]; exact siz12) (by rw [estQ_size]; rfl) (estQ_one _) ?_; intro w3 hs; have HS3 : Hid (St w w3 (Wat wp p b E A first now hv hd c [obB w1.heap.size (estQ wf) 49])) := Lib.hid hs; have c0 : w3.cell? ⟨wp, 0, none⟩ = some (.pointer (some ⟨p, 0, none⟩)) := hs.cellB 0 rfl 0 rfl; clear hs HS2))
              | (refine gate_ (.store 49 (.tmp 22) (.tmp 117)) rfl ?_; go_must (refine wpList_store_B HS7.out 4 rfl rfl rfl 49 (.tmp 22) (.tmp 117) rfl (estQ jf) rfl rfl (by rw [estQ_size]; exact siz12) (by rw [estQ_size]; rfl) (estQ_one _) ?_; intro w8 hs; have HS8 := Lib.hid hs; clear hs HS7))
              | (go_at_call 17; first
                  | (refine (c_wallK HS5.out HLN.out.i HMM.out.2.2.1).mono ?_; rintro e w6 ⟨rfl, hs⟩; have HS6 := Lib.hid hs; clear hs HS5)
                  | (refine (c_wallK HS.out HLW2.out.i HMM.out.2.1).mono ?_; rintro e w1 ⟨rfl, hs⟩; have HS1 := Lib.hid hs; clear hs HS))
              | (go_at_call 14; refine (c_allF HS3.out 2 rfl HLW2.out.i.ok HLW2.out.i.ab HMM.out.2.2.2.1).mono ?_; rintro e w4 ⟨A4, n4, rfl, hs⟩; have HS4 := Lib.hid (St.inW hs); have hN := HNW.out _ hs.bl; have n0 := hN.n0; have n1 := hN.n1; have n2 := hN.n2; have n3 := hN.n3; have n4' := hN.n4; clear hs hN c0 HS3)
              | (go_at_call 20; refine (c_hears HS4.out HLW2.out.i.ok (by have := HLW2.out.i.hr; omega) x HXT.out HNB.out (by have := HLW2.out.h; omega) HRR.out).mono ?_; rw [HDN.out, HNX.out]; rintro e w5 ⟨hv', hd', rfl, hdl, hs⟩; have HS5 := Lib.hid hs; have HDL := Lib.hid hdl; clear hs hdl n0 n1 n2 n3 n4' HS4))
            have HS8' : Hid (St w w8 (Wat wp p b E A first nw hv' hd' c' [obB w6.heap.size (estQ jf) 49, obAd (.slice A4 L4.length n4) L4, obB w1.heap.size (estQ wf) 49])) := HS8
            have HSd := Lib.hid HS8'.out.drew
            go_region_held3 (fun W => W.cell? ⟨wp, 0, none⟩ = some (.pointer (some ⟨p, 0, none⟩)) ∧ W.cell? ⟨wp, 1, none⟩ = some (.int .i64 E)) (first | exact ⟨HS8'.out.cellB 0 rfl 0 rfl, HS8'.out.cellB 0 rfl 1 rfl⟩ | exact ⟨HSd.out.cellB 0 rfl 0 rfl, HSd.out.cellB 0 rfl 1 rfl⟩ | exact ⟨HS9.out.cellB 0 rfl 0 rfl, HS9.out.cellB 0 rfl 1 rfl⟩)
              (first | (go_at_call 14; refine (c_allF HSd.out 2 rfl HLN.out.i.ok HLN.out.i.ab HMM.out.2.2.2.2).mono ?_; rintro e w9 ⟨A5, n5, rfl, hs⟩; have HS9 : Hid (St w w9 (Wat wp p b E A first nw hv' hd' c' [obAd (.slice A5 L5.length n5) L5, obB w6.heap.size (estQ jf) 49, obAd (.slice A4 L4.length n4) L4, obB w1.heap.size (estQ wf) 49])) := Lib.hid (St.inW hs); clear hs))
            go_wp2_with fail
            clear HSd HS8' HS8
            have hm12 : m < 12 := HMM.out.1
            have hm0 : (0 : Int) ≤ (m : Int) := by omega
            have hmz : (m : Int) < 12 := by omega
            go_loopw [23, 24] (fun s23 s24 wr => ∃ j : Nat, j ≤ 12 ∧ s24 = .int .i64 j ∧ s23 = .int .i64 (pz m wf jf j) ∧ Hid (St w wr (Wat wp p b E A first nw hv' hd' c' [obAd (.slice A5 L5.length n5) L5, obB w6.heap.size (estQ jf) 49, obAd (.slice A4 L4.length n4) L4, obB w1.heap.size (estQ wf) 49]))) (fun _ i _ => 12 - (intOf i).toNat)
            case atStart => exact ⟨0, by decide, rfl, rfl, HS9⟩
            case round =>
              as_aux_lemma =>
                obtain ⟨j, hj, rfl, rfl, HSa⟩ := hrel
                clear HS9
                by_cases hj12 : j < 12
                · have hjz : (j : Int) < 12 := by omega
                  have HJ := Lib.hid hj12
                  have hj0 : (0 : Int) ≤ (j : Int) := by omega
                  have qw : wr.cell? ⟨w1.heap.size, j, none⟩ = some (.int .i64 (wf (j : Int))) := HSa.out.cellB 7 rfl j (estQ_get _ j hj12)
                  have qj : wr.cell? ⟨w6.heap.size, j, none⟩ = some (.int .i64 (jf (j : Int))) := HSa.out.cellB 5 rfl j (estQ_get _ j hj12)
                  have qm : wr.cell? ⟨w1.heap.size, m, none⟩ = some (.int .i64 (wf (m : Int))) := HSa.out.cellB 7 rfl m (estQ_get _ m hm12)
                  have qE : wr.cell? ⟨wp, 1, none⟩ = some (.int .i64 E) := HSa.out.cellB 0 rfl 1 rfl
                  have qF : wr.cell? ⟨wp, 3, none⟩ = some (.int .i64 first) := HSa.out.cellB 0 rfl 3 rfl
                  have hpz : 0 ≤ pz m wf jf j ∧ pz m wf jf j ≤ 1 := pz_le j (fun a b h1 h2 h3 h4 => by
                    have := HFF.out.p4 a b (by omega) (by omega) (by omega) (by omega) h3.1 h4.1 h3.2 h4.2
                    omega)
                  obtain ⟨hz0, hz1⟩ := hpz
                  have hst : pz m wf jf (j + 1) = pz m wf jf j + if (j : Int) ≠ (m : Int) ∧ jf j ≠ wf j then 1 else 0 := rfl
                  have d1 : decide (wf (j : Int) < 0) = false := decide_eq_false (by have := (HFF.out.p0 j hj0 hjz).1; omega)
                  have d2 : decide (jf (j : Int) < 0) = false := decide_eq_false (by have := (HFF.out.p0 j hj0 hjz).2; omega)
                  by_cases hjm : j = m
                  · subst hjm
                    have e1 : ((j : Int) == (j : Int)) = true := by simp
                    have e2 : ((j : Int) != (j : Int)) = false := by simp
                    have d3 : decide (jf (j : Int) < wf (j : Int)) = f := HFF.out.p1.1
                    have d4 : decide (jf (j : Int) > wf (j : Int)) = false := decide_eq_false (by have := HFF.out.p1.2; omega)
                    have hst2 : pz j wf jf (j + 1) = pz j wf jf j := by rw [hst, if_neg (fun h => h.1 rfl)]; omega
                    have HST := Lib.hid hst2
                    generalize pz j wf jf j = pj at HST hz0 hz1 ⊢
                    clear hst hst2
                    as_aux_lemma =>
                      go_wp2_with fail
                      go_quiet (fail)
                      have HSb : Hid (St w (wr.drewN nq) (Wat wp p b E A first nw hv' hd' c' [obAd (.slice A5 L5.length n5) L5, obB w6.heap.size (estQ jf) 49, obAd (.slice A4 L4.length n4) L4, obB w1.heap.size (estQ wf) 49])) := Lib.hid (HSa.out.drewN nq)
                      generalize wr.drewN nq = wrz at HSb ⊢
                      clear qw qj qm qE qF
                      go_wp2_with fail
                      go_quiet (fail)
                      have HSc : Hid (St w (wrz.drewN nq) (Wat wp p b E A first nw hv' hd' c' [obAd (.slice A5 L5.length n5) L5, obB w6.heap.size (estQ jf) 49, obAd (.slice A4 L4.length n4) L4, obB w1.heap.size (estQ wf) 49])) := Lib.hid (HSb.out.drewN nq)
                      generalize wrz.drewN nq = wy at HSc ⊢
                      go_wp2_with fail
                      go_roundw
                      case rel => exact ⟨j + 1, by have := HJ.out; omega, by go_num, by rw [HST.out], HSc⟩
                      case measure => have := HJ.out; simp [intOf]; omega
                  · have hjmz : (j : Int) ≠ (m : Int) := by omega
                    have e1 : ((j : Int) == (m : Int)) = false := by simpa using hjmz
                    have e2 : ((j : Int) != (m : Int)) = true := by simpa using hjmz
                    have d3 : decide (jf (j : Int) < wf (j : Int)) = false := decide_eq_false (by have := HFF.out.p2 j hj0 hjz hjmz; omega)
                    by_cases hch : jf (j : Int) = wf (j : Int)
                    · have d5 : (jf (j : Int) != wf (j : Int)) = false := by simpa using hch
                      have hst2 : pz m wf jf (j + 1) = pz m wf jf j := by rw [hst, if_neg (fun h => h.2 hch)]; omega
                      have HST := Lib.hid hst2
                      generalize pz m wf jf j = pj at HST hz0 hz1 ⊢
                      clear hst hst2 hjm hjmz hch
                      as_aux_lemma =>
                        go_wp2_with fail
                        go_quiet (fail)
                        have HSb : Hid (St w (wr.drewN nq) (Wat wp p b E A first nw hv' hd' c' [obAd (.slice A5 L5.length n5) L5, obB w6.heap.size (estQ jf) 49, obAd (.slice A4 L4.length n4) L4, obB w1.heap.size (estQ wf) 49])) := Lib.hid (HSa.out.drewN nq)
                        generalize wr.drewN nq = wrz at HSb ⊢
                        clear qw qj qm qE qF
                        have qw : wrz.cell? ⟨w1.heap.size, j, none⟩ = some (.int .i64 (wf (j : Int))) := HSb.out.cellB 7 rfl j (estQ_get _ j HJ.out)
                        have qj : wrz.cell? ⟨w6.heap.size, j, none⟩ = some (.int .i64 (jf (j : Int))) := HSb.out.cellB 5 rfl j (estQ_get _ j HJ.out)
                        have qm : wrz.cell? ⟨w1.heap.size, m, none⟩ = some (.int .i64 (wf (m : Int))) := HSb.out.cellB 7 rfl m (estQ_get _ m HMM.out.1)
                        have qE : wrz.cell? ⟨wp, 1, none⟩ = some (.int .i64 E) := HSb.out.cellB 0 rfl 1 rfl
                        have qF : wrz.cell? ⟨wp, 3, none⟩ = some (.int .i64 first) := HSb.out.cellB 0 rfl 3 rfl
                        go_wp2_with fail
                        go_quiet (fail)
                        have HSc : Hid (St w (wrz.drewN nq) (Wat wp p b E A first nw hv' hd' c' [obAd (.slice A5 L5.length n5) L5, obB w6.heap.size (estQ jf) 49, obAd (.slice A4 L4.length n4) L4, obB w1.heap.size (estQ wf) 49])) := Lib.hid (HSb.out.drewN nq)
                        generalize wrz.drewN nq = wy at HSc ⊢
                        clear qw qj qm qE qF
                        go_wp2_with fail
                        go_roundw
                        case rel => exact ⟨j + 1, by have := HJ.out; omega, by go_num, by rw [HST.out], HSc⟩
                        case measure => have := HJ.out; simp [intOf]; omega
                    · have d5 : (jf (j : Int) != wf (j : Int)) = true := by simpa using hch
                      obtain ⟨hft, hjF, hLE, hwF⟩ := HFF.out.p3 j hj0 hjz hjmz hch
                      have d6 : (jf (j : Int) != first) = false := by simpa using hjF
                      have d7 : ((L4.length : Int) != E) = false := by simpa using hLE
                      have d8 : (wf (m : Int) != first) = false := by simpa using hwF
                      subst hft
                      have hst2 : pz m wf jf (j + 1) = pz m wf jf j + 1 := by rw [hst, if_pos ⟨hjmz, hch⟩]
                      have HST := Lib.hid hst2
                      generalize pz m wf jf j = pj at HST hz0 hz1 ⊢
                      clear hst hst2 hjm hjmz hch hjF hLE hwF
                      as_aux_lemma =>
                        go_wp2_with fail
                        go_quiet (fail)
                        have HSb : Hid (St w (wr.drewN nq) (Wat wp p b E A first nw hv' hd' c' [obAd (.slice A5 L5.length n5) L5, obB w6.heap.size (estQ jf) 49, obAd (.slice A4 L4.length n4) L4, obB w1.heap.size (estQ wf) 49])) := Lib.hid (HSa.out.drewN nq)
                        generalize wr.drewN nq = wrz at HSb ⊢
                        clear qw qj qm qE qF
                        have qw : wrz.cell? ⟨w1.heap.size, j, none⟩ = some (.int .i64 (wf (j : Int))) := HSb.out.cellB 7 rfl j (estQ_get _ j HJ.out)
                        have qj : wrz.cell? ⟨w6.heap.size, j, none⟩ = some (.int .i64 (jf (j : Int))) := HSb.out.cellB 5 rfl j (estQ_get _ j HJ.out)
                        have qm : wrz.cell? ⟨w1.heap.size, m, none⟩ = some (.int .i64 (wf (m : Int))) := HSb.out.cellB 7 rfl m (estQ_get _ m HMM.out.1)
                        have qE : wrz.cell? ⟨wp, 1, none⟩ = some (.int .i64 E) := HSb.out.cellB 0 rfl 1 rfl
                        have qF : wrz.cell? ⟨wp, 3, none⟩ = some (.int .i64 first) := HSb.out.cellB 0 rfl 3 rfl
                        go_wp2_with fail
                        go_quiet (fail)
                        have HSc : Hid (St w (wrz.drewN nq) (Wat wp p b E A first nw hv' hd' c' [obAd (.slice A5 L5.length n5) L5, obB w6.heap.size (estQ jf) 49, obAd (.slice A4 L4.length n4) L4, obB w1.heap.size (estQ wf) 49])) := Lib.hid (HSb.out.drewN nq)
                        generalize wrz.drewN nq = wy at HSc ⊢
                        clear qw qj qm qE qF
                        have qw : wy.cell? ⟨w1.heap.size, j, none⟩ = some (.int .i64 (wf (j : Int))) := HSc.out.cellB 7 rfl j (estQ_get _ j HJ.out)
                        have qj : wy.cell? ⟨w6.heap.size, j, none⟩ = some (.int .i64 (jf (j : Int))) := HSc.out.cellB 5 rfl j (estQ_get _ j HJ.out)
                        have qm : wy.cell? ⟨w1.heap.size, m, none⟩ = some (.int .i64 (wf (m : Int))) := HSc.out.cellB 7 rfl m (estQ_get _ m HMM.out.1)
                        have qE : wy.cell? ⟨wp, 1, none⟩ = some (.int .i64 E) := HSc.out.cellB 0 rfl 1 rfl
                        have qF : wy.cell? ⟨wp, 3, none⟩ = some (.int .i64 first) := HSc.out.cellB 0 rfl 3 rfl
                        go_wp2_with fail
                        go_quiet (fail)
                        have HSe : Hid (St w (wy.drewN nq) (Wat wp p b E A first nw hv' hd' c' [obAd (.slice A5 L5.length n5) L5, obB w6.heap.size (estQ jf) 49, obAd (.slice A4 L4.length n4) L4, obB w1.heap.size (estQ wf) 49])) := Lib.hid (HSc.out.drewN nq)
                        generalize wy.drewN nq = wx at HSe ⊢
                        clear qw qj qm qE qF
                        go_wp2_with fail
                        go_roundw
                        case rel => exact ⟨j + 1, by have := HJ.out; omega, by go_num, by rw [HST.out], HSe⟩
                        case measure => have := HJ.out; simp [intOf]; omega
                · have hjz : ¬ (j : Int) < 12 := by omega
                  as_aux_lemma =>
                    obtain rfl : j = 12 := by omega
                    clear hj hj12
                    have hpz : pz m wf jf 12 ≤ 1 := (pz_le 12 (fun a b h1 h2 h3 h4 => by
                      have := HFF.out.p4 a b (by omega) (by omega) (by omega) (by omega) h3.1 h4.1 h3.2 h4.2
                      omega)).2
                    have d1 : decide (pz m wf jf 12 > 1) = false := decide_eq_false (by omega)
                    generalize pz m wf jf 12 = pj at d1 ⊢
                    clear hpz
                    cases f with
                    | false =>
                      as_aux_lemma =>
                        go_wp2_with fail
                        go_quiet (fail)
                        have HSc : Hid (St w (wr.drewN nq) (Wat wp p b E A first nw hv' hd' c' [obAd (.slice A5 L5.length n5) L5, obB w6.heap.size (estQ jf) 49, obAd (.slice A4 L4.length n4) L4, obB w1.heap.size (estQ wf) 49])) := Lib.hid (HSa.out.drewN nq)
                        generalize wr.drewN nq = wy at HSc ⊢
                        go_wp2_with fail
                        go_roundw
                        case rel => exact ⟨k + 1, nw, c', hd', hv', by have := HK.out; omega, by have := HK.out; omega, by go_num, Lib.hid ⟨HLN.out.i, HLN.out.n, by have := HDL.out; have := HLW2.out.h; omega⟩, Lib.hid (HSc.out.offW.offW.offW.offW)⟩
                        case measure => have := HK.out; simp [intOf]; omega
                    | true =>
                      as_aux_lemma =>
                        have HSd := Lib.hid HSa.out.drew
                        go_wp2_with fail
                        go_region_held3 (fun W => W.cell? (ad.add (k * 5)) = some (.int .i64 x.k) ∧ W.cell? ⟨(ad.add (k * 5)).block, (ad.add (k * 5)).off + 1, none⟩ = some (.int .i64 x.d) ∧ W.cell? ⟨(ad.add (k * 5)).block, (ad.add (k * 5)).off + 2, none⟩ = some (.int .i64 x.m) ∧ W.cell? ⟨(ad.add (k * 5)).block, (ad.add (k * 5)).off + 3, none⟩ = some (.int .i64 x.l) ∧ W.cell? ⟨(ad.add (k * 5)).block, (ad.add (k * 5)).off + 4, none⟩ = some (.int .i64 x.t) ∧ W.cell? ⟨w6.heap.size, m, none⟩ = some (.int .i64 (jf (m : Int)))) (first | exact ⟨(HNW.out _ HSa.out.bl).n0, (HNW.out _ HSa.out.bl).n1, (HNW.out _ HSa.out.bl).n2, (HNW.out _ HSa.out.bl).n3, (HNW.out _ HSa.out.bl).n4, HSa.out.cellB 5 rfl m (estQ_get _ m HMM.out.1)⟩ | exact ⟨(HNW.out _ HSd.out.bl).n0, (HNW.out _ HSd.out.bl).n1, (HNW.out _ HSd.out.bl).n2, (HNW.out _ HSd.out.bl).n3, (HNW.out _ HSd.out.bl).n4, HSd.out.cellB 5 rfl m (estQ_get _ m HMM.out.1)⟩ | exact ⟨(HNW.out _ HSe.out.bl).n0, (HNW.out _ HSe.out.bl).n1, (HNW.out _ HSe.out.bl).n2, (HNW.out _ HSe.out.bl).n3, (HNW.out _ HSe.out.bl).n4, HSe.out.cellB 5 rfl m (estQ_get _ m HMM.out.1)⟩ | exact ⟨(HNW.out _ HSf.out.bl).n0, (HNW.out _ HSf.out.bl).n1, (HNW.out _ HSf.out.bl).n2, (HNW.out _ HSf.out.bl).n3, (HNW.out _ HSf.out.bl).n4, HSf.out.cellB 5 rfl m (estQ_get _ m HMM.out.1)⟩)
                          (first
                            | (go_at_call 22; refine (c_dst HSd.out (m : Int)).mono ?_; rintro e wa ⟨rfl, hs⟩; have HSe := Lib.hid hs; clear hs)
                            | (go_at_call 21; refine (c_meant2 HSe.out (dstA (m : Int)) x (jf (m : Int)) (HMT.out (by first | exact trivial | rfl))).mono ?_; rintro e wb ⟨rfl, hs⟩; have HSf := Lib.hid hs; clear hs))
                        all_goals
                          go_wp2_with fail
                          go_roundw
                          case rel => exact ⟨k + 1, nw, c', hd', hv', by have := HK.out; omega, by have := HK.out; omega, by go_num, Lib.hid ⟨HLN.out.i, HLN.out.n, by have := HDL.out; have := HLW2.out.h; omega⟩, Lib.hid (HSf.out.offW.offW.offW.offW)⟩
                          case measure => have := HK.out; simp [intOf]; omega
        · have hkb : (bits .and .i64 x.k 1 == 1) = true := by rw [hkd]; rfl
          clear hkd
          have hnx := nxt_rng now x.t
          have hnow := HLW2.out.n
          have hn0 := HLW2.out.i.n0
          obtain ⟨c', hr, hM, hl5, hw', _⟩ := HLW2.out.i.tick (nw := nxt now x.t) hnx.1 (by omega)
          have hte : ∀ j, estS c.M first j ≤ estS c'.M first j := fun j => tick_est HLW2.out.i hw' hM j
          have hp0 : ∀ j, 0 ≤ estS c.M first j := fun j => by have := HLW2.out.i.est_rng j; omega
          obtain ⟨wf, hwf⟩ : ∃ wf, estS c.M first = wf := ⟨_, rfl⟩
          obtain ⟨jf, hjf⟩ : ∃ jf, estS c'.M first = jf := ⟨_, rfl⟩
          rw [hwf] at hp0
          have hte : ∀ j, wf j ≤ jf j := fun j => by rw [← hwf, ← hjf]; exact hte j
          obtain ⟨L4, hL4⟩ : ∃ L4, ordS (c.M.map (·.1)) = L4 := ⟨_, rfl⟩
          obtain ⟨L5, hL5⟩ : ∃ L5, tickL c (nxt now x.t) = L5 := ⟨_, rfl⟩
          obtain ⟨nw, hnw⟩ : ∃ nw, nxt now x.t = nw := ⟨_, rfl⟩
          rw [hnw] at hr hL5 hw' hnx
          have HLN : Hid (LoopW E A first nw c' hd (k + 1)) := Lib.hid ⟨by have h1 := hw'; exact ⟨h1.ok, h1.ab, h1.fl, h1.fr, h1.ky, h1.e, h1.a, h1.nn, h1.n0, by have := h1.hr; omega, h1.f1, h1.f2⟩, by omega, by have := HLW2.out.h; omega⟩
          have HWN := Lib.hid hw'
          have HNX := Lib.hid hnw
          have HNB := Lib.hid (And.intro hn0 (show now ≤ 1000000000000 by omega))
          have HRR := Lib.hid hr
          have HFF := Lib.hid (And.intro hp0 hte)
          have HMM := Lib.hid (And.intro hwf (And.intro hjf (And.intro hL4 hL5)))
          clear hr hw' hM hl5 hte hp0 hwf hjf hL4 hL5 hnw hnx hnow hn0
          as_aux_lemma =>
            go_wp2_with (first
              | (refine gate_ (.alloc 49) rfl ?_; first | (refine wpList_alloc12 HS6.out rfl rfl ?_; intro w7 hs; have HS7 := Lib.hid (St.inW hs); clear hs HS6) | (refine wpList_alloc12 HS1.out rfl rfl ?_; intro w2 hs; have HS2 := Lib.hid (St.inW hs); clear hs HS1))
              | (refine gate_ (.store 49 (.tmp 13) (.tmp 48)) rfl ?_; go_must (refine wpList_store_B HS2.out 4 rfl rfl rfl 49 (.tmp 13) (.tmp 48) rfl (estQ wf) rfl rfl (by rw [estQ_size]; exact siz12) (by rw [estQ_size]; rfl) (estQ_one _) ?_; intro w3 hs; have HS3 : Hid (St w w3 (Wat wp p b E A first now hv hd c [obB w1.heap.size (estQ wf) 49])) := Lib.hid hs; have c0 : w3.cell? ⟨wp, 0, none⟩ = some (.pointer (some ⟨p, 0, none⟩)) := hs.cellB 0 rfl 0 rfl; clear hs HS2))
              | (go_at_call 17; (refine (c_wallK HS.out HLW2.out.i HMM.out.1).mono ?_; rintro e w1 ⟨rfl, hs⟩; have HS1 := Lib.hid hs; clear hs HS))
              | (go_at_call 14; refine (c_allF HS3.out 2 rfl HLW2.out.i.ok HLW2.out.i.ab HMM.out.2.2.1).mono ?_; rintro e w4 ⟨A4, n4, rfl, hs⟩; have HS4 : Hid (St w w4 (Wat wp p b E A first now hv hd c [obAd (.slice A4 L4.length n4) L4, obB w1.heap.size (estQ wf) 49])) := Lib.hid (St.inW hs); have hN := HNW.out _ hs.bl; have n0 := hN.n0; have n4' := hN.n4; have k4 : w4.cell? ⟨wp, 4, none⟩ = some (.int .i64 now) := (St.inW hs).cellB 0 rfl 4 rfl; have f4 : w4.frozen? ⟨wp, 4, none⟩ = false := (St.inW hs).freeB 0 rfl 4; clear hs hN c0 HS3)
              | (go_at_call 18; refine (c_later HS4.out 0 rfl x.t HXT.out HNB.out).mono ?_; rw [HNX.out]; rintro e w5 ⟨rfl, rfl⟩))
            have HS5 : Hid (St w (w5.setCell ⟨wp, 4, none⟩ (.int .i64 nw)) (Wat wp p b E A first nw hv hd c [obAd (.slice A4 L4.length n4) L4, obB w1.heap.size (estQ wf) 49])) := Lib.hid (HS4.out.setB 0 rfl 4 (.int .i64 nw))
            generalize w5.setCell ⟨wp, 4, none⟩ (.int .i64 nw) = w5' at HS5 ⊢
            clear HS4 n0 n4' k4 f4
            have HSd := Lib.hid HS5.out.drew
            go_region_held3 (fun W => W.cell? ⟨wp, 0, none⟩ = some (.pointer (some ⟨p, 0, none⟩)) ∧ W.cell? ⟨wp, 4, none⟩ = some (.int .i64 nw)) (first | exact ⟨HS5.out.cellB 0 rfl 0 rfl, HS5.out.cellB 0 rfl 4 rfl⟩ | exact ⟨HSd.out.cellB 0 rfl 0 rfl, HSd.out.cellB 0 rfl 4 rfl⟩ | exact ⟨HSt.out.cellB 0 rfl 0 rfl, HSt.out.cellB 0 rfl 4 rfl⟩)
              (first | (go_at_call 19; refine (c_tickF HSd.out 2 rfl 3 rfl HLW2.out.i.ok HLW2.out.i.ab nw HRR.out HMM.out.2.2.2).mono ?_; rintro e wt ⟨A5, n5, rfl, hs⟩; have HSt : Hid (St w wt (Wat wp p b E A first nw hv hd c' [obAd (.slice A5 L5.length n5) L5, obAd (.slice A4 L4.length n4) L4, obB w1.heap.size (estQ wf) 49])) := Lib.hid (St.inW hs); clear hs))
            go_wp2_with (first
              | (refine gate_ (.alloc 49) rfl ?_; go_must (refine wpList_alloc12 HS6.out rfl rfl ?_; intro w7 hs; have HS7 := Lib.hid (St.inW hs); clear hs HS6))
              | (refine gate_ (.store 49 (.tmp 17) (.tmp 84)) rfl ?_; go_must (refine wpList_store_B HS7.out 4 rfl rfl rfl 49 (.tmp 17) (.tmp 84) rfl (estQ jf) rfl rfl (by rw [estQ_size]; exact siz12) (by rw [estQ_size]; rfl) (estQ_one _) ?_; intro w8 hs; have HS8 : Hid (St w w8 (Wat wp p b E A first nw hv hd c' [obB w6.heap.size (estQ jf) 49, obAd (.slice A5 L5.length n5) L5, obAd (.slice A4 L4.length n4) L4, obB w1.heap.size (estQ wf) 49])) := Lib.hid hs; clear hs HS7))
              | (go_at_call 17; refine (c_wallK HSt.out HWN.out HMM.out.2.1).mono ?_; rintro e w6 ⟨rfl, hs⟩; have HS6 := Lib.hid hs; clear hs))
            clear HSd HSt HS5
            go_loopw [18] (fun s18 wr => ∃ j : Nat, j ≤ 12 ∧ s18 = .int .i64 j ∧ Hid (St w wr (Wat wp p b E A first nw hv hd c' [obB w6.heap.size (estQ jf) 49, obAd (.slice A5 L5.length n5) L5, obAd (.slice A4 L4.length n4) L4, obB w1.heap.size (estQ wf) 49]))) (fun i _ => 12 - (intOf i).toNat)
            case atStart => exact ⟨0, by decide, rfl, HS8⟩
            case round =>
              obtain ⟨j, hj, rfl, HSa⟩ := hrel
              clear HS8
              as_aux_lemma =>
                by_cases hj12 : j < 12
                · have hjz : (j : Int) < 12 := by omega
                  have hj0 : (0 : Int) ≤ (j : Int) := by omega
                  have HJ := Lib.hid hj12
                  have qw : wr.cell? ⟨w1.heap.size, j, none⟩ = some (.int .i64 (wf (j : Int))) := HSa.out.cellB 7 rfl j (estQ_get _ j hj12)
                  have qj : wr.cell? ⟨w6.heap.size, j, none⟩ = some (.int .i64 (jf (j : Int))) := HSa.out.cellB 4 rfl j (estQ_get _ j hj12)
                  have d1 : decide (wf (j : Int) < 0) = false := decide_eq_false (by have := HFF.out.1 j; omega)
                  have d2 : decide (jf (j : Int) < wf (j : Int)) = false := decide_eq_false (by have := HFF.out.2 j; omega)
                  go_wp2_with fail
                  go_quiet (fail)
                  have HSb : Hid (St w (wr.drewN nq) (Wat wp p b E A first nw hv hd c' [obB w6.heap.size (estQ jf) 49, obAd (.slice A5 L5.length n5) L5, obAd (.slice A4 L4.length n4) L4, obB w1.heap.size (estQ wf) 49])) := Lib.hid (HSa.out.drewN nq)
                  generalize wr.drewN nq = wz at HSb ⊢
                  clear qw qj
                  go_wp2_with fail
                  go_roundw
                  case rel => exact ⟨j + 1, by have := HJ.out; omega, by go_num, HSb⟩
                  case measure => have := HJ.out; simp [intOf]; omega
                · have hjz : ¬ (j : Int) < 12 := by omega
                  clear hj hj12
                  go_wp2_with fail
                  go_roundw
                  case rel => exact ⟨k + 1, nw, c', hd, hv, by have := HK.out; omega, by have := HK.out; omega, by go_num, HLN, Lib.hid HSa.out.offW.offW.offW.offW⟩
                  case measure => have := HK.out; simp [intOf]; omega
      · have h4z : ¬ (k : Int) < 4000 := by omega
        clear hk hk4 h4 hlt
        go_wp2_with fail
        go_ret
        exact ⟨rfl, HS.out.bl⟩
    · have hltz : ¬ (k : Int) < (ns.length : Int) := by omega
      clear hk hk4 hlt
      go_wp2_with fail
      go_ret
      exact ⟨rfl, HS.out.bl⟩
end Go.Proofs.YtdinkhhaomblcaaDoor.SL
