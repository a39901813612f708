/- The walk of the statement PmtuMemory. No condition but sizes and that the table stands in its variable. -/
import Derived.Test.YtdinkhhaomblcaaDoorKR
namespace Go.Proofs.YtdinkhhaomblcaaDoor.SL
open Go.RowKit Go.Joins Go.Proofs.YtdinkhhaomblcaaDoorW.PrintWords Go.Proofs.YtdinkhhaomblcaaDoorW.PrintLast Go.Proofs.YtdinkhhaomblcaaDoorW.PrintMore
abbrev W3 (wp p b : Nat) (E A first now : Int) (hv : Value) (hd : List Int) (c : Ca) : List Ob := [obWt wp p E A first now hv, obI hv hd, obC p b c]
/-- Between the rounds that hear what is handed in. -/
structure LoopM (c : Ca) (hd : List Int) (now : Int) (k : Nat) : Prop where
  w : WI 8 10 5280 now c (6 + (k : Int))
  n : now ≤ 4000 * (k : Int)
  l : 6 ≤ c.M.length
  h : hd.length ≤ 6 + k
/-- A list of no elements in a block of its own. -/
theorem emptyA_R (w : World) : kA.R 32 (w.alloc (.cells #[] 32)) w.heap.size (fun _ => True) (.slice (some ⟨w.heap.size, 0, none⟩) 0 0) [] := by
  have ho : (w.alloc (.cells #[] 32)).ownsRow w.heap.size 32 17 (.slice (some ⟨w.heap.size, 0, none⟩) 0 0) 0 [] := World.ownsRow_lit (base := w.heap.size) (e := 32) (size := 17) w #[] 0 (Nat.le_refl _) (Nat.zero_le _) rfl
  refine ⟨fun _ _ => trivial, [], ho, ?_⟩
  exact ⟨rfl, fun j p hj => by simp at hj⟩
theorem St.emptyA {w0 w : World} {Γ : List Ob} (h : St w0 w Γ) : St w0 (w.alloc (.cells #[] 32)) (obAd (.slice (some ⟨w.heap.size, 0, none⟩) 0 0) [] :: Γ) :=
  St.front1 (h.addW flA ((Touch.refl [] w).alloc _).below (emptyA_R w))
theorem St.lay5 {w0 w : World} {o wt i c1 g a6 a7 f d c b a : Ob} {Δ : List Ob} (h : St w0 w (o :: wt :: i :: c1 :: g :: a6 :: a7 :: f :: d :: c :: b :: a :: Δ)) : St w0 w (o :: ([a, b, c, d, f] ++ [wt, i, c1, g, a7])) := by
  have h1 : St w0 w (o :: ([wt, i, c1, g, a7] ++ [f, d, c, b, a])) := h.sub (.cons_cons _ (.cons_cons _ (.cons_cons _ (.cons_cons _ (.cons_cons _ (.cons _ (.cons_cons _ (.cons_cons _ (.cons_cons _ (.cons_cons _ (.cons_cons _ (.cons_cons _ (List.nil_sublist _)))))))))))))
  exact h1.perm (.cons _ (List.perm_append_comm.trans (List.Perm.append_left _ (List.reverse_perm [f, d, c, b, a]))))
/-- The five lists in their row. -/
theorem St.lay {w0 w7 : World} {wp p b : Nat} {E A first now : Int} {hv1 : Value} {hd1 : List Int} {c : Ca} {v6 v7 : Value} {L1 L2 LA : List Ad} {A1 A2 A3 A4 A5 : Option Addr} {n1 n2 n3 n4 n5 : Nat} {Δ : List Ob}
    (h : St w0 w7 (Wat wp p b E A first now hv1 hd1 c (obAd v6 LA :: obAd v7 LA :: obAd (.slice A5 L2.length n5) L2 :: obAd (.slice A4 L1.length n4) L1 :: obAd (.slice A3 L1.length n3) L1 :: obAd (.slice A2 L2.length n2) L2 :: obAd (.slice A1 L1.length n1) L1 :: Δ))) (h1 : L1.length ≤ 8) (h2 : L2.length ≤ 8) :
    ∃ (hs : List Hdr) (ct : Nat → List Ad), hs.length = 5 ∧ (∀ j, (ct j).length ≤ 8) ∧ (∀ k, k < 5 → (SL.hd hs k).2.1 = (ct k).length) ∧
      St w0 (w7.alloc (.cells #[.slice A1 L1.length n1, .slice A2 L2.length n2, .slice A3 L1.length n3, .slice A4 L1.length n4, .slice A5 L2.length n5] 42))
        ([obA w7.heap.size hs 42, obI (.slice none 0 0) []] ++ (fam 5 (famL kA 32 flA hs (stC ct (fcA ct) 0)) ++ Wat wp p b E A first now hv1 hd1 c [obAd v7 LA])) := by
  refine ⟨[(A1, L1.length, n1), (A2, L2.length, n2), (A3, L1.length, n3), (A4, L1.length, n4), (A5, L2.length, n5)], fun j => [L1, L2, L1, L1, L2].getD j [], rfl, fun j => ?_, fun k hk => ?_, ?_⟩
  · match j with
    | 0 => exact h1
    | 1 => exact h2
    | 2 => exact h1
    | 3 => exact h1
    | 4 => exact h2
    | j + 5 => exact Nat.zero_le _
  · match k, hk with
    | 0, _ => rfl
    | 1, _ => rfl
    | 2, _ => rfl
    | 3, _ => rfl
    | 4, _ => rfl
  · have h3 := ((h.boxF #[.slice A1 L1.length n1, .slice A2 L2.length n2, .slice A3 L1.length n3, .slice A4 L1.length n4, .slice A5 L2.length n5] 42).lay5.newW (d := kI) (e := 3) flI).front1
    have e : fam 5 (famL kA 32 flA [(A1, L1.length, n1), (A2, L2.length, n2), (A3, L1.length, n3), (A4, L1.length, n4), (A5, L2.length, n5)] (stC (fun j => [L1, L2, L1, L1, L2].getD j []) (fcA fun j => [L1, L2, L1, L1, L2].getD j []) 0)) = [obAd (.slice A1 L1.length n1) L1, obAd (.slice A2 L2.length n2) L2, obAd (.slice A3 L1.length n3) L1, obAd (.slice A4 L1.length n4) L1, obAd (.slice A5 L2.length n5) L2] := rfl
    rw [e]
    exact h3.perm (List.Perm.swap _ _ _)
section
variable {ops : Array Oper} {rest : List Oper} {o : Oper} {a : Act} {Q : Exit → Act → World → Prop} {W : World}
/-- A slice of one address is built. -/
theorem wpList_bls_A (hgd : o.guard = none) (x : Operand) (ho : o.op = .buildSlice 42 1 #[(0, x)]) (y : Ad) (hx : a.eval x = .agg (aV y))
    (h : wpList Tryd.prog ops Q rest (a.put o.dst (.slice (some ⟨W.heap.size, 0, none⟩) 1 1)) (W.alloc (.cells (aV y) 32))) : wpList Tryd.prog ops Q (o :: rest) a W :=
  wpList_plain hgd fun _ hK => by
    unfold Oper.wp execOp
    simp only [ho, List.map_toArray, List.map_cons, List.map_nil, hx, Sem.run_bind, bls_A, Result.andThen_ok]
    exact hK _ _ h
end
set_option maxHeartbeats 16000000 in
set_option maxRecDepth 100000 in
theorem mem_calls (A0 : Option Addr) (cp : Nat) (ns : List Nw) (w : World) (hT : Tab w) (h0 : kN.C w A0 ns.length ns) (hwf : ∀ x ∈ ns, -9223372036854775808 ≤ x.t ∧ x.t ≤ 9223372036854775807) (hlen : ns.length ≤ 4000000000000) :
    Calls Tryd.prog 8 #[.slice A0 ns.length cp] w fun e w' => e = .returned (.bool true) ∧ Below w.heap.size w w' := by
  have HA : Hid (∀ k, k < ns.length → ∃ ad, A0 = some ad ∧ NwAt w ad k (ns.getD k zN)) := Lib.hid fun k hk => nw_at h0 k hk
  have HWF : Hid (∀ k, k < ns.length → -9223372036854775808 ≤ (ns.getD k zN).t ∧ (ns.getD k zN).t ≤ 9223372036854775807) := Lib.hid fun k hk => by
    rw [List.getD_eq_getElem?_getD, List.getElem?_eq_getElem hk]
    exact hwf _ (List.getElem_mem hk)
  have HS0 := Lib.hid (St.tab w hT)
  have HT := Lib.hid hT
  have hbig : ns.length ≤ 9223372036854775807 := by omega
  have HEQ := Lib.hid (And.intro (show wE 7 = 8 by decide) (And.intro (show wA 9 = 10 by decide) (And.intro (show wF 4000 = 5280 by decide) (And.intro (show wE 3 = 4 by decide) (show wF 3000 = 4280 by decide)))))
  have HW0 := Lib.hid (WI.start 7 9 4000)
  have HV0 := Lib.hid (WI.start 3 9 3000)
  rw [HEQ.out.1, HEQ.out.2.1, HEQ.out.2.2.1] at HW0
  rw [HEQ.out.2.2.2.1, HEQ.out.2.1, HEQ.out.2.2.2.2] at HV0
  clear h0 hwf hT hlen
  go_enter Tryd.func8, Tryd.ntmps8
  go_wp2_with (first
    | (go_at_call 9; refine (alive_calls _ HT.out).mono ?_; rintro e w1 ⟨rfl, hb1⟩; have HS1 := Lib.hid (HS0.out.below hb1); clear hb1)
    | (go_at_call 16; refine (watch_calls HS2.out 3 9 3000 (by decide) (by decide)).mono ?_; rw [HEQ.out.2.2.2.1, HEQ.out.2.1, HEQ.out.2.2.2.2]; rintro e w3 ⟨vp, q, d, rfl, hs⟩; have HS3 : Hid (St w w3 (Wat wp p b 8 10 5280 0 (.slice none 0 0) [] ⟨8, 10, [], 0, 0⟩ (W3 vp q d 4 10 4280 0 (.slice none 0 0) [] ⟨4, 10, [], 0, 0⟩))) := Lib.hid (hs.perm (St.perm3 _ _ _ _ _ _ _)); clear hs HS2)
    | (go_at_call 16; refine (watch_calls HS1.out 7 9 4000 (by decide) (by decide)).mono ?_; rw [HEQ.out.1, HEQ.out.2.1, HEQ.out.2.2.1]; rintro e w2 ⟨wp, p, b, rfl, hs⟩; have HS2 := Lib.hid hs; clear hs HS1))
  have HMW : Hid (MemW ⟨8, 10, [], 0, 0⟩ 0) := Lib.hid ⟨HW0.out, rfl, by simp⟩
  have HMV : Hid (MemV ⟨4, 10, [], 0, 0⟩ 0) := Lib.hid ⟨HV0.out, .inl rfl⟩
  clear HW0 HV0 HS0 HEQ
  go_loopw [8] (fun i wr => ∃ (k : Nat) (c1 c2 : Ca) (hd1 hd2 : List Int) (hv1 hv2 : Value), k ≤ 6 ∧ i = .int .i64 k ∧ Hid (MemW c1 k) ∧ Hid (MemV c2 k) ∧ Hid (hd1.length ≤ k ∧ hd2.length ≤ k) ∧ Hid (St w wr (Wat wp p b 8 10 5280 0 hv1 hd1 c1 (W3 vp q d 4 10 4280 0 hv2 hd2 c2)))) (fun i _ => 6 - (intOf i).toNat)
  case atStart => exact ⟨0, _, _, [], [], _, _, by decide, rfl, HMW, HMV, Lib.hid ⟨Nat.le_refl _, Nat.le_refl _⟩, HS3⟩
  case round =>
    obtain ⟨k, c1, c2, hd1, hd2, hv1, hv2, hk, rfl, HMW2, HMV2, HHD, HS⟩ := hrel
    clear HMW HMV HS3
    by_cases hlt : k < 6
    · have hltz : (k : Int) < 6 := by omega
      have hk0 : (0 : Int) ≤ (k : Int) := by omega
      obtain ⟨f1, c1', hr1, hw1⟩ := HMW2.out.hear hlt
      obtain ⟨f2, c2', hr2, hw2⟩ := HMV2.out.hear hlt
      have HR1 := Lib.hid hr1
      have HR2 := Lib.hid hr2
      have HMW3 := Lib.hid hw1
      have HMV3 := Lib.hid hw2
      have HDN : Hid (dN (k : Int) = k) := Lib.hid (dN_id (k := k) ⟨hk0, by omega⟩)
      have HDM : Hid (dN (2 * (k : Int)) = 2 * (k : Int)) := Lib.hid (dN_id (k := 2 * (k : Int)) ⟨by omega, by omega⟩)
      clear hr1 hr2 hw1 hw2
      go_wp2_with (first
        | (go_at_call 20; refine (c_hears (HS4.out.swapW) HMV2.out.w.ok (by have := HMV2.out.w.hr; omega) ⟨0, 2 * (k : Int), 1400 + (k : Int), 0, 0⟩ (show (-9223372036854775808 : Int) ≤ 0 ∧ (0 : Int) ≤ 9223372036854775807 by decide) (by decide) (by have := HHD.out.2; omega) (by rw [HDM.out]; exact HR2.out)).mono ?_; rw [HDM.out]; rintro e w5 ⟨hv2', hd2', rfl, hdl2, hs⟩; have HS5 : Hid (St w w5 (Wat wp p b 8 10 5280 0 hv1' hd1' c1' (W3 vp q d 4 10 4280 0 hv2' hd2' c2'))) := Lib.hid (St.swapW hs); have HDL2 := Lib.hid hdl2; clear hs hdl2 HS4)
        | (go_at_call 20; refine (c_hears HS.out HMW2.out.w.ok (by have := HMW2.out.w.hr; omega) ⟨0, k, 1300 + (k : Int), 0, 0⟩ (show (-9223372036854775808 : Int) ≤ 0 ∧ (0 : Int) ≤ 9223372036854775807 by decide) (by decide) (by have := HHD.out.1; omega) (by rw [HDN.out]; exact HR1.out)).mono ?_; rw [HDN.out]; rintro e w4 ⟨hv1', hd1', rfl, hdl1, hs⟩; have HS4 : Hid (St w w4 (Wat wp p b 8 10 5280 0 hv1' hd1' c1' (W3 vp q d 4 10 4280 0 hv2 hd2 c2))) := Lib.hid hs; have HDL1 := Lib.hid hdl1; clear hs hdl1 HS))
      go_roundw
      case rel => exact ⟨k + 1, c1', c2', hd1', hd2', hv1', hv2', by omega, by go_num, HMW3, HMV3, Lib.hid ⟨by have := HDL1.out; have := HHD.out.1; omega, by have := HDL2.out; have := HHD.out.2; omega⟩, HS5⟩
      case measure => simp [intOf]; omega
    · have hk6 : k = 6 := by omega
      have hkz : (k : Int) = 6 := by omega
      rw [hkz]
      clear hkz hlt hk
      subst hk6
      have HLM : Hid (LoopM c1 hd1 0 0) := Lib.hid ⟨HMW2.out.w, by simp, by have := HMW2.out.l; omega, by have := HHD.out.1; omega⟩
      have HHV := Lib.hid HHD.out.2
      clear HHD HMW2
      go_wp2_with fail
      go_loopw [9] (fun i wr => ∃ (k : Nat) (now : Int) (c1 : Ca) (hd1 : List Int) (hv1 : Value), k ≤ ns.length ∧ k ≤ 200 ∧ i = .int .i64 k ∧ Hid (LoopM c1 hd1 now k) ∧ Hid (St w wr (Wat wp p b 8 10 5280 now hv1 hd1 c1 (W3 vp q d 4 10 4280 0 hv2 hd2 c2)))) (fun i _ => ns.length - (intOf i).toNat)
      case atStart => exact ⟨0, 0, c1, hd1, hv1, Nat.zero_le _, Nat.zero_le _, rfl, HLM, HS⟩
      case round =>
        clear HLM HS
        obtain ⟨k, now, c1, hd1, hv1, hk, hk2, rfl, HLM, HS⟩ := hrel
        by_cases hin : k < ns.length ∧ k < 200
        · obtain ⟨hlt, h4⟩ := hin
          have hltz : (k : Int) < (ns.length : Int) := by omega
          have h4z : (k : Int) < 200 := by omega
          obtain ⟨ad, rfl, hnw⟩ := HA.out k hlt
          have HNW : Hid (∀ W : World, Below w.heap.size w W → NwAt W ad k (ns.getD k zN)) := Lib.hid fun W hb => hnw.below hb
          have HXT := Lib.hid (HWF.out k hlt)
          clear hnw
          generalize ns.getD k zN = x at HNW HXT
          have HK := Lib.hid (And.intro hlt h4)
          have hk0 : (0 : Int) ≤ (k : Int) := by omega
          have hN := HNW.out _ HS.out.bl
          have n0 := hN.n0
          have n1 := hN.n1
          have n2 := hN.n2
          have n3 := hN.n3
          have n4' := hN.n4
          clear hN
          have hnx := nxt_rng now x.t
          have hnow := HLM.out.n
          have hn0 := HLM.out.w.n0
          have HNB := Lib.hid (And.intro hn0 (show now ≤ 1000000000000 by omega))
          obtain ⟨f, c', hr, hw', hl'⟩ := HLM.out.w.hearLen (nw := nxt now x.t) hnx.1 (by omega) (dN_rng x.d) x.m x.l
          have HRR := Lib.hid hr
          have HLN : Hid (WI 8 10 5280 (nxt now x.t) c' (6 + (k : Int) + 1) ∧ c1.M.length ≤ c'.M.length ∧ nxt now x.t ≤ 4000 * ((k + 1 : Nat) : Int)) := Lib.hid ⟨hw', hl', by omega⟩
          clear hr hw' hl' hnx hnow hn0
          go_wp2_with (go_at_call 20; refine (c_hears HS.out HLM.out.w.ok (by have := HLM.out.w.hr; have := HK.out; omega) x HXT.out HNB.out (by have := HLM.out.h; have := HK.out; omega) HRR.out).mono ?_; rintro e w5 ⟨hv', hd', rfl, hdl, hs⟩; have HS5 := Lib.hid hs; have HDL := Lib.hid hdl; clear hs hdl n0 n1 n2 n3 n4')
          go_roundw
          case rel => exact ⟨k + 1, _, c', hd', hv', by have := HK.out; omega, by have := HK.out; omega, by go_num, Lib.hid ⟨by rw [show 6 + ((k + 1 : Nat) : Int) = 6 + (k : Int) + 1 by omega]; exact HLN.out.1, HLN.out.2.2, Nat.le_trans HLM.out.l HLN.out.2.1, by have := HDL.out; have := HLM.out.h; omega⟩, HS5⟩
          case measure => have := HK.out; simp [intOf]; omega
        · have hfin : (k : Int) < (ns.length : Int) → ¬ (k : Int) < 200 := fun h1 h2 => hin ⟨by omega, by omega⟩
          have hk200 : (k : Int) ≤ 200 := by omega
          have hnow := HLM.out.n
          have hn0 := HLM.out.w.n0
          have hn1 : now ≤ 800000 := by omega
          obtain ⟨c1', hr1, hw1, hl1, _⟩ := HLM.out.w.riseAll (nw := now + 50) (by omega) (by omega)
          obtain ⟨c2', hr2, hw2, hl2, _⟩ := HMV2.out.w.riseAll (nw := 50) (by decide) (by decide)
          obtain ⟨L1, hL1⟩ : ∃ L1, ordS (c1.M.map (·.1)) = L1 := ⟨_, rfl⟩
          obtain ⟨L2, hL2⟩ : ∃ L2, ordS (c2.M.map (·.1)) = L2 := ⟨_, rfl⟩
          obtain ⟨LA, hLA⟩ : ∃ LA, ordS (c1'.M.map (·.1)) = LA := ⟨_, rfl⟩
          rw [hL1] at hl1
          rw [hL2] at hl2
          have HLL : Hid ((6 ≤ L1.length ∧ L1.length ≤ 8) ∧ (1 ≤ L2.length ∧ L2.length ≤ 8) ∧ LA.length ≤ 8) := Lib.hid (by
            rw [← hL1, ← hL2, ← hLA, keys_len' HLM.out.w, keys_len' HMV2.out.w, keys_len' hw1]
            have h1 := HLM.out.w.ok.len
            have h2 := HLM.out.w.e
            have h3 := HMV2.out.w.ok.len
            have h4 := HMV2.out.w.e
            have h5 := hw1.ok.len
            have h6 := hw1.e
            have h7 := HMV2.out.l
            have h8 := HLM.out.l
            omega)
          have HR1 := Lib.hid hr1
          have HR2 := Lib.hid hr2
          have HW1 := Lib.hid hw1
          have HT1 := Lib.hid hl1
          have HT2 := Lib.hid hl2
          have HL1 := Lib.hid hL1
          have HL2 := Lib.hid hL2
          have HLA := Lib.hid hLA
          clear hr1 hw1 hl1 hr2 hw2 hl2 hL1 hL2 hLA hnow
          have j0 : wr.cell? ⟨wp, 0, none⟩ = some (.pointer (some ⟨p, 0, none⟩)) := HS.out.cellB 0 rfl 0 rfl
          go_wp2_with (first
            | (go_at_call 14; refine (c_allF HSb.out 2 rfl HLM.out.w.ok HLM.out.w.ab HL1.out).mono ?_; rintro e w5 ⟨A3, n3, rfl, hs⟩; have HSc : Hid (St w w5 (Wat wp p b 8 10 5280 now hv1 hd1 c1 (obAd (.slice A3 L1.length n3) L1 :: obAd (.slice A2 L2.length n2) L2 :: obAd (.slice A1 L1.length n1) L1 :: W3 vp q d 4 10 4280 0 hv2 hd2 c2))) := Lib.hid (St.inW hs); have k4 : w5.cell? ⟨wp, 4, none⟩ = some (.int .i64 now) := HSc.out.cellB 0 rfl 4 rfl; have f4 : w5.frozen? ⟨wp, 4, none⟩ = false := HSc.out.freeB 0 rfl 4; have k0' : w5.cell? ⟨wp, 0, none⟩ = some (.pointer (some ⟨p, 0, none⟩)) := HSc.out.cellB 0 rfl 0 rfl; clear hs HSb k0)
            | (go_at_call 14; refine (c_allF HSa.out 7 rfl HMV2.out.w.ok HMV2.out.w.ab HL2.out).mono ?_; rintro e w4 ⟨A2, n2, rfl, hs⟩; have HSb : Hid (St w w4 (Wat wp p b 8 10 5280 now hv1 hd1 c1 (obAd (.slice A2 L2.length n2) L2 :: obAd (.slice A1 L1.length n1) L1 :: W3 vp q d 4 10 4280 0 hv2 hd2 c2))) := Lib.hid (St.inW hs); have k0 : w4.cell? ⟨wp, 0, none⟩ = some (.pointer (some ⟨p, 0, none⟩)) := HSb.out.cellB 0 rfl 0 rfl; clear hs HSa i0)
            | (go_at_call 14; refine (c_allF HS.out 2 rfl HLM.out.w.ok HLM.out.w.ab HL1.out).mono ?_; rintro e w3 ⟨A1, n1, rfl, hs⟩; have HSa : Hid (St w w3 (Wat wp p b 8 10 5280 now hv1 hd1 c1 (obAd (.slice A1 L1.length n1) L1 :: W3 vp q d 4 10 4280 0 hv2 hd2 c2))) := Lib.hid (St.inW hs); have i0 : w3.cell? ⟨vp, 0, none⟩ = some (.pointer (some ⟨q, 0, none⟩)) := HSa.out.cellB 5 rfl 0 rfl; clear hs HS j0))
          all_goals
            have HS6 : Hid (St w (w5.setCell ⟨wp, 4, none⟩ (.int .i64 (now + 50))) (Wat wp p b 8 10 5280 (now + 50) hv1 hd1 c1 (obAd (.slice A3 L1.length n3) L1 :: obAd (.slice A2 L2.length n2) L2 :: obAd (.slice A1 L1.length n1) L1 :: W3 vp q d 4 10 4280 0 hv2 hd2 c2))) := Lib.hid (HSc.out.setB 0 rfl 4 (.int .i64 (now + 50)))
            generalize w5.setCell ⟨wp, 4, none⟩ (.int .i64 (now + 50)) = w6 at HS6 ⊢
            clear HSc k4 f4 k0'
            have HSd := Lib.hid HS6.out.drew
            go_region_held3 (fun W => W.cell? ⟨wp, 0, none⟩ = some (.pointer (some ⟨p, 0, none⟩)) ∧ W.cell? ⟨wp, 4, none⟩ = some (.int .i64 (now + 50))) (first | exact ⟨HS6.out.cellB 0 rfl 0 rfl, HS6.out.cellB 0 rfl 4 rfl⟩ | exact ⟨HSd.out.cellB 0 rfl 0 rfl, HSd.out.cellB 0 rfl 4 rfl⟩ | exact ⟨HS7.out.cellB 0 rfl 0 rfl, HS7.out.cellB 0 rfl 4 rfl⟩)
              (first | (go_at_call 19; refine (c_tickF HSd.out 2 rfl 3 rfl HLM.out.w.ok HLM.out.w.ab (now + 50) HR1.out HT1.out).mono ?_; rintro e wt ⟨A4, n4, rfl, hs⟩; have HS7 : Hid (St w wt (Wat wp p b 8 10 5280 (now + 50) hv1 hd1 c1' (obAd (.slice A4 L1.length n4) L1 :: obAd (.slice A3 L1.length n3) L1 :: obAd (.slice A2 L2.length n2) L2 :: obAd (.slice A1 L1.length n1) L1 :: W3 vp q d 4 10 4280 0 hv2 hd2 c2))) := Lib.hid (St.inW hs); clear hs))
            have k4 : wt.cell? ⟨vp, 4, none⟩ = some (.int .i64 0) := HS7.out.cellB 8 rfl 4 rfl
            have f4 : wt.frozen? ⟨vp, 4, none⟩ = false := HS7.out.freeB 8 rfl 4
            clear HS6 HSd
            go_wp2_with fail
            have HS8 : Hid (St w (wt.setCell ⟨vp, 4, none⟩ (.int .i64 50)) (Wat wp p b 8 10 5280 (now + 50) hv1 hd1 c1' (obAd (.slice A4 L1.length n4) L1 :: obAd (.slice A3 L1.length n3) L1 :: obAd (.slice A2 L2.length n2) L2 :: obAd (.slice A1 L1.length n1) L1 :: W3 vp q d 4 10 4280 50 hv2 hd2 c2))) := Lib.hid (HS7.out.setB 8 rfl 4 (.int .i64 50))
            generalize wt.setCell ⟨vp, 4, none⟩ (.int .i64 50) = w8 at HS8 ⊢
            clear HS7 k4 f4
            have HSd := Lib.hid HS8.out.drew
            go_region_held3 (fun W => W.cell? ⟨vp, 0, none⟩ = some (.pointer (some ⟨q, 0, none⟩)) ∧ W.cell? ⟨vp, 4, none⟩ = some (.int .i64 50)) (first | exact ⟨HS8.out.cellB 8 rfl 0 rfl, HS8.out.cellB 8 rfl 4 rfl⟩ | exact ⟨HSd.out.cellB 8 rfl 0 rfl, HSd.out.cellB 8 rfl 4 rfl⟩ | exact ⟨HS9.out.cellB 9 rfl 0 rfl, HS9.out.cellB 9 rfl 4 rfl⟩)
              (first | (go_at_call 19; refine (c_tickF HSd.out 10 rfl 3 rfl HMV2.out.w.ok HMV2.out.w.ab 50 HR2.out HT2.out).mono ?_; rintro e wu ⟨A5, n5, rfl, hs⟩; have HS9 : Hid (St w wu (Wat wp p b 8 10 5280 (now + 50) hv1 hd1 c1' (obAd (.slice A5 L2.length n5) L2 :: obAd (.slice A4 L1.length n4) L1 :: obAd (.slice A3 L1.length n3) L1 :: obAd (.slice A2 L2.length n2) L2 :: obAd (.slice A1 L1.length n1) L1 :: W3 vp q d 4 10 4280 50 hv2 hd2 c2'))) := Lib.hid (St.inW hs); clear hs))
            clear HS8 HSd
            have hb0 : ((L2.length : Int) == 0) = false := by have := HLL.out.2.1.1; simp; intro e; rw [e] at this; simp at this
            have ha6 : decide ((L1.length : Int) < 6) = false := decide_eq_false (by have := HLL.out.1.1; omega)
            have ha7 : (6 : Int) ≤ (L1.length : Int) := by have := HLL.out.1.1; omega
            have HB1 : Hid (L1.length < 1000000000 ∧ L2.length < 1000000000) := Lib.hid (by have := HLL.out.1.2; have := HLL.out.2.1.2; omega)
            go_wp2_with (first
                | (at_builtin; go_must (refine wpList_append_rows_St kA HSi.out 5 rfl rfl (.tmp 165) (.tmp 170) 42 (.agg (aV (zA 0))) 24 rfl Tryd.underlying42 infoA (aV_size _) (by decide) (by decide) LA A6 LA.length n6 rfl rfl (HSi.out.readW 4 rfl) (by have := HLL.out.2.2; simp; omega) ?_; intro v7 w7 hv7 hs7; obtain ⟨A7, n7, hv7⟩ := hv7.out; subst hv7; have HSj : Hid (St w w7 (Wat wp p b 8 10 5280 (now + 50) hv1 hd1 c1' (obAd (.slice A6 LA.length n6) LA :: obAd (.slice A7 LA.length n7) LA :: obAd (.slice A5 L2.length n5) L2 :: obAd (.slice A4 L1.length n4) L1 :: obAd (.slice A3 L1.length n3) L1 :: obAd (.slice A2 L2.length n2) L2 :: obAd (.slice A1 L1.length n1) L1 :: W3 vp q d 4 10 4280 50 hv2 hd2 c2'))) := hs7; clear hs7 HSi))
                | (go_at_call 14; refine (c_allF HSh.out 2 rfl HW1.out.ok HW1.out.ab HLA.out).mono ?_; rintro e wi ⟨A6, n6, rfl, hs⟩; have HSi : Hid (St w wi (Wat wp p b 8 10 5280 (now + 50) hv1 hd1 c1' (obAd (.slice A6 LA.length n6) LA :: obAd (.slice (some ⟨wz.heap.size, 0, none⟩) 0 0) [] :: obAd (.slice A5 L2.length n5) L2 :: obAd (.slice A4 L1.length n4) L1 :: obAd (.slice A3 L1.length n3) L1 :: obAd (.slice A2 L2.length n2) L2 :: obAd (.slice A1 L1.length n1) L1 :: W3 vp q d 4 10 4280 50 hv2 hd2 c2'))) := Lib.hid (St.inW hs); clear hs HSh k0)
                | (go_at_call 13; refine (c_same HSf.out (HSf.out.rd 7 rfl) (HSf.out.rd 4 rfl) HB1.out.2 (r := true) (by simp)).mono ?_; rintro e wz ⟨rfl, hs⟩; have HSg := Lib.hid hs; have HSh : Hid (St w (wz.alloc (.cells #[] 32)) (Wat wp p b 8 10 5280 (now + 50) hv1 hd1 c1' (obAd (.slice (some ⟨wz.heap.size, 0, none⟩) 0 0) [] :: obAd (.slice A5 L2.length n5) L2 :: obAd (.slice A4 L1.length n4) L1 :: obAd (.slice A3 L1.length n3) L1 :: obAd (.slice A2 L2.length n2) L2 :: obAd (.slice A1 L1.length n1) L1 :: W3 vp q d 4 10 4280 50 hv2 hd2 c2'))) := Lib.hid (St.inW (HSg.out.emptyA)); have k0 : (wz.alloc (.cells #[] 32)).cell? ⟨wp, 0, none⟩ = some (.pointer (some ⟨p, 0, none⟩)) := HSh.out.cellB 0 rfl 0 rfl; clear hs HSf HSg)
                | (go_at_call 13; refine (c_same HSe.out (HSe.out.rd 8 rfl) (HSe.out.rd 5 rfl) HB1.out.1 (r := true) (by simp)).mono ?_; rintro e wy ⟨rfl, hs⟩; have HSf := Lib.hid hs; clear hs HSe)
                | (go_at_call 13; refine (c_same HS9.out (HS9.out.rd 8 rfl) (HS9.out.rd 6 rfl) HB1.out.1 (r := true) (by simp)).mono ?_; rintro e wx ⟨rfl, hs⟩; have HSe := Lib.hid hs; clear hs HS9))
            obtain ⟨hs, ct, hl5, hct, hnn, hst⟩ := St.lay HSj.out HLL.out.1.2 HLL.out.2.1.2
            have HS := Lib.hid hst
            have HL := Lib.hid hl5
            have HC := Lib.hid hct
            have HN := Lib.hid hnn
            clear hl5 hct hnn hst HSj hb0 ha6 ha7 hfin hn0 hn1 hk200 hin hk hk2
            generalize w7.alloc (.cells #[.slice A1 L1.length n1, .slice A2 L2.length n2, .slice A3 L1.length n3, .slice A4 L1.length n4, .slice A5 L2.length n5] 42) = wl at HS ⊢
            generalize w7.heap.size = K at HS ⊢
            obtain ⟨F, hF⟩ : ∃ F, Wat wp p b 8 10 5280 (now + 50) hv1 hd1 c1' [obAd (.slice A7 LA.length n7) LA] = F := ⟨_, rfl⟩
            rw [hF] at HS
            have HF := Lib.hid hF
            clear hF
            go_loopw [19, 20] (fun v i wr => ∃ (nl : List Int) (NA : Option Addr) (nq nc : Nat), nl.length ≤ 5 ∧ i = .int .i64 nl.length ∧ v = .slice NA nq nc ∧ Hid (∀ j, j < nl.length → nl[j]? = some ((ct j).length : Int)) ∧ Hid (St w wr ([obA K hs 42, obI (.slice NA nq nc) nl] ++ (fam 5 (famL kA 32 flA hs (stC ct (fcA ct) nl.length)) ++ F)))) (fun _ i _ => 5 - (intOf i).toNat)
            case atStart => exact ⟨[], none, 0, 0, Nat.zero_le _, rfl, rfl, Lib.hid (fun j hj => absurd hj (by simp)), HS⟩
            case round =>
              obtain ⟨nl, NA, nq, nc, hkk, rfl, rfl, HV, HS2⟩ := hrel
              clear HS
              by_cases hlt : nl.length < 5
              · have hltz : (nl.length : Int) < 5 := by omega
                obtain ⟨g0, _⟩ := HS2.out.cellA 0 rfl nl.length (by rw [HL.out]; exact hlt)
                have hlk := HN.out _ hlt
                obtain ⟨s, hsk⟩ : ∃ s, SL.hd hs nl.length = s := ⟨_, rfl⟩
                rw [hsk] at g0 hlk
                obtain ⟨B, bq, bc⟩ := s
                have hlk : bq = (ct nl.length).length := hlk
                subst hlk
                replace g0 : wr.cell? ⟨K, nl.length, none⟩ = some (.slice B (ct nl.length).length bc) := g0
                have HK := Lib.hid hsk
                have hcl := HC.out nl.length
                clear hsk
                go_wp2_with (at_builtin; go_must (refine wpList_append_St kI HS2.out 1 rfl rfl (.tmp 184) (.tmp 190) 51 (.int .i64 0) 8 rfl Tryd.underlying51 infoI rfl (by decide) (by decide) ((ct nl.length).length : Int) [.int .i64 ((ct nl.length).length : Int)] rfl rfl rfl (by omega) ?_; intro v1 w9 HG HS9; obtain ⟨X1, c1x, hv1x⟩ := HG.out.slice; subst hv1x; have HS3 : Hid (St w w9 ([obA K hs 42, obI (.slice (some X1) (nl.length + 1) c1x) (nl ++ [((ct nl.length).length : Int)])] ++ (fam 5 (famL kA 32 flA hs (stC ct (fcA ct) nl.length)) ++ F))) := HS9; clear HG HS9 HS2 g0))
                have HV2 : Hid (∀ j, j < nl.length + 1 → (nl ++ [((ct nl.length).length : Int)])[j]? = some ((ct j).length : Int)) := Lib.hid (fun j hj => by
                  rcases Nat.lt_or_ge j nl.length with h | h
                  · rw [List.getElem?_append_left h]; exact HV.out j h
                  · obtain rfl : j = nl.length := by omega
                    simp)
                obtain ⟨wo, rfl⟩ : ∃ wo : World, wo = w9 := ⟨_, rfl⟩
                go_loopw [21] (fun i wr => ∃ m : Nat, m ≤ (ct nl.length).length ∧ i = .int .i64 m ∧ Hid (St w wr ([obA K hs 42, obI (.slice (some X1) (nl.length + 1) c1x) (nl ++ [((ct nl.length).length : Int)])] ++ (fam 5 (famL kA 32 flA hs (flC ct (fcA ct) nl.length m)) ++ F)))) (fun i _ => (ct nl.length).length - (intOf i).toNat)
                case atStart => exact ⟨0, Nat.zero_le _, rfl, Lib.hid (HS3.out.famEq2 fun j hj => by show obW _ _ _ _ _ = obW _ _ _ _ _; rw [flC_zero])⟩
                case round =>
                  obtain ⟨m, hm, rfl, HSm⟩ := hrel
                  clear HS3
                  obtain ⟨g0, _⟩ := HSm.out.cellA 0 rfl nl.length (by rw [HL.out]; exact hlt)
                  rw [HK.out] at g0
                  replace g0 : wr.cell? ⟨K, nl.length, none⟩ = some (.slice B (ct nl.length).length bc) := g0
                  by_cases hmt : m < (ct nl.length).length
                  · have hmz : (m : Int) < ((ct nl.length).length : Int) := by omega
                    have hm0 : (0 : Int) ≤ (m : Int) := by omega
                    have f0 := fam_at [obA K hs 42, obI (.slice (some X1) (nl.length + 1) c1x) (nl ++ [((ct nl.length).length : Int)])] (famL kA 32 flA hs (flC ct (fcA ct) nl.length m)) F hlt
                    rw [show famL kA 32 flA hs (flC ct (fcA ct) nl.length m) nl.length = obAd (.slice B (ct nl.length).length bc) (mixL (fcA ct nl.length) (ct nl.length) m) from by show obW _ _ _ _ _ = obW _ _ _ _ _; rw [flC_at, HK.out]] at f0
                    have hml := mixL_len (fcA_len ct nl.length) m
                    obtain ⟨g, cap, hv1y, _⟩ := HSm.out.formW _ f0 (by rw [hml]; omega)
                    injection hv1y with h1 h2 h3
                    subst h1
                    have F0 := Lib.hid f0
                    clear f0 hml h2 h3
                    go_wp2_with (first
                      | (refine gate_ (.build 32 #[(0, .tmp 207)]) rfl ?_; go_must (refine wpList_buildA rfl 32 #[(0, .tmp 207)] rfl [(0, .int .i64 (-1 - (nl.length : Int)))] rfl (built_v _) ?_))
                      | (refine gate_ (.store 32 (.tmp 209) (.tmp 208)) rfl ?_; go_must (refine wpList_store_St kA HSm.out _ F0.out rfl rfl 32 (.tmp 209) (.tmp 208) rfl (m : Int) (by omega) hmz (mkW nl.length) _ (aL (mkW nl.length)) ?h1 rfl rfl sizA17 rfl rfl ?_)))
                    case h1 => rfl
                    intro w9 HS9
                    clear HSm g0
                    go_wp2
                    go_roundw
                    case rel => exact ⟨m + 1, by omega, by go_num, Lib.hid (St.famPut (F := [obA K hs 42, obI (.slice (some X1) (nl.length + 1) c1x) (nl ++ [((ct nl.length).length : Int)])]) HS9.out hlt fun j hj => by
                      show obW _ _ _ _ _ = if j = nl.length then _ else obW _ _ _ _ _
                      rw [flC_step ct (fcA ct) nl.length m (m + 1) j]
                      by_cases e : j = nl.length
                      · subst e
                        rw [if_pos rfl, if_pos rfl, HK.out]
                        try rw [Int.toNat_natCast]
                        rw [mixL_step (fcA_len ct nl.length) hmt (fcA_get ct nl.length m hmt)]
                      · rw [if_neg e, if_neg e])⟩
                    case measure => simp [intOf]; omega
                  · have hmz : m = (ct nl.length).length := by omega
                    subst hmz
                    have HS4 := Lib.hid (HSm.out.famEq2 (g := famL kA 32 flA hs (stC ct (fcA ct) (nl.length + 1))) fun j hj => by show obW _ _ _ _ _ = obW _ _ _ _ _; rw [flC_end ct (fcA ct) nl.length j (fcA_len ct nl.length)])
                    clear HSm
                    go_wp2
                    go_roundw
                    case rel => exact ⟨nl ++ [((ct nl.length).length : Int)], some X1, _, c1x, by rw [List.length_append, List.length_singleton]; omega, by rw [List.length_append, List.length_singleton]; go_num, rfl, by rw [List.length_append, List.length_singleton]; exact HV2, by rw [List.length_append, List.length_singleton]; exact HS4⟩
                    case measure => simp [intOf]; omega
              · have hnl : nl.length = 5 := by omega
                have hltz : ¬ (nl.length : Int) < 5 := by omega
                have HNL := Lib.hid hnl
                have HV5 : Hid (∀ j, j < 5 → nl[j]? = some ((ct j).length : Int)) := Lib.hid (by have := HV.out; rw [hnl] at this; exact this)
                have HSL : Hid (St w wr ([obA K hs 42, obI (.slice NA nq nc) nl] ++ (fam 5 (famL kA 32 flA hs (lgA ct 0 0)) ++ F))) := Lib.hid (by
                  have h := HS2.out
                  rw [hnl] at h
                  exact h.famEq2 fun j hj => by show obW _ _ _ _ _ = obW _ _ _ _ _; rw [lgA_zero ct 5 j hj])
                clear HS2 hkk hnl hlt HV
                go_wp2_with fail
                go_loopw [22] (fun i wr => ∃ (k : Nat) (us : List Hdr), k ≤ 5 ∧ i = .int .i64 k ∧ Hid (us.length = 5) ∧ Hid (St w wr ([obA K us 42, obI (.slice NA nq nc) nl] ++ (fam 5 (famL kA 32 flA us (lgA ct k 0)) ++ F)))) (fun i _ => 5 - (intOf i).toNat)
                case atStart => exact ⟨0, hs, Nat.zero_le _, rfl, HL, HSL⟩
                case round =>
                  obtain ⟨k2, us, hk2, rfl, HU, HS2⟩ := hrel
                  clear HSL
                  by_cases hlt : k2 < 5
                  · have hltz2 : (k2 : Int) < 5 := by omega
                    have hkk0 : (0 : Int) ≤ (k2 : Int) := by omega
                    have hcl := HC.out k2
                    go_wp2_with fail
                    obtain ⟨wo, rfl⟩ : ∃ wo : World, wo = wr := ⟨_, rfl⟩
                    go_loopw [23] (fun i wr => ∃ (m : Nat) (us : List Hdr), m ≤ 80 ∧ i = .int .i64 m ∧ Hid (us.length = 5) ∧ Hid (St w wr ([obA K us 42, obI (.slice NA nq nc) nl] ++ (fam 5 (famL kA 32 flA us (lgA ct k2 m)) ++ F)))) (fun i _ => 80 - (intOf i).toNat)
                    case atStart => exact ⟨0, us, Nat.zero_le _, rfl, HU, HS2⟩
                    case round =>
                      clear HS2 HU us
                      obtain ⟨m, us, hm, rfl, HU, HSm⟩ := hrel
                      by_cases hmt : m < 80
                      · have hmz : (m : Int) < 80 := by omega
                        obtain ⟨g0, _⟩ := HSm.out.cellA 0 rfl k2 (by rw [HU.out]; exact hlt)
                        have f0 := fam_at [obA K us 42, obI (.slice NA nq nc) nl] (famL kA 32 flA us (lgA ct k2 m)) F hlt
                        obtain ⟨s, hsk⟩ : ∃ s, SL.hd us k2 = s := ⟨_, rfl⟩
                        rw [show famL kA 32 flA us (lgA ct k2 m) k2 = obAd (SL.hv s) (fcA ct k2 ++ List.replicate m (mkM k2)) from by show obW _ _ _ _ _ = obW _ _ _ _ _; rw [lgA_at, hsk]] at f0
                        rw [hsk] at g0
                        obtain ⟨B, bq, bc⟩ := s
                        replace g0 : wr.cell? ⟨K, k2, none⟩ = some (.slice B bq bc) := g0
                        have F0 := Lib.hid f0
                        clear f0 hsk
                        go_wp2_with (first
                          | (refine gate_ (.build 32 #[(0, .tmp 227)]) rfl ?_; go_must (refine wpList_buildA rfl 32 #[(0, .tmp 227)] rfl [(0, .int .i64 (-101 - (k2 : Int)))] rfl (built_v _) ?_))
                          | (refine gate_ (.buildSlice 42 1 #[(0, .tmp 228)]) rfl ?_; go_must (refine wpList_bls_A rfl (.tmp 228) rfl (mkM k2) rfl ?_))
                          | (at_builtin; go_must (refine wpList_append_St kA HSm.out _ F0.out rfl (.tmp 225) (.tmp 229) 42 (.agg (aV (zA 0))) 24 rfl Tryd.underlying42 infoA (aV_size _) (by decide) (by decide) (mkM k2) (aL (mkM k2)) rfl rfl rfl (by rw [List.length_append, List.length_replicate, fcA_len]; omega) ?_)))
                        intro v1 w9 HG HS9
                        obtain ⟨X1, c1x, hv1y⟩ := HG.out.slice
                        subst hv1y
                        clear HSm F0 HG g0
                        have HS8 := Lib.hid (St.famPut (F := [obA K us 42, obI (.slice NA nq nc) nl]) (g := famL kA 32 flA (us.set k2 (some X1, (fcA ct k2).length + m + 1, c1x)) (lgA ct k2 (m + 1))) HS9.out hlt fun j hj => by
                          show obW _ _ _ _ _ = if j = k2 then _ else obW _ _ _ _ _
                          rw [hd_set _ _ _ _ (by rw [HU.out]; exact hlt), lgA_step ct k2 m j]
                          by_cases e : j = k2
                          · rw [if_pos e, if_pos e, if_pos e, List.append_assoc]
                          · rw [if_neg e, if_neg e, if_neg e])
                        clear HS9
                        obtain ⟨g2, g3⟩ := HS8.out.cellA 0 rfl k2 (by rw [HU.out]; exact hlt)
                        go_wp2
                        go_roundw
                        case rel => exact ⟨m + 1, us.set k2 (some X1, (fcA ct k2).length + m + 1, c1x), by omega, by go_num, Lib.hid ((List.length_set ..).trans HU.out), Lib.hid (HS8.out.setA 0 rfl k2 (some X1, (fcA ct k2).length + m + 1, c1x))⟩
                        case measure => simp [intOf]; omega
                      · obtain rfl : m = 80 := by omega
                        have HS4 := Lib.hid (HSm.out.famEq2 (g := famL kA 32 flA us (lgA ct (k2 + 1) 0)) fun j hj => by show obW _ _ _ _ _ = obW _ _ _ _ _; rw [lgA_next])
                        clear HSm
                        go_wp2
                        go_roundw
                        case rel => exact ⟨k2 + 1, us, by omega, by go_num, HU, HS4⟩
                        case measure => simp [intOf]; omega
                  · have hk5 : k2 = 5 := by omega
                    have hltz2 : ¬ (k2 : Int) < 5 := by omega
                    have HS5 : Hid (St w wr ([obA K us 42, obI (.slice NA nq nc) nl] ++ (fam 5 (famL kA 32 flA us (lgA ct 5 0)) ++ F))) := Lib.hid (by have h := HS2.out; rw [hk5] at h; exact h)
                    clear HS2 hk2 hk5 hlt
                    have HN2 := Lib.hid (show ∀ k, k < 5 → (SL.hd us k).2.1 = (ct k).length + 80 from fun k hk => by
                      have := (Kd.R_reads' (HS5.out.get _ (fam_at [obA K us 42, obI (.slice NA nq nc) nl] (famL kA 32 flA us (lgA ct 5 0)) F hk))).1
                      rw [lgA_len, if_pos hk] at this
                      exact this)
                    go_wp2_with fail
                    go_loop [24] (fun i => ∃ k : Nat, k ≤ 5 ∧ i = .int .i64 k) (fun i => 5 - (intOf i).toNat)
                    case atStart => exact ⟨0, Nat.zero_le _, rfl⟩
                    case round =>
                      obtain ⟨k, hk, rfl⟩ := hrel
                      by_cases hlt : k < 5
                      · have hltz : (k : Int) < 5 := by omega
                        have hkk0 : (0 : Int) ≤ (k : Int) := by omega
                        have hcl := HC.out k
                        obtain ⟨g0, _⟩ := HS5.out.cellA 0 rfl k (by rw [HU.out]; exact hlt)
                        obtain ⟨an, hAn, gn⟩ := cellNum (HS5.out.readW 1 rfl) rfl k (HV5.out k hlt)
                        subst hAn
                        have hnq : nq = nl.length := (Kd.R_reads' (HS5.out.get 1 rfl)).1
                        have hnqz : (k : Int) < (nq : Int) := by have := HNL.out; omega
                        have f0 := fam_at [obA K us 42, obI (.slice (some an) nq nc) nl] (famL kA 32 flA us (lgA ct 5 0)) F hlt
                        obtain ⟨_, _, hC⟩ := Kd.R_reads' (HS5.out.get _ f0)
                        have hlk := HN2.out k hlt
                        obtain ⟨s, hsk⟩ : ∃ s, SL.hd us k = s := ⟨_, rfl⟩
                        rw [hsk] at g0 hlk hC
                        obtain ⟨A, q9, c9⟩ := s
                        have hlk : q9 = (ct k).length + 80 := hlk
                        subst hlk
                        replace g0 : wr.cell? ⟨K, k, none⟩ = some (.slice A ((ct k).length + 80) c9) := g0
                        replace gn : wr.cell? (an.add k) = some (.int .i64 ((ct k).length : Int)) := gn
                        have hC : kA.C wr A (lgA ct 5 0 k).length (lgA ct 5 0 k) := hC
                        have HD := Lib.hid hC
                        have HLT := Lib.hid hlt
                        have HNQ := Lib.hid hnq
                        clear f0 hC hsk hnq
                        go_wp2_with fail
                        go_loop [25] (fun i => ∃ m : Nat, m ≤ (ct k).length + 80 ∧ i = .int .i64 m) (fun i => (ct k).length + 80 - (intOf i).toNat)
                        case atStart => exact ⟨0, Nat.zero_le _, rfl⟩
                        case round =>
                          obtain ⟨m, hm, rfl⟩ := hrel
                          by_cases hmt : m < (ct k).length + 80
                          · have hmz : (m : Int) < (ct k).length + 80 := by omega
                            have hmz2 : (m : Int) < (((ct k).length + 80 : Nat) : Int) := by omega
                            by_cases hml : m < (ct k).length
                            · have hmlz : decide ((m : Int) < ((ct k).length : Int)) = true := by simp; omega
                              have hmlz2 : decide (m < (ct k).length) = true := by simp; omega
                              have hmlz3 : decide (((ct k).length : Int) ≤ (m : Int)) = false := by simp; omega
                              have hmlz4 : decide ((ct k).length ≤ m) = false := by simp; omega
                              obtain ⟨b3, hB3, p3⟩ := cellAd HD.out rfl m (lgA_lo ct 5 k m hml)
                              subst hB3
                              replace p3 : wr.cell? (b3.add (m * 17)) = some (.int .i64 (-1 - (k : Int))) := p3
                              go_wp2
                              go_round
                              case rel => exact ⟨m + 1, by omega, by go_num⟩
                              case measure => simp [intOf]; omega
                            · have hmlz : decide ((m : Int) < ((ct k).length : Int)) = false := by simp; omega
                              have hmlz2 : decide (m < (ct k).length) = false := by simp; omega
                              have hmlz3 : decide (((ct k).length : Int) ≤ (m : Int)) = true := by simp; omega
                              have hmlz4 : decide ((ct k).length ≤ m) = true := by simp; omega
                              obtain ⟨b3, hB3, p3⟩ := cellAd HD.out rfl m (lgA_hi ct 5 k m HLT.out (by omega) hmt)
                              subst hB3
                              replace p3 : wr.cell? (b3.add (m * 17)) = some (.int .i64 (-101 - (k : Int))) := p3
                              go_wp2
                              go_round
                              case rel => exact ⟨m + 1, by omega, by go_num⟩
                              case measure => simp [intOf]; omega
                          · obtain rfl : m = (ct k).length + 80 := by omega
                            go_wp2
                            go_round
                            case rel => exact ⟨k + 1, by have := HLT.out; omega, by go_num⟩
                            case measure => have := HLT.out; simp [intOf]; omega
                      · have hk5 : k = 5 := by omega
                        have hltz : ¬ (k : Int) < 5 := by omega
                        have HSW : Hid (St w wr (Wat wp p b 8 10 5280 (now + 50) hv1 hd1 c1' [obAd (.slice A7 LA.length n7) LA])) := Lib.hid (by rw [HF.out]; exact HS5.out.sub ((List.sublist_append_right _ _).trans (List.sublist_append_right _ _)))
                        have k0 : wr.cell? ⟨wp, 0, none⟩ = some (.pointer (some ⟨p, 0, none⟩)) := HSW.out.cellB 0 rfl 0 rfl
                        clear HS5 HN2 hk hk5 hlt
                        go_wp2_with (first
                          | (go_at_call 14; refine (c_allF HSW.out 2 rfl HW1.out.ok HW1.out.ab HLA.out).mono ?_; rintro e w8 ⟨A8, n8, rfl, hs⟩; have HSX := Lib.hid hs; clear hs HSW k0)
                          | (go_at_call 13; refine (c_same HSX.out (HSX.out.rd 0 rfl) (HSX.out.rd 5 rfl) (by have := HLL.out.2.2; omega) (r := true) (by simp)).mono ?_; rintro e wy ⟨rfl, hs⟩; have HSY := Lib.hid hs; clear hs HSX))
                        go_ret
                        exact ⟨rfl, HSY.out.bl⟩
end Go.Proofs.YtdinkhhaomblcaaDoor.SL
