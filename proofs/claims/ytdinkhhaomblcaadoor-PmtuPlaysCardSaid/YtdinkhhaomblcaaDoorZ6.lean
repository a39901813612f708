/- The document's entry as a value; Tick. No condition but sizes. -/
import Derived.Test.YtdinkhhaomblcaaDoorZ5
namespace Go.Proofs.YtdinkhhaomblcaaDoor.SL
open Go.RowKit Go.Proofs.YtdinkhhaomblcaaDoorW.PrintWords Go.Proofs.YtdinkhhaomblcaaDoorW.PrintLast Go.Proofs.YtdinkhhaomblcaaDoorW.PrintMore
theorem infE : ∃ i, Tryd.prog.info? 87 = some i ∧ i.size = 20 := by
  obtain ⟨i0, hi0, hzz⟩ := Option.map_eq_some_iff.1 infoE
  simp only [Prod.mk.injEq] at hzz
  exact ⟨i0, hi0, hzz.2.1⟩
theorem sizE : (Tryd.prog.info? 87).map (·.size) = some 20 := by
  obtain ⟨i, hi, hs⟩ := infE
  rw [hi]; exact congrArg some hs
theorem zeroE (w : World) : (zeroValue 87).run Tryd.prog w = .ok (.agg (enV (zA 0, zBel))) w := by kernel_rfl
theorem fill_E (x : Ad × Bel) : Instr.fill (fun i => some (i * 20, 20)) ((Array.range (1 * 20)).map ((enV (zA 0, zBel))[· % (enV (zA 0, zBel)).size]!)) [(0, .agg (enV x))] = some (enV x) := by
  obtain ⟨⟨v, b, hb⟩, e⟩ := x
  obtain ⟨b0, b1, b2, b3, b4, b5, b6, b7, b8, b9, b10, b11, b12, b13, b14, b15, rfl⟩ := list16 b hb
  kernel_rfl
theorem bls_E (w : World) (x : Ad × Bel) : (Instr.buildSlice 81 1 #[(0, .agg (enV x))]).run Tryd.prog w = .ok (.slice (some ⟨w.heap.size, 0, none⟩) 1 1) (w.alloc (.cells (enV x) 87)) := by
  obtain ⟨i, hi, hs⟩ := infE
  have h := fill_E x
  have hz := zeroE w
  have hzs := enV_size (zA 0, zBel)
  generalize enV (zA 0, zBel) = Z at h hz hzs
  rw [hzs] at h
  simp only [Nat.one_mul] at h
  simp only [Instr.buildSlice, Sem.run_bind, run_underlying Tryd.underlying81, Result.andThen_ok, show (sizeOf 87).run Tryd.prog w = .ok 20 w by simp [sizeOf, typeInfo, hi, hs], Nat.one_mul, if_neg (show ¬ 20 > 2 ^ 24 by decide), if_neg (show ¬ 20 = 0 by decide), hz, Sem.run_pure, Value.cells, hzs, h]
  simp [newRow]
theorem enV_one (x : Ad × Bel) : (enV x).all (·.oneCell') = true := Array.all_eq_true_iff_forall_mem.2 fun u hu => enL_one x u (by simpa [enV] using hu)
theorem enV_at (x : Ad × Bel) (j : Nat) : (enV x)[17 + j]? = [Value.int .i64 x.2.est, .int .i64 x.2.fst, .int .i64 x.2.clk][j]? := by
  unfold enV
  rw [List.getElem?_toArray]
  exact enL_at x j
theorem enV_est (x : Ad × Bel) (n : Int) : (enV x).setIfInBounds 17 (.int .i64 n) = enV (x.1, { x.2 with est := n }) := by
  obtain ⟨⟨v, b, hb⟩, e⟩ := x
  obtain ⟨b0, b1, b2, b3, b4, b5, b6, b7, b8, b9, b10, b11, b12, b13, b14, b15, rfl⟩ := list16 b hb
  rfl
theorem enV_clk (x : Ad × Bel) (n : Int) : (enV x).setIfInBounds 19 (.int .i64 n) = enV (x.1, { x.2 with clk := n }) := by
  obtain ⟨⟨v, b, hb⟩, e⟩ := x
  obtain ⟨b0, b1, b2, b3, b4, b5, b6, b7, b8, b9, b10, b11, b12, b13, b14, b15, rfl⟩ := list16 b hb
  rfl
section
variable {ops : Array Oper} {rest : List Oper} {o : Oper} {a : Act} {Q : Exit → Act → World → Prop} {w W : World}
theorem ld_E (x : Operand) (hgd : o.guard = none) (ho : o.op = .load 87 x) {b k : Nat} {y : Ad × Bel} (hc : w.rangeAt b k (enL y)) (hx : a.eval x = .pointer (some ⟨b, k, none⟩)) (h : wpList Tryd.prog ops Q rest (a.put o.dst (.agg (enV y))) w) : wpList Tryd.prog ops Q (o :: rest) a w :=
  wpList_load_mid hgd _ x ho b k hx (enL y) _ hc Tryd.underlying87 rfl (by rw [enL_len]; exact sizE) h
end
theorem range_E {w : World} {b : Nat} {y : Ad × Bel} {T : TypeId} {fr : Nat × Nat} (h : w.heap[b]? = some (.cells (enV y) T fr)) : w.rangeAt b 0 (enL y) := rangeAt_row h 0 _ fun j u hu => by
  unfold enV
  rw [List.getElem?_toArray, Nat.zero_add]
  exact hu
theorem range_Ea {w : World} {b : Nat} {y : Ad × Bel} {T : TypeId} {fr : Nat × Nat} (h : w.heap[b]? = some (.cells (enV y) T fr)) : w.rangeAt b 0 (aL y.1) := fun j u hu => range_E h j u (by
  unfold enL
  rw [List.getElem?_append_left (List.getElem?_eq_some_iff.1 hu).1]
  exact hu)
theorem ordS_nil : ordS [] = [] := rfl
section
variable {w0 w : World} {Γ Δ : List Ob}
theorem outL0 (A now : Int) (L : Mp) : outL A now L 0 = [] := rfl
theorem leftL0 (A now : Int) (L : Mp) : leftL A now L 0 = [] := rfl
/-- The list's header is written anew, the list before it is dropped. -/
theorem rc_list {p : Nat} {E A last : Int} {v : Value} {l' : Mp} {B : Option Addr} {c' : Nat} {o : Ob} (h : St w0 w (obEn (.slice B l'.length c') l' :: obB p (rcV E A last v) 83 :: o :: Δ)) :
    St w0 (w.setCell ⟨p, 2, none⟩ (.slice B l'.length c')) (RcSt.G ⟨p, B, c', E, A, last, l'⟩ ++ Δ) := by
  have h1 := h.setB 1 rfl 2 (.slice B l'.length c')
  have h2 : St w0 (w.setCell ⟨p, 2, none⟩ (.slice B l'.length c')) (obEn (.slice B l'.length c') l' :: obB p (rcV E A last (.slice B l'.length c')) 83 :: o :: Δ) := h1
  have h3 : St w0 (w.setCell ⟨p, 2, none⟩ (.slice B l'.length c')) (obB p (rcV E A last (.slice B l'.length c')) 83 :: obEn (.slice B l'.length c') l' :: o :: Δ) := h2.perm (List.Perm.swap _ _ _)
  exact h3.sub (List.Sublist.cons_cons _ (List.Sublist.cons_cons _ (List.sublist_cons_self _ _)))
theorem rc_list2 {p : Nat} {E A last : Int} {v : Value} {l' : Mp} {B : Option Addr} {c' : Nat} {o oo : Ob} (h : St w0 w (obEn (.slice B l'.length c') l' :: oo :: obB p (rcV E A last v) 83 :: o :: Δ)) :
    St w0 (w.setCell ⟨p, 2, none⟩ (.slice B l'.length c')) (oo :: (RcSt.G ⟨p, B, c', E, A, last, l'⟩ ++ Δ)) := by
  have h1 : St w0 w (obEn (.slice B l'.length c') l' :: obB p (rcV E A last v) 83 :: o :: oo :: Δ) := h.perm ((List.perm_middle (l₁ := [obB p (rcV E A last v) 83, o]) (l₂ := Δ) (a := oo)).cons _)
  exact (rc_list h1).perm (List.perm_middle (l₁ := RcSt.G ⟨p, B, c', E, A, last, l'⟩)).symm
set_option maxHeartbeats 2000000 in
theorem rtick_bad (x : RcSt) (h : St w0 w (x.G ++ Δ)) (now : Int) (hb : now < x.last ∨ 1099511627776 < now) :
    Calls Tryd.prog 31 #[.pointer (some ⟨x.p, 0, none⟩), .int .i64 now] w fun e w' => e = .returned (.tuple #[.slice none 0 0, .int .i64 1]) ∧ w' = w := by
  obtain ⟨p, B, c, E, A, last, L⟩ := x
  have c3 := (RcSt.cells h).2.2.2
  replace hb : now < last ∨ 1099511627776 < now := hb
  show Calls Tryd.prog _ #[.pointer (some ⟨p, 0, none⟩), .int .i64 now] w _
  by_cases h1 : now < last
  · clear hb h
    go_enter Tryd.func31, Tryd.ntmps31
    go_wp2
    go_ret2
    exact ⟨rfl, rfl⟩
  · have h2 : 1099511627776 < now := by omega
    clear hb h
    go_enter Tryd.func31, Tryd.ntmps31
    go_wp2
    go_ret2
    exact ⟨rfl, rfl⟩
end
attribute [-go_sem] loadVar Instr.buildSlice
attribute [local go_sem] lv3 lv64 lvSl bls_A bls_E
attribute [local go_sem ↓] Go.wp_at_zero Go.wp_at_succ
section
variable {w0 w : World} {Γ Δ : List Ob}
/-- Behind Tick. -/
def RTickP (w0 : World) (Δ : List Ob) (p : Nat) (E A now : Int) (L : Mp) (e : Ending) (w' : World) : Prop :=
  ∃ A' c' B c, e = .returned (.tuple #[.slice A' (outL A now L L.length).length c', .int .i64 0]) ∧ St w0 w' (obAd (.slice A' (outL A now L L.length).length c') (outL A now L L.length) :: (RcSt.G ⟨p, B, c, E, A, now, leftL A now L L.length⟩ ++ Δ))
set_option maxHeartbeats 16000000 in
set_option maxRecDepth 100000 in
theorem rtick_yes (x : RcSt) (h : St w0 w (x.G ++ Δ)) (hl : x.L.length ≤ 100) (hen : ∀ y ∈ x.L, 0 ≤ y.2.clk ∧ y.2.clk ≤ x.last ∧ y.2.est < y.2.fst) (now : Int) (hn1 : x.last ≤ now) (hn2 : now ≤ 1099511627776) :
    Calls Tryd.prog 31 #[.pointer (some ⟨x.p, 0, none⟩), .int .i64 now] w (RTickP w0 Δ x.p x.E x.A now x.L) := by
  obtain ⟨p, B, c, E, A, last, L⟩ := x
  replace hl : L.length ≤ 100 := hl
  replace hn1 : last ≤ now := hn1
  have HENT : Hid (∀ k, ∀ hk : k < L.length, 0 ≤ L[k].2.clk ∧ L[k].2.clk ≤ now ∧ L[k].2.est < L[k].2.fst) := Lib.hid fun k hk => by
    obtain ⟨h1, h2, h3⟩ := hen _ (List.getElem_mem hk)
    have h2' : L[k].2.clk ≤ last := h2
    exact ⟨h1, by omega, h3⟩
  have c3 := (RcSt.cells h).2.2.2
  have f3 := h.freeB 0 rfl 3
  have g1 : ¬ now < last := by omega
  have g2 : ¬ 1099511627776 < now := by omega
  have q1 := ((h.setB 0 rfl 3 (.int .i64 now)).newW (d := kA) (e := 32) flA).front1
  have HS0 : Hid (St w0 (w.setCell ⟨p, 3, none⟩ (.int .i64 now)) (obEn (.slice none (leftL A now L 0).length 0) (leftL A now L 0) :: obAd (.slice none (outL A now L 0).length 0) (outL A now L 0) :: (RcSt.G ⟨p, B, c, E, A, now, L⟩ ++ Δ))) := Lib.hid (q1.newW (d := kE) (e := 87) flE).front1
  show Calls Tryd.prog 31 #[.pointer (some ⟨p, 0, none⟩), .int .i64 now] w (RTickP w0 Δ p E A now L)
  clear h q1 hen
  go_enter Tryd.func31, Tryd.ntmps31
  go_wp2_with fail
  generalize w.setCell ⟨p, 3, none⟩ (.int .i64 now) = W at HS0 ⊢
  clear c3 f3 g1 g2
  go_loopw [6, 7, 8] (fun vo vl s8 wr => ∃ (k : Nat) (A1 B1 : Option Addr) (c1 d1 : Nat), k ≤ L.length ∧ s8 = .int .i64 k ∧ vo = .slice A1 (outL A now L k).length c1 ∧ vl = .slice B1 (leftL A now L k).length d1 ∧ Hid (St w0 wr (obEn (.slice B1 (leftL A now L k).length d1) (leftL A now L k) :: obAd (.slice A1 (outL A now L k).length c1) (outL A now L k) :: (RcSt.G ⟨p, B, c, E, A, now, L⟩ ++ Δ)))) (fun _ _ s8 _ => L.length - (intOf s8).toNat)
  case atStart => exact ⟨0, none, none, 0, 0, Nat.zero_le _, rfl, rfl, rfl, HS0⟩
  case round =>
    clear HS0
    obtain ⟨k, A1, B1, c1, d1, hk, rfl, rfl, rfl, HS⟩ := hrel
    have hk0 : (0 : Int) ≤ (k : Int) := by omega
    have c2 : wr.cell? ⟨p, 2, none⟩ = some (.slice B L.length c) := HS.out.cellB 2 rfl 2 rfl
    by_cases hkt : k < L.length
    · have hkz : (k : Int) < (L.length : Int) := by omega
      obtain ⟨g, rfl, he⟩ := HS.out.en 3 rfl k hkt
      have HR := Lib.hid he.ra
      obtain ⟨e1, e2, e3⟩ := HENT.out k hkt
      have hol : (outL A now L k).length ≤ 100 := Nat.le_trans (out_len A now L hk) (by omega)
      have hll : (leftL A now L k).length ≤ 100 := Nat.le_trans (left_le A now L hk) (by omega)
      have hrs : rise A now above L[k] = if A ≤ now - L[k].2.clk then (if L[k].2.fst ≤ above L[k].2.est then none else some (L[k].1, { L[k].2 with est := above L[k].2.est, clk := now })) else some L[k] := rfl
      have HOY : Hid (A ≤ now - L[k].2.clk → outL A now L (k + 1) = insA L[k].1 (outL A now L k)) := Lib.hid fun h => out_yes hkt h
      have HON : Hid (¬ A ≤ now - L[k].2.clk → outL A now L (k + 1) = outL A now L k) := Lib.hid fun h => out_no hkt h
      have HLS : Hid (∀ y, rise A now above L[k] = some y → leftL A now L (k + 1) = leftL A now L k ++ [y]) := Lib.hid fun y h => left_some hkt h
      have HLN : Hid (rise A now above L[k] = none → leftL A now L (k + 1) = leftL A now L k) := Lib.hid fun h => left_none hkt h
      have HRS := Lib.hid hrs
      clear he hrs
      generalize L[k] = x at *
      obtain ⟨b, hb⟩ : ∃ b, wr.heap.size = b := ⟨_, rfl⟩
      have HNB := Lib.hid hb
      clear hb
      have hw : IntKind.i64.wrap (now - x.2.clk) = now - x.2.clk := IntWalk.i64_in _ (by omega)
      by_cases hdue : A ≤ now - x.2.clk
      · have hdd : decide (now - x.2.clk ≥ A) = true := decide_eq_true hdue
        have HO := Lib.hid (HOY.out hdue)
        have HRS2 := Lib.hid (HRS.out.trans (if_pos hdue))
        clear HOY HON HRS
        go_wp2_with (first
          | (refine gate_ (.load 87 (.tmp 38)) rfl ?_; go_must (refine ld_E (.tmp 38) rfl rfl HR.out rfl ?_))
          | (refine gate_ (.alloc 87) rfl ?_; go_must (refine wpList_alloc_B rfl 87 rfl _ zeroE b HNB.out HS.out ?_; intro w3 hz hs; clear hz; have HS1 := Lib.hid hs.front1; clear hs))
          | (refine gate_ (.store 87 (.tmp 9) (.tmp 39)) rfl ?_; go_must (refine wpList_store_B HS1.out 0 rfl rfl rfl 87 (.tmp 9) (.tmp 39) rfl (enV x) rfl rfl (by rw [enV_size]; exact sizE) (by rw [enV_size]; exact enV_size _) (enV_one _) ?_; intro w4 hs; have HS2 : Hid (St w0 w4 (obB b (enV x) 87 :: obEn (.slice B1 (leftL A now L k).length d1) (leftL A now L k) :: obAd (.slice A1 (outL A now L k).length c1) (outL A now L k) :: (RcSt.G ⟨p, some ⟨g, 0, none⟩, c, E, A, now, L⟩ ++ Δ))) := Lib.hid hs; have e19 := HS2.out.cellB 0 rfl 19 (enV_at x 2); have p1 := HS2.out.cellB 3 rfl 1 rfl; clear hs HS1)))
        go_quiet (fail)
        have HSd := Lib.hid fun n => HS2.out.drewN n
        have HPT : Hid (∀ n, Calls Tryd.prog 33 #[.slice A1 (outL A now L k).length c1, .agg (aV x.1)] (w4.drewN n) fun e w' => ∃ A2 c2', e = .returned (.slice A2 (outL A now L (k + 1)).length c2') ∧ St w0 w' (obAd (.slice A2 (outL A now L (k + 1)).length c2') (outL A now L (k + 1)) :: obB b (enV x) 87 :: obEn (.slice B1 (leftL A now L k).length d1) (leftL A now L k) :: (RcSt.G ⟨p, some ⟨g, 0, none⟩, c, E, A, now, L⟩ ++ Δ))) := Lib.hid fun n => (put_raw (HSd.out n) 2 rfl hol x.1).mono fun e w' ⟨A2, c2', he, hs⟩ => by
          rw [← HO.out] at he hs
          exact ⟨A2, c2', he, hs.sub (List.Sublist.cons_cons _ (List.Sublist.cons_cons _ (List.Sublist.cons_cons _ (List.sublist_cons_self _ _))))⟩
        have HAB := Lib.hid fun W => rabove_any x.2.est W
        obtain ⟨na, hna⟩ : ∃ na, above x.2.est = na := ⟨_, rfl⟩
        rw [hna] at HAB HRS2
        clear hna
        by_cases hup : x.2.fst ≤ na
        · have hup2 : decide (na < x.2.fst) = false := decide_eq_false (by omega)
          have HLL := Lib.hid (HLN.out (HRS2.out.trans (if_pos hup)))
          clear HLS HLN HRS2
          go_wp2_with (first
            | (refine gate_ (.load 32 (.tmp 51)) rfl ?_; go_must (refine ld_A (.tmp 51) rfl rfl (range_Ea ((HSd.out _).get 0 rfl)) rfl ?_))
            | (go_at_call 33; refine (HPT.out _).mono ?_; rintro e w5 ⟨A2, c2', rfl, hs⟩; have e17 := hs.cellB 1 rfl 17 (enV_at x 0); have f17 := hs.freeB 1 rfl 17; have hs4 := hs.setB 1 rfl 17 (.int .i64 na); rw [enV_est] at hs4; have HS4 : Hid (St w0 (w5.setCell ⟨b, 17, none⟩ (.int .i64 na)) (obAd (.slice A2 (outL A now L (k + 1)).length c2') (outL A now L (k + 1)) :: obB b (enV (x.1, { x.2 with est := na })) 87 :: obEn (.slice B1 (leftL A now L k).length d1) (leftL A now L k) :: (RcSt.G ⟨p, some ⟨g, 0, none⟩, c, E, A, now, L⟩ ++ Δ))) := Lib.hid hs4; have g19 := HS4.out.cellB 1 rfl 19 (enV_at _ 2); have f19 := HS4.out.freeB 1 rfl 19; have hs5 := HS4.out.setB 1 rfl 19 (.int .i64 now); rw [enV_clk] at hs5; have HS5 : Hid (St w0 ((w5.setCell ⟨b, 17, none⟩ (.int .i64 na)).setCell ⟨b, 19, none⟩ (.int .i64 now)) (obAd (.slice A2 (outL A now L (k + 1)).length c2') (outL A now L (k + 1)) :: obB b (enV (x.1, { x.2 with est := na, clk := now })) 87 :: obEn (.slice B1 (leftL A now L k).length d1) (leftL A now L k) :: (RcSt.G ⟨p, some ⟨g, 0, none⟩, c, E, A, now, L⟩ ++ Δ))) := Lib.hid hs5; have k17 := HS5.out.cellB 1 rfl 17 (enV_at _ 0); have k18 := HS5.out.cellB 1 rfl 18 (enV_at _ 1); clear hs hs4 hs5)
            | (go_at_call 46; refine (HAB.out _).mono ?_; rintro e w6 ⟨rfl, rfl⟩))
          go_roundw
          case rel => exact ⟨k + 1, A2, B1, c2', d1, by omega, by go_num, rfl, by rw [HLL.out], by rw [HLL.out]; exact Lib.hid ((HS5.out.sub (List.Sublist.cons_cons _ (List.sublist_cons_self _ _))).perm (List.Perm.swap _ _ _))⟩
          case measure => simp [intOf]; omega
        · have hup2 : decide (na < x.2.fst) = true := decide_eq_true (by omega)
          have HLL := Lib.hid (HLS.out _ (HRS2.out.trans (if_neg hup)))
          clear HLS HLN HRS2
          go_wp2_with (first
            | (refine gate_ (.load 32 (.tmp 51)) rfl ?_; go_must (refine ld_A (.tmp 51) rfl rfl (range_Ea ((HSd.out _).get 0 rfl)) rfl ?_))
            | (go_at_call 33; refine (HPT.out _).mono ?_; rintro e w5 ⟨A2, c2', rfl, hs⟩; have e17 := hs.cellB 1 rfl 17 (enV_at x 0); have f17 := hs.freeB 1 rfl 17; have hs4 := hs.setB 1 rfl 17 (.int .i64 na); rw [enV_est] at hs4; have HS4 : Hid (St w0 (w5.setCell ⟨b, 17, none⟩ (.int .i64 na)) (obAd (.slice A2 (outL A now L (k + 1)).length c2') (outL A now L (k + 1)) :: obB b (enV (x.1, { x.2 with est := na })) 87 :: obEn (.slice B1 (leftL A now L k).length d1) (leftL A now L k) :: (RcSt.G ⟨p, some ⟨g, 0, none⟩, c, E, A, now, L⟩ ++ Δ))) := Lib.hid hs4; have g19 := HS4.out.cellB 1 rfl 19 (enV_at _ 2); have f19 := HS4.out.freeB 1 rfl 19; have hs5 := HS4.out.setB 1 rfl 19 (.int .i64 now); rw [enV_clk] at hs5; have HS5 : Hid (St w0 ((w5.setCell ⟨b, 17, none⟩ (.int .i64 na)).setCell ⟨b, 19, none⟩ (.int .i64 now)) (obAd (.slice A2 (outL A now L (k + 1)).length c2') (outL A now L (k + 1)) :: obB b (enV (x.1, { x.2 with est := na, clk := now })) 87 :: obEn (.slice B1 (leftL A now L k).length d1) (leftL A now L k) :: (RcSt.G ⟨p, some ⟨g, 0, none⟩, c, E, A, now, L⟩ ++ Δ))) := Lib.hid hs5; have k17 := HS5.out.cellB 1 rfl 17 (enV_at _ 0); have k18 := HS5.out.cellB 1 rfl 18 (enV_at _ 1); clear hs hs4 hs5)
            | (go_at_call 46; refine (HAB.out _).mono ?_; rintro e w6 ⟨rfl, rfl⟩)
            | (refine gate_ (.load 87 (.tmp 9)) rfl ?_; go_must (refine ld_E (.tmp 9) rfl rfl (range_E (HS5.out.get 1 rfl)) rfl ?_))
            | (at_builtin; go_must (refine wpList_append_St kE HS5.out 2 rfl rfl (.tmp 65) (.tmp 67) 81 (.agg (enV (zA 0, zBel))) 48 rfl Tryd.underlying81 infoE (enV_size _) (by decide) (by decide) (x.1, { x.2 with est := na, clk := now }) (enL (x.1, { x.2 with est := na, clk := now })) rfl (by first | (go_simp; done) | (go_simp; rfl)) rfl (by omega) ?_; intro v1 w9 hg HS9; obtain ⟨X1, c4, rfl⟩ := hg.out.slice; clear hg)))
          go_roundw
          case rel => exact ⟨k + 1, A2, some X1, c2', c4, by omega, by go_num, rfl, by rw [HLL.out, List.length_append]; rfl, by
            have h5 : St w0 w9 (obAd (.slice A2 (outL A now L (k + 1)).length c2') (outL A now L (k + 1)) :: obB b (enV (x.1, { x.2 with est := na, clk := now })) 87 :: obEn (.slice (some X1) ((leftL A now L k).length + 1) c4) (leftL A now L k ++ [(x.1, { x.2 with est := na, clk := now })]) :: (RcSt.G ⟨p, some ⟨g, 0, none⟩, c, E, A, now, L⟩ ++ Δ)) := HS9.out
            rw [HLL.out, List.length_append]
            exact Lib.hid ((h5.sub (List.Sublist.cons_cons _ (List.sublist_cons_self _ _))).perm (List.Perm.swap _ _ _))⟩
          case measure => simp [intOf]; omega
      · have hdd : decide (now - x.2.clk ≥ A) = false := decide_eq_false hdue
        have HO := Lib.hid (HON.out hdue)
        have HLL := Lib.hid (HLS.out _ (HRS.out.trans (if_neg hdue)))
        have hup2 : decide (x.2.est < x.2.fst) = true := decide_eq_true e3
        clear HOY HON HRS HLS HLN
        go_wp2_with (first
          | (refine gate_ (.load 87 (.tmp 38)) rfl ?_; go_must (refine ld_E (.tmp 38) rfl rfl HR.out rfl ?_))
          | (refine gate_ (.alloc 87) rfl ?_; go_must (refine wpList_alloc_B rfl 87 rfl _ zeroE b HNB.out HS.out ?_; intro w3 hz hs; clear hz; have HS1 := Lib.hid hs.front1; clear hs))
          | (refine gate_ (.store 87 (.tmp 9) (.tmp 39)) rfl ?_; go_must (refine wpList_store_B HS1.out 0 rfl rfl rfl 87 (.tmp 9) (.tmp 39) rfl (enV x) rfl rfl (by rw [enV_size]; exact sizE) (by rw [enV_size]; exact enV_size _) (enV_one _) ?_; intro w4 hs; have HS2 : Hid (St w0 w4 (obB b (enV x) 87 :: obEn (.slice B1 (leftL A now L k).length d1) (leftL A now L k) :: obAd (.slice A1 (outL A now L k).length c1) (outL A now L k) :: (RcSt.G ⟨p, some ⟨g, 0, none⟩, c, E, A, now, L⟩ ++ Δ))) := Lib.hid hs; have e17 := HS2.out.cellB 0 rfl 17 (enV_at x 0); have e18 := HS2.out.cellB 0 rfl 18 (enV_at x 1); have e19 := HS2.out.cellB 0 rfl 19 (enV_at x 2); have p1 := HS2.out.cellB 3 rfl 1 rfl; clear hs HS1)))
        go_quiet (fail)
        have HSd := Lib.hid fun n => HS2.out.drewN n
        go_wp2_with (first
          | (refine gate_ (.load 87 (.tmp 9)) rfl ?_; go_must (refine ld_E (.tmp 9) rfl rfl (range_E ((HSd.out _).get 0 rfl)) rfl ?_))
          | (at_builtin; go_must (refine wpList_append_St kE (HSd.out _) 1 rfl rfl (.tmp 65) (.tmp 67) 81 (.agg (enV (zA 0, zBel))) 48 rfl Tryd.underlying81 infoE (enV_size _) (by decide) (by decide) x (enL x) rfl rfl rfl (by omega) ?_; intro v1 w9 hg HS9; obtain ⟨X1, c4, rfl⟩ := hg.out.slice; clear hg)))
        go_roundw
        case rel => exact ⟨k + 1, A1, some X1, c1, c4, by omega, by go_num, by rw [HO.out], by rw [HLL.out, List.length_append]; rfl, by
          have h5 : St w0 w9 (obB b (enV x) 87 :: obEn (.slice (some X1) ((leftL A now L k).length + 1) c4) (leftL A now L k ++ [x]) :: obAd (.slice A1 (outL A now L k).length c1) (outL A now L k) :: (RcSt.G ⟨p, some ⟨g, 0, none⟩, c, E, A, now, L⟩ ++ Δ)) := HS9.out
          rw [HLL.out, List.length_append, HO.out]
          exact Lib.hid (h5.sub (List.sublist_cons_self _ _))⟩
        case measure => simp [intOf]; omega
    · obtain rfl : k = L.length := by omega
      have hkz : ¬ (L.length : Int) < (L.length : Int) := by omega
      have f2 := HS.out.freeB 2 rfl 2
      have HF := Lib.hid (rc_list2 (Δ := Δ) HS.out)
      go_wp2_with fail
      go_ret2
      exact ⟨A1, c1, B1, d1, rfl, HF.out⟩
end
end Go.Proofs.YtdinkhhaomblcaaDoor.SL
