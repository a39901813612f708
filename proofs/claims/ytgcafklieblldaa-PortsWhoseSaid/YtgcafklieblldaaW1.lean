/- The statement's own book of sockets: its reading; the walk of its just. No condition but sizes. -/
import Derived.Test.YtgcafklieblldaaP1
import Derived.Test.YtgcafklieblldaaBH
namespace Go.Proofs.Ytgcafklieblldaa.SL
open Go.RowKit Go.Proofs.YtgcafklieblldaaW.PrintWords Go.Proofs.YtgcafklieblldaaW.PrintLast Go.Proofs.YtgcafklieblldaaW.PrintMore
abbrev RK (w : World) (base : Nat) (v : Value) (l : List Bd) : Prop := kB.R 53 w base (fun _ => True) v l
abbrev obK (v : Value) (l : List Bd) : Ob := obW kB 53 flB v l
theorem RK_len {w : World} {base : Nat} {v : Value} {l : List Bd} (h : RK w base v l) : ∃ A c, v = .slice A l.length c ∧ l.length ≤ c := by
  obtain ⟨A, c, e, hl, _⟩ := Kd.R_reads h
  exact ⟨A, c, e, hl⟩
theorem RK_at {w : World} {base : Nat} {v : Value} {l : List Bd} (h : RK w base v l) (k : Nat) (x : Bd) (hk : l[k]? = some x) : ∃ g c, v = .slice (some ⟨g, 0, none⟩) l.length c ∧ w.rangeAt g (k * 19) (bL x) ∧ g < w.heap.size := by
  have hlt : k < l.length := (List.getElem?_eq_some_iff.1 hk).1
  obtain ⟨_, inner, hown, _⟩ := id h
  obtain ⟨A, c, e, hl, hC⟩ := Kd.R_reads h
  rcases hown.2 with ⟨e2, e0⟩ | ⟨g, cap, cur, e2, _, hg, _⟩
  · omega
  · rw [e] at e2
    injection e2 with e3 _ e5
    subst e3 e5
    obtain ⟨ad, cs, hA, hlen, hK, hc⟩ := Kd.C_get hC x (k : Int) (by omega) (by omega)
    injection hA with hA
    subst hA
    obtain rfl : cs = bL (l.getD (k : Int).toNat x) := hK
    have hg' : l.getD (k : Int).toNat x = x := by rw [Int.toNat_natCast, List.getD_eq_getElem?_getD, hk]; rfl
    rw [hg'] at hc
    refine ⟨g, c, e, fun j u hu => ?_, lt_of_block hg⟩
    have := hc j u hu
    rw [add_plain, Int.toNat_natCast] at this
    exact this
attribute [-go_sem] loadVar
attribute [local go_sem] lv3
attribute [local go_sem high] eql_ad
set_option maxHeartbeats 4000000 in
theorem justB_calls (A : Option Addr) (c : Nat) (l : List Bd) (a : Ad) (port : Int) (w : World) (h : RK w 0 (.slice A l.length c) l) (hl : (l.length : Int) ≤ 1000) :
    Calls Try.prog 17 #[.slice A l.length c, .agg (aV a), .int .i64 port] w fun e w' => e = .returned (.int .i64 (findB l ⟨a, port⟩)) ∧ Below w.heap.size w w' := by
  have hB0 : Below w.heap.size w (w.alloc (.cells (aV a) 32)) := ((Touch.refl [] w).alloc _).below
  have HT := Lib.hid (Kd.R_below h hB0)
  have HB := Lib.hid hB0
  have HX := Lib.hid (heap_alloc_new w (.cells (aV a) 32))
  clear h hB0
  go_enter Try.func17, Try.ntmps17
  go_wp2_with fail
  generalize hW : w.alloc (.cells (aV a) 32) = W at HB HT HX ⊢
  have hBs : w.heap.size < W.heap.size := lt_of_block HX.out
  clear hW
  generalize hBe : w.heap.size = B at HX hBs ⊢
  have HE := Lib.hid hBe
  clear hBe
  go_loopw [7] (fun i wr => ∃ k : Nat, k ≤ l.length ∧ i = .int .i64 k ∧ Hid (Below W.heap.size W wr) ∧ Hid (∀ j (hj : j < l.length), j < k → decide (l[j].p = ⟨a, port⟩) = false)) (fun i _ => l.length - (intOf i).toNat)
  case atStart => exact ⟨0, Nat.zero_le _, rfl, Lib.hid (Below.refl _ _), Lib.hid (fun j _ hj => absurd hj (Nat.not_lt_zero _))⟩
  case round =>
    obtain ⟨k, hk, rfl, BW, AA⟩ := hrel
    have hT : RK wr 0 (.slice A l.length c) l := Kd.R_below HT.out BW.out
    by_cases hlt : k < l.length
    · have hltz : (k : Int) < (l.length : Int) := by omega
      obtain ⟨gr, c', hv, hra, hgs⟩ := RK_at hT k l[k] (List.getElem?_eq_getElem hlt)
      injection hv with hA h2 h3
      subst hA h3
      clear h2 hT hgs
      generalize hy : l[k] = y at hra
      have HY := Lib.hid hy
      clear hy
      have hp := cell_pB hra
      have hLD : ∀ q, (loadVar 32 ⟨gr, k * 19 + 1, none⟩).run Try.prog (wr.drewN q) = .ok (.agg (aV y.p.a)) (wr.drewN q) := fun q => lvA (w := wr.drewN q) (range_aB hra)
      have hLE : ∀ q, (loadVar 32 ⟨B, 0, none⟩).run Try.prog (wr.drewN q) = .ok (.agg (aV a)) (wr.drewN q) := fun q => lvA (w := wr.drewN q) (range_A ((BW.out.block B hBs).trans HX.out))
      have hn0 : wr.cell? ⟨gr, k * 19, none⟩ = some (.int .i64 y.n) := hra 0 _ rfl
      have hn1 : ∀ q, (wr.drewN q).cell? ⟨gr, k * 19, none⟩ = some (.int .i64 y.n) := fun q => hn0
      have HR := Lib.hid hra
      clear hra
      by_cases hq : y.p.a = a
      · have hd : decide (y.p.a = a) = true := decide_eq_true hq
        have HQ := Lib.hid hq
        clear hq
        by_cases hq2 : y.p.port = port
        · have hd2 : (y.p.port == port) = true := by simpa using hq2
          have HQ2 := Lib.hid hq2
          clear hq2
          go_wp2_with fail
          go_quiet (fail)
          go_wp2_with fail
          go_ret
          refine ⟨?_, bel_drewN (HB.out.trans (BW.out.mono (by rw [HE.out]; exact Nat.le_of_lt hBs))) _⟩
          rw [show findB l ⟨a, port⟩ = l[k].n from findB_hit hlt (by rw [HY.out]; exact pl_eq HQ.out HQ2.out) (fun j hj hjk => of_decide_eq_false (AA.out j hj hjk)), HY.out]
          rfl
        · have hd2 : (y.p.port == port) = false := by simpa using hq2
          have HQ2 := Lib.hid hq2
          clear hq2
          go_wp2_with fail
          go_quiet (fail)
          go_wp2_with fail
          go_roundw
          case rel => exact ⟨k + 1, by omega, by go_num, Lib.hid (bel_drewN BW.out _), Lib.hid (step_no (fun s => decide (s.p = ⟨a, port⟩)) hlt HY.out AA.out (decide_eq_false fun e => HQ2.out (by rw [e])))⟩
          case measure => simp [intOf]; omega
      · have hd : decide (y.p.a = a) = false := decide_eq_false hq
        have HQ := Lib.hid hq
        clear hq
        go_wp2_with fail
        go_quiet (fail)
        go_wp2_with fail
        go_roundw
        case rel => exact ⟨k + 1, by omega, by go_num, Lib.hid (bel_drewN BW.out _), Lib.hid (step_no (fun s => decide (s.p = ⟨a, port⟩)) hlt HY.out AA.out (decide_eq_false fun e => HQ.out (by rw [e])))⟩
        case measure => simp [intOf]; omega
    · have hltz : ¬ (k : Int) < (l.length : Int) := by omega
      have hkx : k = l.length := by omega
      subst hkx
      clear hT
      go_wp2_with fail
      go_ret
      refine ⟨?_, HB.out.trans (BW.out.mono (by rw [HE.out]; exact Nat.le_of_lt hBs))⟩
      rw [show findB l ⟨a, port⟩ = 0 from findB_miss fun j hj => of_decide_eq_false (AA.out j hj hj)]
      rfl
end Go.Proofs.Ytgcafklieblldaa.SL
