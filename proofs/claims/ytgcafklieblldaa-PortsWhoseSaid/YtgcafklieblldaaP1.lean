/- The document's table: places, numbers, kinds; the walks of just, place, New, All. No condition but sizes. -/
import Derived.Test.YtgcafklieblldaaBG
import Derived.BigQuiet
namespace Go.Proofs.Ytgcafklieblldaa.SL
open Go.RowKit Go.Proofs.YtgcafklieblldaaW.PrintWords Go.Proofs.YtgcafklieblldaaW.PrintLast Go.Proofs.YtgcafklieblldaaW.PrintMore
abbrev RS (w : World) (base : Nat) (v : Value) (l : List Bd) : Prop := kB.R 80 w base (fun _ => True) v l
structure UAt (w : World) (p : Nat) (v : Value) (most g : Int) (l : List Bd) : Prop where
  st : w.heap[p]? = some (.cells #[.int .i64 most, .int .i64 g, v] 71 (0, 0))
  row : RS w 0 v l
  ne : v.ownBlock ≠ some p
theorem RS_len {w : World} {base : Nat} {v : Value} {l : List Bd} (h : RS w base v l) : ∃ A c, v = .slice A l.length c ∧ l.length ≤ c := by
  obtain ⟨A, c, e, hl, _⟩ := Kd.R_reads h
  exact ⟨A, c, e, hl⟩
theorem RS_at {w : World} {base : Nat} {v : Value} {l : List Bd} (h : RS w base v l) (k : Nat) (x : Bd) (hk : l[k]? = some x) : ∃ g c, v = .slice (some ⟨g, 0, none⟩) l.length c ∧ w.rangeAt g (k * 19) (bL x) ∧ g < w.heap.size := by
  have hlt : k < l.length := (List.getElem?_eq_some_iff.1 hk).1
  obtain ⟨_, inner, hown, _⟩ := id h
  obtain ⟨A, c, e, hl, hC⟩ := Kd.R_reads h
  rcases hown.2 with ⟨e2, e0⟩ | ⟨g, cap, cur, e2, _, hg, _⟩
  · omega
  · rw [e] at e2
    injection e2 with e3 _ e5
    subst e3 e5
    obtain ⟨ad, cs, hA, hlen, hK, hc⟩ := Kd.C_get hC x (k : Int) (by omega) (by omega)
    injection hA with hA
    subst hA
    obtain rfl : cs = bL (l.getD (k : Int).toNat x) := hK
    have hg' : l.getD (k : Int).toNat x = x := by rw [Int.toNat_natCast, List.getD_eq_getElem?_getD, hk]; rfl
    rw [hg'] at hc
    refine ⟨g, c, e, fun j u hu => ?_, lt_of_block hg⟩
    have := hc j u hu
    rw [add_plain, Int.toNat_natCast] at this
    exact this
theorem UAt.below {w w' : World} {p : Nat} {v : Value} {most g : Int} {l : List Bd} (h : UAt w p v most g l) (hb : Below w.heap.size w w') : UAt w' p v most g l :=
  ⟨(hb.block p (lt_of_block h.st)).trans h.st, Kd.R_below h.row hb, h.ne⟩
theorem RS_same {w w' : World} {v : Value} {l : List Bd} (h : RS w 0 v l) (hs : ∀ b, v.ownBlock = some b → w'.heap[b]? = w.heap[b]?) : RS w' 0 v l := by
  obtain ⟨h0, inner, hown, hr⟩ := h
  refine ⟨h0, inner, ⟨hown.1, ?_⟩, hr.imp_ fun x c hm => hm⟩
  rcases hown.2 with h1 | ⟨g, cap, cur, e, hg, hb, r⟩
  · exact .inl h1
  · exact .inr ⟨g, cap, cur, e, hg, (hs g (by rw [e]; rfl)).trans hb, r⟩
/-- The document's table behind a pointer. -/
def obU (p : Nat) (v : Value) (most g : Int) (l : List Bd) : Ob where
  own := p :: v.ownBlock.toList
  all := p :: v.ownBlock.toList
  holds w := UAt w p v most g l
  sub := fun _ h => h
  lt := fun w h b hb => by
    rcases List.mem_cons.1 hb with rfl | hb
    · exact lt_of_block h.st
    · obtain ⟨A, c, rfl, _⟩ := RS_len h.row
      obtain ⟨_, inner, hown, _⟩ := h.row
      rcases hown.2 with ⟨e, _⟩ | ⟨g, cap, cur, e, _, hb', _⟩
      · rw [e] at hb; cases hb
      · rw [e] at hb
        obtain rfl : b = g := by simpa [Value.ownBlock] using hb
        exact lt_of_block hb'
  stab := fun w w' h hs => ⟨(hs p List.mem_cons_self).trans h.st, RS_same h.row fun b hb => hs b (List.mem_cons_of_mem _ (by rw [hb]; simp)), h.ne⟩
theorem bel_drewN {B : Nat} {w0 w : World} (h : Below B w0 w) (n : Nat) : Below B w0 (w.drewN n) := ⟨h.os, h.tape, h.output, h.size, h.block⟩
/-- The place in the list. -/
def jx (l : List Bd) (x : Pl) : Int := idxI (fun s => decide (s.p = x)) l
theorem pl_eq {x : Pl} {a : Ad} {port : Int} (h1 : x.a = a) (h2 : x.port = port) : x = ⟨a, port⟩ := by rw [← h1, ← h2]
theorem step_no (p : Bd → Bool) {l : List Bd} {k : Nat} {y : Bd} (hk : k < l.length) (hy : l[k] = y) (h : ∀ j (hj : j < l.length), j < k → p l[j] = false) (h1 : p y = false) : ∀ j (hj : j < l.length), j < k + 1 → p l[j] = false := fun j hj hjk => by
  by_cases e : j = k
  · subst e; rw [hy]; exact h1
  · exact h j hj (by omega)
attribute [-go_sem] loadVar
theorem lv69 (a : Addr) : loadVar 69 a = (do if ← isAgg 69 then pure (.agg (← loadCells a (← sizeOf 69))) else load a) := rfl
attribute [local go_sem] lv3 lv69
attribute [local go_sem high] eql_ad
set_option maxHeartbeats 4000000 in
theorem just_calls (p : Nat) (v : Value) (most g : Int) (l : List Bd) (a : Ad) (port : Int) (w : World) (h : UAt w p v most g l) (hl : (l.length : Int) ≤ 1000) :
    Calls Try.prog 34 #[.pointer (some ⟨p, 0, none⟩), .agg (aV a), .int .i64 port] w fun e w' => e = .returned (.int .i64 (jx l ⟨a, port⟩)) ∧ Below w.heap.size w w' := by
  obtain ⟨A, c, rfl, hlc⟩ := RS_len h.row
  have hB0 : Below w.heap.size w (w.alloc (.cells (aV a) 32)) := ((Touch.refl [] w).alloc _).below
  have HT := Lib.hid (h.below hB0)
  have HB := Lib.hid hB0
  have HX := Lib.hid (heap_alloc_new w (.cells (aV a) 32))
  clear h hB0 hlc
  go_enter Try.func34, Try.ntmps34
  go_wp2_with fail
  generalize hW : w.alloc (.cells (aV a) 32) = W at HB HT HX ⊢
  have hBs : w.heap.size < W.heap.size := lt_of_block HX.out
  clear hW
  generalize hBe : w.heap.size = B at HX hBs ⊢
  have HE := Lib.hid hBe
  clear hBe
  go_loopw [7] (fun i wr => ∃ k : Nat, k ≤ l.length ∧ i = .int .i64 k ∧ Hid (Below W.heap.size W wr) ∧ Hid (∀ j (hj : j < l.length), j < k → decide (l[j].p = ⟨a, port⟩) = false)) (fun i _ => l.length - (intOf i).toNat)
  case atStart => exact ⟨0, Nat.zero_le _, rfl, Lib.hid (Below.refl _ _), Lib.hid (fun j _ hj => absurd hj (Nat.not_lt_zero _))⟩
  case round =>
    obtain ⟨k, hk, rfl, BW, AA⟩ := hrel
    have hT := HT.out.below BW.out
    have g0 := cell_of_row _ _ 2 _ _ _ hT.st
    replace g0 : wr.cell? ⟨p, 2, none⟩ = some (.slice A l.length c) := g0
    by_cases hlt : k < l.length
    · have hltz : (k : Int) < (l.length : Int) := by omega
      obtain ⟨gr, c', hv, hra, hgs⟩ := RS_at hT.row k l[k] (List.getElem?_eq_getElem hlt)
      injection hv with hA h2 h3
      subst hA h3
      clear h2 hT hgs
      generalize hy : l[k] = y at hra
      have HY := Lib.hid hy
      clear hy
      have hp := cell_pB hra
      have hLD : ∀ q, (loadVar 32 ⟨gr, k * 19 + 1, none⟩).run Try.prog (wr.drewN q) = .ok (.agg (aV y.p.a)) (wr.drewN q) := fun q => lvA (w := wr.drewN q) (range_aB hra)
      have hLE : ∀ q, (loadVar 32 ⟨B, 0, none⟩).run Try.prog (wr.drewN q) = .ok (.agg (aV a)) (wr.drewN q) := fun q => lvA (w := wr.drewN q) (range_A ((BW.out.block B hBs).trans HX.out))
      have HR := Lib.hid hra
      clear hra
      by_cases hq : y.p.a = a
      · have hd : decide (y.p.a = a) = true := decide_eq_true hq
        have HQ := Lib.hid hq
        clear hq
        by_cases hq2 : y.p.port = port
        · have hd2 : (y.p.port == port) = true := by simpa using hq2
          have HQ2 := Lib.hid hq2
          clear hq2
          go_wp2_with fail
          go_quiet (fail)
          go_wp2_with fail
          go_ret
          refine ⟨?_, bel_drewN (HB.out.trans (BW.out.mono (by rw [HE.out]; exact Nat.le_of_lt hBs))) _⟩
          rw [show jx l ⟨a, port⟩ = (k : Int) from idxI_hit hlt (by rw [HY.out]; exact decide_eq_true (pl_eq HQ.out HQ2.out)) AA.out]
          rfl
        · have hd2 : (y.p.port == port) = false := by simpa using hq2
          have HQ2 := Lib.hid hq2
          clear hq2
          go_wp2_with fail
          go_quiet (fail)
          go_wp2_with fail
          go_roundw
          case rel => exact ⟨k + 1, by omega, by go_num, Lib.hid (bel_drewN BW.out _), Lib.hid (step_no (fun s => decide (s.p = ⟨a, port⟩)) hlt HY.out AA.out (decide_eq_false fun e => HQ2.out (by rw [e])))⟩
          case measure => simp [intOf]; omega
      · have hd : decide (y.p.a = a) = false := decide_eq_false hq
        have HQ := Lib.hid hq
        clear hq
        go_wp2_with fail
        go_quiet (fail)
        go_wp2_with fail
        go_roundw
        case rel => exact ⟨k + 1, by omega, by go_num, Lib.hid (bel_drewN BW.out _), Lib.hid (step_no (fun s => decide (s.p = ⟨a, port⟩)) hlt HY.out AA.out (decide_eq_false fun e => HQ.out (by rw [e])))⟩
        case measure => simp [intOf]; omega
    · have hltz : ¬ (k : Int) < (l.length : Int) := by omega
      have hkx : k = l.length := by omega
      subst hkx
      clear hT
      go_wp2_with fail
      go_ret
      refine ⟨?_, HB.out.trans (BW.out.mono (by rw [HE.out]; exact Nat.le_of_lt hBs))⟩
      rw [show jx l ⟨a, port⟩ = -1 from idxI_miss fun j hj => AA.out j hj hj]
      rfl
set_option maxHeartbeats 4000000 in
theorem place_calls (p : Nat) (v : Value) (most g : Int) (l : List Bd) (n : Int) (w : World) (h : UAt w p v most g l) (hl : (l.length : Int) ≤ 1000) :
    Calls Try.prog 35 #[.pointer (some ⟨p, 0, none⟩), .int .i64 n] w fun e w' => e = .returned (.int .i64 (idxB l n)) ∧ Below w.heap.size w w' := by
  obtain ⟨A, c, rfl, hlc⟩ := RS_len h.row
  have HT := Lib.hid h
  clear h hlc
  go_enter Try.func35, Try.ntmps35
  go_wp2_with fail
  go_loopw [5] (fun i wr => ∃ k : Nat, k ≤ l.length ∧ i = .int .i64 k ∧ Hid (Below w.heap.size w wr) ∧ Hid (∀ j (hj : j < l.length), j < k → decide (l[j].n = n) = false)) (fun i _ => l.length - (intOf i).toNat)
  case atStart => exact ⟨0, Nat.zero_le _, rfl, Lib.hid (Below.refl _ _), Lib.hid (fun j _ hj => absurd hj (Nat.not_lt_zero _))⟩
  case round =>
    obtain ⟨k, hk, rfl, BW, AA⟩ := hrel
    have hT := HT.out.below BW.out
    have g0 := cell_of_row _ _ 2 _ _ _ hT.st
    replace g0 : wr.cell? ⟨p, 2, none⟩ = some (.slice A l.length c) := g0
    by_cases hlt : k < l.length
    · have hltz : (k : Int) < (l.length : Int) := by omega
      obtain ⟨gr, c', hv, hra, hgs⟩ := RS_at hT.row k l[k] (List.getElem?_eq_getElem hlt)
      injection hv with hA h2 h3
      subst hA h3
      clear h2 hT hgs
      generalize hy : l[k] = y at hra
      have HY := Lib.hid hy
      clear hy
      have hn0 : wr.cell? ⟨gr, k * 19, none⟩ = some (.int .i64 y.n) := hra 0 _ rfl
      clear hra
      by_cases hq : y.n = n
      · have hd : (y.n == n) = true := by simpa using hq
        have HQ := Lib.hid hq
        clear hq
        go_wp2_with fail
        go_ret
        refine ⟨?_, BW.out⟩
        rw [show idxB l n = (k : Int) from idxI_hit hlt (by rw [HY.out]; exact decide_eq_true HQ.out) AA.out]
        rfl
      · have hd : (y.n == n) = false := by simpa using hq
        have HQ := Lib.hid hq
        clear hq
        go_wp2_with fail
        go_roundw
        case rel => exact ⟨k + 1, by omega, by go_num, BW, Lib.hid (step_no (fun s => decide (s.n = n)) hlt HY.out AA.out (decide_eq_false HQ.out))⟩
        case measure => simp [intOf]; omega
    · have hltz : ¬ (k : Int) < (l.length : Int) := by omega
      have hkx : k = l.length := by omega
      subst hkx
      clear hT
      go_wp2_with fail
      go_ret
      refine ⟨?_, BW.out⟩
      rw [show idxB l n = -1 from idxI_miss fun j hj => AA.out j hj hj]
      rfl
end Go.Proofs.Ytgcafklieblldaa.SL
