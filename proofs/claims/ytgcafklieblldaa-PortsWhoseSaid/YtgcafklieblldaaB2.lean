/- The table of sockets as an object; the walk of at. No condition but sizes. -/
import Derived.Test.YtgcafklieblldaaB1
import Derived.WalkKit
import Derived.WalkSpells
import Derived.WalkLawsBesides
import Derived.Handy
import Derived.Lib.Hide
import Derived.IntWalk
namespace Go.Proofs.Ytgcafklieblldaa.SL
open Go.RowKit Go.Proofs.YtgcafklieblldaaW.PrintWords Go.Proofs.YtgcafklieblldaaW.PrintLast Go.Proofs.YtgcafklieblldaaW.PrintMore
abbrev RB (w : World) (base : Nat) (v : Value) (l : List Bd) : Prop := kB.R 66 w base (fun _ => True) v l
structure TAt (w : World) (p : Nat) (v : Value) (most g : Int) (l : List Bd) : Prop where
  st : w.heap[p]? = some (.cells #[.int .i64 most, .int .i64 g, v] 61 (0, 0))
  row : RB w 0 v l
  ne : v.ownBlock ≠ some p
theorem RB_len {w : World} {base : Nat} {v : Value} {l : List Bd} (h : RB w base v l) : ∃ A c, v = .slice A l.length c ∧ l.length ≤ c := by
  obtain ⟨A, c, e, hl, _⟩ := Kd.R_reads h
  exact ⟨A, c, e, hl⟩
/-- An element's cells. -/
theorem RB_at {w : World} {base : Nat} {v : Value} {l : List Bd} (h : RB w base v l) (k : Nat) (x : Bd) (hk : l[k]? = some x) : ∃ g c, v = .slice (some ⟨g, 0, none⟩) l.length c ∧ w.rangeAt g (k * 19) (bL x) ∧ g < w.heap.size := by
  have hlt : k < l.length := (List.getElem?_eq_some_iff.1 hk).1
  have hx : l[k] = x := (List.getElem?_eq_some_iff.1 hk).2
  obtain ⟨_, inner, hown, _⟩ := id h
  obtain ⟨A, c, e, hl, hC⟩ := Kd.R_reads h
  rcases hown.2 with ⟨e2, e0⟩ | ⟨g, cap, cur, e2, _, hg, _⟩
  · omega
  · rw [e] at e2
    injection e2 with e3 _ e5
    subst e3 e5
    obtain ⟨ad, cs, hA, hlen, hK, hc⟩ := Kd.C_get hC x (k : Int) (by omega) (by omega)
    injection hA with hA
    subst hA
    obtain rfl : cs = bL (l.getD (k : Int).toNat x) := hK
    have hg' : l.getD (k : Int).toNat x = x := by rw [Int.toNat_natCast, List.getD_eq_getElem?_getD, hk]; rfl
    rw [hg'] at hc
    refine ⟨g, c, e, fun j u hu => ?_, lt_of_block hg⟩
    have := hc j u hu
    rw [add_plain, Int.toNat_natCast] at this
    exact this
theorem rangeAt_below {w w1 : World} {b o : Nat} {cs : List Value} (h : w.rangeAt b o cs) (hb : b < w.heap.size) (B : Below w.heap.size w w1) : w1.rangeAt b o cs := fun j u hu => by
  rw [World.cell?_of_block (w := w) (B.block b hb)]
  exact h j u hu
theorem rangeAt_row {w : World} {b : Nat} {cells : Array Value} {T : TypeId} {fr : Nat × Nat} (h : w.heap[b]? = some (.cells cells T fr)) (o : Nat) (cs : List Value) (hc : ∀ j u, cs[j]? = some u → cells[o + j]? = some u) : w.rangeAt b o cs := fun j u hu => by
  rw [cell_of_row _ _ _ _ _ _ h]
  exact hc j u hu
theorem TAt.below {w w' : World} {p : Nat} {v : Value} {most g : Int} {l : List Bd} (h : TAt w p v most g l) (hb : Below w.heap.size w w') : TAt w' p v most g l :=
  ⟨(hb.block p (lt_of_block h.st)).trans h.st, Kd.R_below h.row hb, h.ne⟩
def findB (l : List Bd) (x : Pl) : Int := match l.find? (fun s => decide (s.p = x)) with | some s => s.n | none => 0
theorem findB_hit {l : List Bd} {x : Pl} {k : Nat} (hk : k < l.length) (h : l[k].p = x) (hb : ∀ j (hj : j < l.length), j < k → l[j].p ≠ x) : findB l x = l[k].n := by
  unfold findB
  have : l.find? (fun s => decide (s.p = x)) = some l[k] := List.find?_eq_some_iff_getElem.2 ⟨by simpa using h, k, hk, rfl, fun j hj => by simpa using hb j (by omega) hj⟩
  rw [this]
theorem findB_miss {l : List Bd} {x : Pl} (hb : ∀ j (hj : j < l.length), l[j].p ≠ x) : findB l x = 0 := by
  unfold findB
  have : l.find? (fun s => decide (s.p = x)) = none := List.find?_eq_none.2 fun s hs => by
    obtain ⟨j, hj, rfl⟩ := List.getElem_of_mem hs
    simpa using hb j hj
  rw [this]
theorem sizB : (Try.prog.info? 66).map (·.size) = some 19 := by kernel_rfl
theorem sizP : (Try.prog.info? 64).map (·.size) = some 18 := by kernel_rfl
theorem sizA : (Try.prog.info? 32).map (·.size) = some 17 := by kernel_rfl
section
variable {ops : Array Oper} {rest : List Oper} {o : Oper} {a : Act} {Q : Exit → Act → World → Prop} {w W : World}
/-- A bound, a place, an address that is loaded. -/
theorem ld_B (x : Operand) (hgd : o.guard = none) (ho : o.op = .load 66 x) {b k : Nat} {y : Bd} (hc : w.rangeAt b k (bL y)) (hx : a.eval x = .pointer (some ⟨b, k, none⟩)) (h : wpList Try.prog ops Q rest (a.put o.dst (.agg (bV y))) w) : wpList Try.prog ops Q (o :: rest) a w :=
  wpList_load_mid hgd _ x ho b k hx (bL y) _ hc Try.underlying66 rfl (by rw [bL_len]; exact sizB) h
theorem ld_P (x : Operand) (hgd : o.guard = none) (ho : o.op = .load 64 x) {b k : Nat} {y : Pl} (hc : w.rangeAt b k (pL y)) (hx : a.eval x = .pointer (some ⟨b, k, none⟩)) (h : wpList Try.prog ops Q rest (a.put o.dst (.agg (pV y))) w) : wpList Try.prog ops Q (o :: rest) a w :=
  wpList_load_mid hgd _ x ho b k hx (pL y) _ hc Try.underlying64 rfl (by rw [pL_len]; exact sizP) h
theorem ld_A (x : Operand) (hgd : o.guard = none) (ho : o.op = .load 32 x) {b k : Nat} {y : Ad} (hc : w.rangeAt b k (aL y)) (hx : a.eval x = .pointer (some ⟨b, k, none⟩)) (h : wpList Try.prog ops Q rest (a.put o.dst (.agg (aV y))) w) : wpList Try.prog ops Q (o :: rest) a w :=
  wpList_load_mid hgd _ x ho b k hx (aL y) _ hc Try.underlying32 rfl (by rw [aL_len]; exact sizA) h
theorem st_B (x y : Operand) (hgd : o.guard = none) (ho : o.op = .store 66 x y) {zs : Array Value} {T : TypeId} {z : Bd} (hx : a.eval x = .pointer (some ⟨W.heap.size, 0, none⟩)) (hy : a.eval y = .agg (bV z)) (hold : zs.size = 19)
    (h : wpList Try.prog ops Q rest (a.put o.dst undef) (W.alloc (.cells (bV z) T))) : wpList Try.prog ops Q (o :: rest) a (W.alloc (.cells zs T)) :=
  wpList_store_new hgd _ x y ho hx hy (by rw [bV_size]; exact sizB) (by rw [bV_size, hold]) (bL_one z) h
theorem st_A (x y : Operand) (hgd : o.guard = none) (ho : o.op = .store 32 x y) {zs : Array Value} {T : TypeId} {z : Ad} (hx : a.eval x = .pointer (some ⟨W.heap.size, 0, none⟩)) (hy : a.eval y = .agg (aV z)) (hold : zs.size = 17)
    (h : wpList Try.prog ops Q rest (a.put o.dst undef) (W.alloc (.cells (aV z) T))) : wpList Try.prog ops Q (o :: rest) a (W.alloc (.cells zs T)) :=
  wpList_store_new hgd _ x y ho hx hy (by rw [aV_size]; exact sizA) (by rw [aV_size, hold]) (aL_one z) h
end
theorem range_pB {w : World} {b : Nat} {y : Bd} {T : TypeId} {fr : Nat × Nat} (h : w.heap[b]? = some (.cells (bV y) T fr)) : w.rangeAt b 1 (pL y.p) := rangeAt_row h 1 _ fun j u hu => by
  unfold bV bL
  rw [List.getElem?_toArray, Nat.add_comm, List.getElem?_cons_succ]
  exact hu
theorem range_P {w : World} {b : Nat} {y : Pl} {T : TypeId} {fr : Nat × Nat} (h : w.heap[b]? = some (.cells (pV y) T fr)) : w.rangeAt b 0 (pL y) := rangeAt_row h 0 _ fun j u hu => by
  unfold pV
  rw [List.getElem?_toArray, Nat.zero_add]
  exact hu
theorem range_A {w : World} {b : Nat} {y : Ad} {T : TypeId} {fr : Nat × Nat} (h : w.heap[b]? = some (.cells (aV y) T fr)) : w.rangeAt b 0 (aL y) := rangeAt_row h 0 _ fun j u hu => by
  unfold aV
  rw [List.getElem?_toArray, Nat.zero_add]
  exact hu
attribute [local go_sem high] eql_pl
set_option maxHeartbeats 2000000 in
theorem at_calls (p : Nat) (v : Value) (most g : Int) (l : List Bd) (x : Pl) (w : World) (h : TAt w p v most g l) :
    Calls Try.prog 21 #[.pointer (some ⟨p, 0, none⟩), .agg (pV x)] w fun e w' => e = .returned (.int .i64 (findB l x)) ∧ Below w.heap.size w w' := by
  obtain ⟨A, c, rfl, hlc⟩ := RB_len h.row
  have HT := Lib.hid h
  have hp := lt_of_block h.st
  have hB0 : Below w.heap.size w (w.alloc (.cells (pV x) 64)) := ((Touch.refl [] w).alloc _).below
  have HB := Lib.hid hB0
  have g0 := cell_of_row _ _ 2 _ _ _ (h.below hB0).st
  replace g0 : (w.alloc (.cells (pV x) 64)).cell? ⟨p, 2, none⟩ = some (.slice A l.length c) := g0
  have hbig : l.length ≤ 9223372036854775807 := (Kd.R_reads' h.row).2.2.2.1
  clear h hlc hB0
  go_enter Try.func21, Try.ntmps21
  go_wp2_with fail
  generalize hW : w.alloc (.cells (pV x) 64) = W at HB g0 ⊢
  have hBW : W.heap[w.heap.size]? = some (.cells (pV x) 64 (0, 0)) := by rw [← hW]; exact heap_alloc_new w _
  have HX := Lib.hid hBW
  have hBs : w.heap.size < W.heap.size := lt_of_block hBW
  clear hW hBW
  generalize hBe : w.heap.size = B at HX hBs ⊢
  have HE := Lib.hid hBe
  clear hBe
  go_loopw [6, 12] (fun _ i wr => ∃ k : Nat, k ≤ l.length ∧ i = .int .i64 k ∧ Hid (Below W.heap.size W wr) ∧ Hid (∀ j (hj : j < l.length), j < k → l[j].p ≠ x)) (fun _ i _ => l.length - (intOf i).toNat)
  case atStart => exact ⟨0, Nat.zero_le _, rfl, Lib.hid (Below.refl _ _), Lib.hid (fun j _ hj => absurd hj (Nat.not_lt_zero _))⟩
  case round =>
    obtain ⟨k, hk, rfl, BW, AA⟩ := hrel
    by_cases hlt : k < l.length
    · have hltz : (k : Int) < (l.length : Int) := by omega
      obtain ⟨gr, c', hv, hra, hgs⟩ := RB_at HT.out.row k l[k] (List.getElem?_eq_getElem hlt)
      injection hv with hA h2 h3
      subst hA h3
      clear h2
      have HR := Lib.hid (rangeAt_below hra hgs (HB.out.trans (BW.out.mono (by rw [HE.out]; exact Nat.le_of_lt hBs))))
      clear hra
      generalize hy : l[k] = y at HR
      have HY := Lib.hid hy
      clear hy
      have R2 := Lib.hid (range_pB (heap_alloc_new wr (.cells (bV y) 66)))
      have hX2 : (wr.alloc (.cells (bV y) 66)).heap[B]? = some (.cells (pV x) 64 (0, 0)) :=
        ((BW.out.trans (Below.alloc (Below.refl _ _) BW.out.size _)).block B hBs).trans HX.out
      have R3 := Lib.hid (range_P hX2)
      have HG := Lib.hid grd_pl
      clear hX2 hgs
      by_cases hq : y.p = x
      · have hd : decide (y.p = x) = true := decide_eq_true hq
        have n0 := cell_of_row (wr.alloc (.cells (bV y) 66)) _ 0 _ _ _ (heap_alloc_new wr _)
        replace n0 : (wr.alloc (.cells (bV y) 66)).cell? ⟨wr.heap.size, 0, none⟩ = some (.int .i64 y.n) := n0
        have HQ := Lib.hid hq
        clear hq
        go_wp2_with (first | (refine gate_ (.load 66 (.tmp 14)) rfl ?_; go_must (refine ld_B (.tmp 14) rfl rfl HR.out rfl ?_)) | (refine gate_ (.store 66 (.tmp 6) (.tmp 15)) rfl ?_; go_must (refine st_B (.tmp 6) (.tmp 15) rfl rfl rfl rfl rfl ?_)) | (refine gate_ (.load 64 (.tmp 16)) rfl ?_; go_must (refine ld_P (.tmp 16) rfl rfl R2.out rfl ?_)) | (refine gate_ (.load 64 (.tmp 3)) rfl ?_; go_must (refine ld_P (.tmp 3) rfl rfl R3.out rfl ?_)))
        go_ret
        refine ⟨?_, HB.out.trans ((BW.out.trans (Below.alloc (Below.refl _ _) BW.out.size _)).mono (by rw [HE.out]; exact Nat.le_of_lt hBs))⟩
        rw [findB_hit hlt (by rw [HY.out]; exact HQ.out) AA.out, HY.out]
        rfl
      · have hd : decide (y.p = x) = false := decide_eq_false hq
        have HQ := Lib.hid hq
        clear hq
        go_wp2_with (first | (refine gate_ (.load 66 (.tmp 14)) rfl ?_; go_must (refine ld_B (.tmp 14) rfl rfl HR.out rfl ?_)) | (refine gate_ (.store 66 (.tmp 6) (.tmp 15)) rfl ?_; go_must (refine st_B (.tmp 6) (.tmp 15) rfl rfl rfl rfl rfl ?_)) | (refine gate_ (.load 64 (.tmp 16)) rfl ?_; go_must (refine ld_P (.tmp 16) rfl rfl R2.out rfl ?_)) | (refine gate_ (.load 64 (.tmp 3)) rfl ?_; go_must (refine ld_P (.tmp 3) rfl rfl R3.out rfl ?_)))
        go_roundw
        case rel => exact ⟨k + 1, by omega, by go_num, Lib.hid (BW.out.trans (Below.alloc (Below.refl _ _) BW.out.size _)), Lib.hid (fun j hj hjk => by
          by_cases e : j = k
          · subst e
            rw [HY.out]; exact HQ.out
          · exact AA.out j hj (by omega))⟩
        case measure => simp [intOf]; omega
    · have hltz : ¬ (k : Int) < (l.length : Int) := by omega
      have hkx : k = l.length := by omega
      subst hkx
      go_wp2
      go_ret
      refine ⟨?_, HB.out.trans (BW.out.mono (by rw [HE.out]; exact Nat.le_of_lt hBs))⟩
      rw [findB_miss fun j hj => AA.out j hj hj]
      rfl
end Go.Proofs.Ytgcafklieblldaa.SL
