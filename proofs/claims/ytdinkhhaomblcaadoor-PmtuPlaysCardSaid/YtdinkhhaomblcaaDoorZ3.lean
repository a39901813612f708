/- The document's cache as objects: place, without, New, Get. No condition but sizes. -/
import Derived.Test.YtdinkhhaomblcaaDoorZ2
namespace Go.Proofs.YtdinkhhaomblcaaDoor.SL
open Go.RowKit Go.Proofs.YtdinkhhaomblcaaDoorW.PrintWords Go.Proofs.YtdinkhhaomblcaaDoorW.PrintLast Go.Proofs.YtdinkhhaomblcaaDoorW.PrintMore
def enL (x : Ad × Bel) : List Value := aL x.1 ++ [.int .i64 x.2.est, .int .i64 x.2.fst, .int .i64 x.2.clk]
def enV (x : Ad × Bel) : Array Value := (enL x).toArray
theorem enL_len (x : Ad × Bel) : (enL x).length = 20 := by unfold enL; rw [List.length_append, aL_len]; rfl
theorem enV_size (x : Ad × Bel) : (enV x).size = 20 := by unfold enV; rw [List.size_toArray, enL_len]
theorem enL_one (x : Ad × Bel) : ∀ u ∈ enL x, u.oneCell' = true := fun u hu => by
  unfold enL at hu
  rcases List.mem_append.1 hu with h | h
  · exact aL_one x.1 u h
  · simp only [List.mem_cons, List.not_mem_nil, or_false] at h
    rcases h with rfl | rfl | rfl <;> rfl
abbrev kE : Kd (Ad × Bel) := kF 20 enL enL_len enL_one
theorem flE : Flat kE := flatF
abbrev obEn (v : Value) (l : Mp) : Ob := obW kE 87 flE v l
abbrev rcV (E A last : Int) (v : Value) : Array Value := #[.int .i64 E, .int .i64 A, v, .int .i64 last]
structure RcSt where
  p : Nat
  B : Option Addr
  c : Nat
  E : Int
  A : Int
  last : Int
  L : Mp
def RcSt.v (x : RcSt) : Value := .slice x.B x.L.length x.c
def RcSt.G (x : RcSt) : List Ob := [obB x.p (rcV x.E x.A x.last x.v) 83, obEn x.v x.L]
structure EnAt (w : World) (g k : Nat) (x : Ad × Bel) : Prop where
  ra : w.rangeAt g (k * 20) (enL x)
  lt : g < w.heap.size
theorem EnAt.a {w : World} {g k : Nat} {x : Ad × Bel} (h : EnAt w g k x) : w.rangeAt g (k * 20) (aL x.1) := fun j u hu => h.ra j u (by
  unfold enL
  rw [List.getElem?_append_left (List.getElem?_eq_some_iff.1 hu).1]
  exact hu)
theorem enL_at (x : Ad × Bel) (j : Nat) : (enL x)[17 + j]? = [Value.int .i64 x.2.est, .int .i64 x.2.fst, .int .i64 x.2.clk][j]? := by
  unfold enL
  rw [List.getElem?_append_right (by rw [aL_len]; omega), aL_len, show 17 + j - 17 = j by omega]
theorem EnAt.e {w : World} {g k : Nat} {x : Ad × Bel} (h : EnAt w g k x) : w.cell? ⟨g, k * 20 + 17, none⟩ = some (.int .i64 x.2.est) := h.ra 17 _ (enL_at x 0)
theorem EnAt.f {w : World} {g k : Nat} {x : Ad × Bel} (h : EnAt w g k x) : w.cell? ⟨g, k * 20 + 18, none⟩ = some (.int .i64 x.2.fst) := h.ra 18 _ (enL_at x 1)
theorem EnAt.c {w : World} {g k : Nat} {x : Ad × Bel} (h : EnAt w g k x) : w.cell? ⟨g, k * 20 + 19, none⟩ = some (.int .i64 x.2.clk) := h.ra 19 _ (enL_at x 2)
theorem EnAt.below {w w' : World} {g k : Nat} {x : Ad × Bel} (h : EnAt w g k x) (hb : Below w.heap.size w w') : EnAt w' g k x := ⟨rangeAt_below h.ra h.lt hb, Nat.lt_of_lt_of_le h.lt hb.size⟩
theorem RE_at {w : World} {base : Nat} {v : Value} {l : Mp} {ok : Nat → Prop} (h : kE.R 87 w base ok v l) (k : Nat) (x : Ad × Bel) (hk : l[k]? = some x) :
    ∃ g c, v = .slice (some ⟨g, 0, none⟩) l.length c ∧ EnAt w g k x := by
  have hkl := (List.getElem?_eq_some_iff.1 hk).1
  obtain ⟨inner, ho⟩ := Kd.R_own h
  obtain ⟨g, cap, hv, _, _⟩ := ho.form (by omega)
  obtain ⟨A, c, hv2, hc, hC⟩ := Kd.R_reads h
  rw [hv] at hv2
  injection hv2 with e1 e2 e3
  subst e1 e3
  obtain ⟨ad, cs, hA, _, hK, hcs⟩ := Kd.C_get hC x (k : Int) (by omega) (by omega)
  obtain rfl : ad = ⟨g, 0, none⟩ := (Option.some.inj hA).symm
  obtain rfl : cs = enL (l.getD (k : Int).toNat x) := hK
  rw [Int.toNat_natCast, List.getD_eq_getElem?_getD, hk] at hcs
  have hadd : ∀ i, (⟨g, 0, none⟩ : Addr).add i = ⟨g, i, none⟩ := fun i => by unfold Addr.add; split <;> simp_all
  have hr : w.rangeAt g (k * 20) (enL x) := fun j u hu => by
    have := hcs j u hu
    rw [hadd] at this
    exact this
  exact ⟨g, cap, hv, hr, World.block_lt_of_cell? w _ (hr 17 _ (enL_at x 0))⟩
def idxZ (L : Mp) (a : Ad) : Int := match idxM L a with
  | some i => (i : Int)
  | none => -1
theorem idx_hit {L : Mp} {a : Ad} {k : Nat} (hk : k < L.length) (hn : ∀ j y, j < k → L[j]? = some y → y.1 ≠ a) (he : L[k].1 = a) : idxM L a = some k := by
  unfold idxM
  rw [List.findIdx?_eq_some_iff_getElem]
  refine ⟨hk, decide_eq_true he.symm, fun j hj => ?_⟩
  have := hn j _ hj (List.getElem?_eq_getElem (by omega))
  unfold isK
  simpa using fun e => this e.symm
theorem idx_miss {L : Mp} {a : Ad} (hn : ∀ j y, j < L.length → L[j]? = some y → y.1 ≠ a) : idxM L a = none := by
  unfold idxM
  rw [List.findIdx?_eq_none_iff]
  intro x hx
  obtain ⟨j, hj, rfl⟩ := List.getElem_of_mem hx
  have := hn j _ hj (List.getElem?_eq_getElem hj)
  unfold isK
  simpa using fun e => this e.symm
theorem idx_of {L : Mp} {a : Ad} {k : Nat} (h : idxM L a = some k) : ∃ hk : k < L.length, L[k].1 = a := by
  unfold idxM at h
  rw [List.findIdx?_eq_some_iff_getElem] at h
  obtain ⟨hk, he, _⟩ := h
  exact ⟨hk, (of_decide_eq_true he).symm⟩
theorem look_at {L : Mp} {a : Ad} {k : Nat} (h : idxM L a = some k) (hk : k < L.length) : lookM L a = some L[k].2 := by
  rw [look_idx, h]
  show some (L.getD k (zA 0, zBel)).2 = _
  rw [List.getD_eq_getElem?_getD, List.getElem?_eq_getElem hk]
  rfl
section
variable {w0 w : World} {Γ Δ : List Ob}
theorem RcSt.cells {x : RcSt} (h : St w0 w (x.G ++ Δ)) : w.cell? ⟨x.p, 0, none⟩ = some (.int .i64 x.E) ∧ w.cell? ⟨x.p, 1, none⟩ = some (.int .i64 x.A) ∧ w.cell? ⟨x.p, 2, none⟩ = some x.v ∧ w.cell? ⟨x.p, 3, none⟩ = some (.int .i64 x.last) :=
  ⟨h.cellB 0 rfl 0 rfl, h.cellB 0 rfl 1 rfl, h.cellB 0 rfl 2 rfl, h.cellB 0 rfl 3 rfl⟩
theorem St.en (h : St w0 w Γ) (i : Nat) {B : Option Addr} {n c : Nat} {l : Mp} (hi : Γ[i]? = some (obEn (.slice B n c) l)) (k : Nat) (hk : k < l.length) : ∃ g, B = some ⟨g, 0, none⟩ ∧ EnAt w g k l[k] := by
  obtain ⟨g, c', hv, he⟩ := RE_at (show kE.R _ _ _ _ _ _ from h.get i hi) k l[k] (List.getElem?_eq_getElem hk)
  injection hv with e1
  exact ⟨g, e1, he⟩
end
attribute [-go_sem] loadVar
attribute [local go_sem] lv3
attribute [local go_sem high] eql_ad
attribute [local go_sem ↓] Go.wp_at_zero Go.wp_at_succ
section
variable {w0 w : World} {Γ Δ : List Ob}
theorem lvSl (a : Addr) : loadVar 81 a = (do if ← isAgg 81 then pure (.agg (← loadCells a (← sizeOf 81))) else load a) := rfl
attribute [local go_sem] lvSl
set_option maxHeartbeats 4000000 in
set_option maxRecDepth 100000 in
theorem place_raw (x : RcSt) (h : St w0 w (x.G ++ Δ)) (hl : x.L.length ≤ 100) (a : Ad) :
    Calls Tryd.prog 43 #[.pointer (some ⟨x.p, 0, none⟩), .agg (aV a)] w fun e w' => e = .returned (.int .i64 (idxZ x.L a)) ∧ Below w.heap.size w w' := by
  obtain ⟨p, B, c, E, A, last, L⟩ := x
  have hB0 : Below w.heap.size w (w.alloc (.cells (aV a) 32)) := ((Touch.refl [] w).alloc _).below
  have H := Lib.hid (h.below hB0)
  have HX := Lib.hid (heap_alloc_new w (.cells (aV a) 32))
  have HB := Lib.hid hB0
  clear h hB0
  show Calls Tryd.prog _ #[.pointer (some ⟨p, 0, none⟩), .agg (aV a)] w fun e w' => e = .returned (.int .i64 (idxZ L a)) ∧ Below w.heap.size w w'
  replace hl : L.length ≤ 100 := hl
  go_enter Tryd.func43, Tryd.ntmps43
  go_wp2_with fail
  have HBS := Lib.hid HB.out.size
  generalize w.alloc (.cells (aV a) 32) = W at HB HBS HX H ⊢
  generalize hBB : w.heap.size = b at HB HBS HX ⊢
  have HBB := Lib.hid hBB
  clear hBB
  go_loopw [5] (fun s5 wr => ∃ k : Nat, k ≤ L.length ∧ s5 = .int .i64 k ∧ Hid (Below W.heap.size W wr) ∧ Hid (∀ j y, j < k → L[j]? = some y → y.1 ≠ a)) (fun s5 _ => L.length - (intOf s5).toNat)
  case atStart => exact ⟨0, Nat.zero_le _, rfl, Lib.hid (Below.refl _ _), Lib.hid fun j y hj => absurd hj (Nat.not_lt_zero _)⟩
  case round =>
    obtain ⟨k, hkl, rfl, HW, HN⟩ := hrel
    have hk0 : (0 : Int) ≤ (k : Int) := by omega
    have c2 : wr.cell? ⟨p, 2, none⟩ = some (.slice B L.length c) := (RcSt.cells (H.out.below HW.out)).2.2.1
    by_cases hkt : k < L.length
    · have hkz : (k : Int) < (L.length : Int) := by omega
      obtain ⟨g, rfl, he⟩ := (H.out.below HW.out).en 1 rfl k hkt
      have HE := Lib.hid he
      have HIT : Hid (L[k].1 = a → idxZ L a = (k : Int)) := Lib.hid fun e => by unfold idxZ; rw [idx_hit hkt HN.out e]
      have HMS : Hid (L[k].1 ≠ a → ∀ j y, j < k + 1 → L[j]? = some y → y.1 ≠ a) := Lib.hid fun e j y hj hy => by
        rcases Nat.lt_or_eq_of_le (Nat.le_of_lt_succ hj) with h1 | rfl
        · exact HN.out j y h1 hy
        · rw [List.getElem?_eq_getElem hkt] at hy
          obtain rfl := Option.some.inj hy
          exact e
      clear he
      generalize L[k] = y at *
      have hRB : Hid (∀ W', Below W.heap.size W W' → W'.rangeAt b 0 (aL a)) := Lib.hid fun W' hb => range_A ((hb.block _ (lt_of_block HX.out)).trans HX.out)
      have hLD1 : ∀ W : World, W.rangeAt g (k * 20) (aL y.1) → (loadVar 32 ⟨g, k * 20, none⟩).run Tryd.prog W = .ok (.agg (aV y.1)) W := fun W h => lvA h
      have hLD2 : ∀ W : World, W.rangeAt b 0 (aL a) → (loadVar 32 ⟨b, 0, none⟩).run Tryd.prog W = .ok (.agg (aV a)) W := fun W h => lvA h
      have HD : Hid (∀ n, Below wr.heap.size wr (wr.drewN n)) := Lib.hid fun n => drewN_below n
      have HS : Hid (∀ W', Below wr.heap.size wr W' → W'.cell? ⟨p, 2, none⟩ = some (.slice (some ⟨g, 0, none⟩) L.length c) ∧ W'.rangeAt g (k * 20) (aL y.1) ∧ W'.rangeAt b 0 (aL a)) := Lib.hid fun W' hb =>
        ⟨(RcSt.cells (H.out.below (HW.out.trans (hb.mono HW.out.size)))).2.2.1, (HE.out.below hb).a, hRB.out W' (HW.out.trans (hb.mono HW.out.size))⟩
      go_wp2_with fail
      go_region_held3 (fun W' => W'.cell? ⟨p, 2, none⟩ = some (.slice (some ⟨g, 0, none⟩) L.length c) ∧ W'.rangeAt g (k * 20) (aL y.1) ∧ W'.rangeAt b 0 (aL a)) (first | exact HS.out _ (Below.refl _ _) | exact HS.out _ (HD.out 1)) (fail)
      generalize hq : decide (y.1 = a) = q
      have HQ := Lib.hid hq
      clear hq
      cases q with
      | true =>
        go_wp2_with fail
        go_ret
        refine ⟨by rw [HIT.out (of_decide_eq_true HQ.out)]; rfl, ?_⟩
        rw [HBB.out]
        exact drewN_onto (HB.out.trans (HW.out.mono HBS.out)) (Nat.le_trans HBS.out HW.out.size) 1
      | false =>
        go_wp2_with fail
        go_roundw
        case rel => exact ⟨k + 1, by omega, by go_num, Lib.hid (HW.out.trans ((drewN_below 1).mono HW.out.size)), Lib.hid (HMS.out (of_decide_eq_false HQ.out))⟩
        case measure => simp [intOf]; omega
    · obtain rfl : k = L.length := by omega
      have hkz : ¬ (L.length : Int) < (L.length : Int) := by omega
      have HM : Hid (idxZ L a = -1) := Lib.hid (by unfold idxZ; rw [idx_miss HN.out])
      go_wp2_with fail
      go_ret
      exact ⟨by rw [HM.out]; rfl, by rw [HBB.out]; exact HB.out.trans (HW.out.mono HBS.out)⟩
end
end Go.Proofs.YtdinkhhaomblcaaDoor.SL
