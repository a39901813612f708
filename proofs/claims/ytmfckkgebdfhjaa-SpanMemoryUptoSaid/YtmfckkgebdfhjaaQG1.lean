/- The library's IndexFunc and ContainsFunc over spans, and span.Has, span.Meets with their closures: what each computes. -/
import Derived.Test.YtmfckkgebdfhjaaQFspanRight
import Derived.Test.YtmfckkgebdfhjaaQFspangood
import Derived.Test.YtmfckkgebdfhjaaQT
import Derived.Lib.Hide
import Derived.Shelf.Abstract
import Derived.Handy
namespace Go.Proofs.Ytmfckkgebdfhjaa.Q
open Go.RowKit Go.Proofs.YtmfckkgebdfhjaaW.PrintWords Go.Proofs.YtmfckkgebdfhjaaW.PrintLast Go.Proofs.YtmfckkgebdfhjaaW.PrintMore

/-- The first place of which p holds; -1: none. -/
def idxI (p : S24 → Bool) (xs : List S24) : Int := match xs.findIdx? p with
  | some i => (i : Int)
  | none => -1
theorem idxI_hit {p : S24 → Bool} {xs : List S24} {k : Nat} (hk : k < xs.length) (h1 : p xs[k] = true) (h0 : ∀ j (h : j < xs.length), j < k → p xs[j] = false) : idxI p xs = (k : Int) := by
  have : xs.findIdx? p = some k := by
    rw [List.findIdx?_eq_some_iff_getElem]
    exact ⟨hk, h1, fun j hj => by simpa using h0 j (by omega) hj⟩
  simp [idxI, this]
theorem idxI_miss {p : S24 → Bool} {xs : List S24} (h0 : ∀ j (h : j < xs.length), p xs[j] = false) : idxI p xs = -1 := by
  have : xs.findIdx? p = none := by
    rw [List.findIdx?_eq_none_iff]
    intro x hx
    obtain ⟨j, hj, rfl⟩ := List.getElem_of_mem hx
    exact h0 j hj
  simp [idxI, this]
/-- What is asked of a closure over a span: it tells p, and leaves what there was. -/
def Tells (g : Nat) (lb : Array Value) (p : S24 → Bool) (w : World) : Prop :=
  ∀ (W : World) (x : S24), Below w.heap.size w W → Calls Try.prog g (#[.agg #[.int .i64 x.f0, .int .i64 x.f1]] ++ lb) W fun e w' => e = .returned (.bool (p x)) ∧ Below w.heap.size w w'

set_option maxHeartbeats 2000000 in
theorem indexFunc_calls (g : Nat) (lb : Array Value) (eg : ∀ args w, (callFunc g args).run Try.prog w = .ok (.enter g args) w) (p : S24 → Bool) (A : Option Addr) (c : Nat) (xs : List S24) (w : World)
    (hr : Kd.C k24 w A xs.length xs) (hp : Tells g lb p w) :
    Calls Try.prog 44 #[.slice A xs.length c, .func (.func g) #[] lb] w fun e w' => e = .returned (.int .i64 (idxI p xs)) ∧ Below w.heap.size w w' := by
  have hbig : xs.length ≤ 9223372036854775807 := hr.2.1
  have HR := Lib.hid hr
  have HP := Lib.hid hp
  clear hr hp
  go_enter Try.func44, Try.ntmps44
  go_wp2
  go_loopg [5, 8] xs.length (fun gg _ s8 wr => ∃ kk : Nat, kk ≤ xs.length ∧ xs.length - kk ≤ gg ∧ s8 = .int .i64 kk ∧ Hid (Below w.heap.size w wr) ∧ Hid (∀ j (h : j < xs.length), j < kk → p xs[j] = false))
  case atStart => exact ⟨0, Nat.zero_le _, by omega, rfl, Lib.hid (Below.refl _ w), Lib.hid (fun j h hj => absurd hj (Nat.not_lt_zero _))⟩
  case round =>
    obtain ⟨kk, hkk, hg, rfl, BW, AA⟩ := hrel
    by_cases hlt : kk < xs.length
    · have hltz : (kk : Int) < (xs.length : Int) := by omega
      obtain ⟨ad, hA, h0, h1⟩ := at_T24 HR.out (kk : Int) (by omega) hltz
      have l0 := pw_cell_below BW.out h0
      have l1 := pw_cell_below BW.out h1
      have hx : rd_T24 xs (kk : Int) = xs[kk] := by simp [rd_T24, List.getD_eq_getElem?_getD, List.getElem?_eq_getElem hlt]
      rw [hx] at l0 l1
      have hcall := HP.out wr xs[kk] BW.out
      clear h0 h1 hx
      generalize hy : xs[kk] = y at l0 l1 hcall
      have HY := Lib.hid hy
      clear hy
      rw [Int.toNat_natCast] at l0 l1
      subst hA
      cases hq : p y with
      | true =>
        rw [hq] at hcall
        go_wp2_with (go_at_fn g; refine hcall.mono ?_; rintro e w' ⟨rfl, hb'⟩)
        go_ret
        refine ⟨?_, hb'⟩
        rw [idxI_hit hlt (by rw [HY.out]; exact hq) (fun j h hj => AA.out j h hj)]
        rfl
      | false =>
        rw [hq] at hcall
        go_wp2_with (go_at_fn g; refine hcall.mono ?_; rintro e w' ⟨rfl, hb'⟩)
        go_roundg (xs.length - (kk + 1))
        case measure => omega
        case rel =>
          refine ⟨kk + 1, by omega, by omega, by go_num, Lib.hid hb', Lib.hid (fun j h hj => ?_)⟩
          by_cases e : j = kk
          · subst e
            rw [HY.out]; exact hq
          · exact AA.out j h (by omega)
    · have hltz : ¬ (kk : Int) < (xs.length : Int) := by omega
      have hkx : kk = xs.length := by omega
      subst hkx
      go_wp2
      go_ret
      refine ⟨?_, BW.out⟩
      rw [idxI_miss (fun j h => AA.out j h h)]
      rfl

theorem idxI_any (p : Sp → Bool) (xs : List Sp) : decide (idxI p xs ≥ 0) = xs.any p := by
  unfold idxI
  cases h : xs.findIdx? p with
  | none =>
    rw [List.findIdx?_eq_none_iff] at h
    have : xs.any p = false := by rw [List.any_eq_false]; intro x hx; simp [h x hx]
    rw [this]; rfl
  | some i =>
    obtain ⟨hi, h1, _⟩ := List.findIdx?_eq_some_iff_getElem.1 h
    have : xs.any p = true := List.any_eq_true.2 ⟨xs[i], List.getElem_mem hi, h1⟩
    rw [this]; simp

set_option maxHeartbeats 2000000 in
theorem containsFunc_calls (g : Nat) (lb : Array Value) (eg : ∀ args w, (callFunc g args).run Try.prog w = .ok (.enter g args) w) (p : Sp → Bool) (A : Option Addr) (c : Nat) (xs : List Sp) (w : World)
    (hr : Kd.C k24 w A xs.length xs) (hp : Tells g lb p w) :
    Calls Try.prog 37 #[.slice A xs.length c, .func (.func g) #[] lb] w fun e w' => e = .returned (.bool (xs.any p)) ∧ Below w.heap.size w w' := by
  have HC := Lib.hid (indexFunc_calls g lb eg p A c xs w hr hp)
  have HA := Lib.hid (idxI_any p xs)
  clear hr hp
  go_enter Try.func37, Try.ntmps37
  go_wp2_with (go_at_call 44; refine HC.out.mono ?_; rintro e w' ⟨rfl, hb'⟩)
  go_ret
  refine ⟨?_, hb'⟩
  rw [← HA.out]
  rfl

/-- The closures: the span that they hold lies in a block of the caller's. -/
theorem hasCl_tells (a b : Int) (B : Nat) (t : TypeId) (fr : Nat × Nat) (w : World) (hB : w.heap[B]? = some (.cells #[.int .i64 a, .int .i64 b] t fr)) :
    Tells 38 #[.pointer (some ⟨B, 0, none⟩)] (fun x => decide (x.f0 ≤ a) && decide (b ≤ x.f1)) w := by
  intro W x hb
  have hlt : B < w.heap.size := (Array.getElem?_eq_some_iff.1 hB).1
  have hsz : w.heap.size ≤ W.heap.size := hb.size
  have hW : W.heap[B]? = some (.cells #[.int .i64 a, .int .i64 b] t fr) := (hb.block B hlt).trans hB
  have c0 : W.cell? ⟨B, 0, none⟩ = some (.int .i64 a) := cell_of_row W B 0 _ t fr hW
  have c1 : W.cell? ⟨B, 1, none⟩ = some (.int .i64 b) := cell_of_row W B 1 _ t fr hW
  have hlt2 : B < W.heap.size := by omega
  have HB := Lib.hid (hb.alloc hsz (.cells #[.int .i64 x.f0, .int .i64 x.f1] 24))
  clear hb hB hW
  obtain ⟨x0, x1⟩ := x
  by_cases h1 : x0 ≤ a
  · have d1 : decide (x0 ≤ a) = true := by simpa using h1
    go_enter Try.func38, Try.ntmps38
    go_wp2
    go_ret
    exact ⟨by simp, HB.out⟩
  · have d1 : decide (x0 ≤ a) = false := by simpa using h1
    go_enter Try.func38, Try.ntmps38
    go_wp2
    go_ret
    exact ⟨by simp, HB.out⟩
theorem meetsCl_tells (a b : Int) (B : Nat) (t : TypeId) (fr : Nat × Nat) (w : World) (hB : w.heap[B]? = some (.cells #[.int .i64 a, .int .i64 b] t fr)) :
    Tells 39 #[.pointer (some ⟨B, 0, none⟩)] (fun x => decide (x.f0 < b) && decide (a < x.f1)) w := by
  intro W x hb
  have hlt : B < w.heap.size := (Array.getElem?_eq_some_iff.1 hB).1
  have hsz : w.heap.size ≤ W.heap.size := hb.size
  have hW : W.heap[B]? = some (.cells #[.int .i64 a, .int .i64 b] t fr) := (hb.block B hlt).trans hB
  have c0 : W.cell? ⟨B, 0, none⟩ = some (.int .i64 a) := cell_of_row W B 0 _ t fr hW
  have c1 : W.cell? ⟨B, 1, none⟩ = some (.int .i64 b) := cell_of_row W B 1 _ t fr hW
  have hlt2 : B < W.heap.size := by omega
  have HB := Lib.hid (hb.alloc hsz (.cells #[.int .i64 x.f0, .int .i64 x.f1] 24))
  clear hb hB hW
  obtain ⟨x0, x1⟩ := x
  by_cases h1 : x0 < b
  · have d1 : decide (x0 < b) = true := by simpa using h1
    go_enter Try.func39, Try.ntmps39
    go_wp2
    go_ret
    exact ⟨by simp, HB.out⟩
  · have d1 : decide (x0 < b) = false := by simpa using h1
    go_enter Try.func39, Try.ntmps39
    go_wp2
    go_ret
    exact ⟨by simp, HB.out⟩

theorem good_eval (a b : Int) : span_good.f a b = some (goodB ⟨a, b⟩) := by
  unfold span_good.f goodB
  by_cases h1 : 0 ≤ a <;> by_cases h2 : a < b <;> simp [h1, h2]
def prevTo (l : List Sp) (i : Nat) : Int := if i = 0 then -1 else (l.getD (i - 1) z24).f1
theorem right_l0 (l : List Sp) (hb : l.length ≤ 9223372036854775807) : ∀ (d i k : Nat), i + d = l.length → d < k → span_Right.l0 k l l (l.length : Int) (i : Int) = some (rightFrom (prevTo l i) (l.drop i)) := by
  intro d
  induction d with
  | zero =>
    intro i k hi hk
    obtain ⟨k, rfl⟩ : ∃ m, k = m + 1 := ⟨k - 1, by omega⟩
    have : l.drop i = [] := List.drop_eq_nil_of_le (by omega)
    rw [this]
    simp only [span_Right.l0]
    rw [if_neg (by omega)]
    rfl
  | succ d ih =>
    intro i k hi hk
    obtain ⟨k, rfl⟩ : ∃ m, k = m + 1 := ⟨k - 1, by omega⟩
    have hlt : i < l.length := by omega
    have hd : l.drop i = l[i] :: l.drop (i + 1) := List.drop_eq_getElem_cons hlt
    have hr : rd_T24 l (i : Int) = l[i] := by simp [rd_T24, List.getD_eq_getElem?_getD, List.getElem?_eq_getElem hlt]
    have hw : wrap64 ((i : Int) + 1) = ((i + 1 : Nat) : Int) := by unfold wrap64; omega
    have hn := ih (i + 1) k (by omega) (by omega)
    have hp1 : prevTo l (i + 1) = l[i].f1 := by simp [prevTo, List.getD_eq_getElem?_getD, List.getElem?_eq_getElem hlt]
    rw [hp1] at hn
    simp only [span_Right.l0]
    rw [if_pos (by omega), if_pos (by omega), if_pos (by omega), hr, good_eval]
    simp only [Option.bind_some]
    rw [hd]
    simp only [rightFrom]
    cases hg : goodB ⟨l[i].f0, l[i].f1⟩ with
    | false => rw [if_neg (by simp)]; simp
    | true =>
      rw [if_pos rfl]
      have hg0 : 0 ≤ l[i].f0 := by have := hg; simp [goodB] at this; exact this.1
      rw [Bool.and_true]
      by_cases h0 : i = 0
      · subst h0
        rw [if_neg (by omega), hw, hn]
        have : decide (prevTo l 0 < l[0].f0) = true := by simp [prevTo]; omega
        rw [this, Bool.true_and]
      · have hw2 : wrap64 ((i : Int) - 1) = ((i - 1 : Nat) : Int) := by unfold wrap64; omega
        have hr2 : rd_T24 l ((i - 1 : Nat) : Int) = l.getD (i - 1) z24 := by simp [rd_T24]
        rw [if_pos (by omega), hw2, if_pos (by omega), if_pos (by omega), hr2]
        have hpp : prevTo l i = (l.getD (i - 1) z24).f1 := by simp [prevTo, h0]
        rw [hpp]
        by_cases hle : l[i].f0 ≤ (l.getD (i - 1) z24).f1
        · rw [if_pos hle]
          have : decide ((l.getD (i - 1) z24).f1 < l[i].f0) = false := by simp only [decide_eq_false_iff_not]; omega
          rw [this]; rfl
        · rw [if_neg hle, hw, hn]
          have : decide ((l.getD (i - 1) z24).f1 < l[i].f0) = true := by simp only [decide_eq_true_eq]; omega
          rw [this, Bool.true_and]
theorem right_eval (l : List Sp) (hb : l.length ≤ 9223372036854775807) (k : Nat) (hk : l.length < k) : span_Right.f k l = some (rightB l) := by
  have := right_l0 l hb l.length 0 k (by omega) hk
  unfold span_Right.f
  rw [show ((0 : Int)) = ((0 : Nat) : Int) from rfl, this]
  rfl

set_option maxHeartbeats 2000000 in
theorem has_core (A0 : Option Addr) (c0 : Nat) (l0 : List Sp) (a b : Int) (w : World) (hr0 : Kd.C k24 w A0 l0.length l0) (hc0 : l0.length ≤ c0) :
    Calls Try.prog 23 #[.slice A0 l0.length c0, .agg #[.int .i64 a, .int .i64 b]] w fun e w' => e = .returned (.bool (rightB l0 && goodB ⟨a, b⟩ && l0.any fun x => decide (x.f0 ≤ a) && decide (b ≤ x.f1))) ∧ Below w.heap.size w w' := by
  have hb1 : Below w.heap.size w (w.alloc (.cells #[.int .i64 a, .int .i64 b] 24)) := (Below.refl _ _).alloc (Nat.le_refl _) _
  have hk1 : (w.alloc (.cells #[.int .i64 a, .int .i64 b] 24)).heap[w.heap.size]? = some (.cells #[.int .i64 a, .int .i64 b] 24 (0, 0)) := heap_alloc_new w _
  have hr1 : Kd.C k24 (w.alloc (.cells #[.int .i64 a, .int .i64 b] 24)) A0 l0.length l0 := Kd.C_below hr0 hb1
  have eg : ∀ args w, (callFunc 38 args).run Try.prog w = .ok (.enter 38 args) w := enters_of Try.func38 (by kernel_rfl) rfl
  have HRC := Lib.hid (span_Right.calls (l0.length + 1) A0 c0 l0 (rightB l0) _ hr1 hc0 (right_eval l0 hr0.2.1 _ (by omega)))
  have HR := Lib.hid hr1
  have HB := Lib.hid hb1
  have HK := Lib.hid hk1
  clear hr0 hc0 hr1 hb1 hk1
  cases hR : rightB l0 with
  | false =>
    rw [hR] at HRC
    go_enter Try.func23, Try.ntmps23
    go_wp2_with (go_at_call 13; refine HRC.out.mono ?_; rintro e w2 ⟨rfl, hb2⟩)
    go_ret
    exact ⟨by simp, HB.out.trans (hb2.mono (by simp))⟩
  | true =>
    rw [hR] at HRC
    cases hG : goodB ⟨a, b⟩ with
    | false =>
      have HGC := Lib.hid (fun W => span_good.calls a b false W (by rw [good_eval, hG]))
      go_enter Try.func23, Try.ntmps23
      go_wp2_with fail
      refine HRC.out.mono ?_
      rintro e w2 ⟨rfl, hb2⟩
      have hk2 := (hb2.block w.heap.size (by simp)).trans HK.out
      have c0 : w2.cell? ⟨w.heap.size, 0, none⟩ = some (.int .i64 a) := cell_of_row w2 _ 0 _ _ _ hk2
      have c1 : w2.cell? ⟨w.heap.size, 1, none⟩ = some (.int .i64 b) := cell_of_row w2 _ 1 _ _ _ hk2
      have HB2 := Lib.hid (HB.out.trans (hb2.mono (by simp)))
      clear hb2 hk2
      go_wp2_with fail
      refine (HGC.out _).mono ?_
      rintro e w3 ⟨rfl, hb3⟩
      have HB3 := Lib.hid (HB2.out.trans (hb3.mono HB2.out.size))
      clear hb3
      go_wp2
      go_ret
      exact ⟨by simp, HB3.out⟩
    | true =>
      have HGC := Lib.hid (fun W => span_good.calls a b true W (by rw [good_eval, hG]))
      go_enter Try.func23, Try.ntmps23
      go_wp2_with fail
      refine HRC.out.mono ?_
      rintro e w2 ⟨rfl, hb2⟩
      have hk2 := (hb2.block w.heap.size (by simp)).trans HK.out
      have c0 : w2.cell? ⟨w.heap.size, 0, none⟩ = some (.int .i64 a) := cell_of_row w2 _ 0 _ _ _ hk2
      have c1 : w2.cell? ⟨w.heap.size, 1, none⟩ = some (.int .i64 b) := cell_of_row w2 _ 1 _ _ _ hk2
      have HB2 := Lib.hid (HB.out.trans (hb2.mono (by simp)))
      have HR2 := Lib.hid (Kd.C_below HR.out hb2)
      have HK2 := Lib.hid hk2
      clear hb2 hk2
      go_wp2_with fail
      refine (HGC.out _).mono ?_
      rintro e w3 ⟨rfl, hb3⟩
      have hlt : w.heap.size < w2.heap.size := (Array.getElem?_eq_some_iff.1 HK2.out).1
      have hk3 := (hb3.block w.heap.size hlt).trans HK2.out
      have HR3 := Lib.hid (Kd.C_below HR2.out hb3)
      have HT3 := Lib.hid (hasCl_tells a b w.heap.size _ _ w3 hk3)
      have HB3 := Lib.hid (HB2.out.trans (hb3.mono HB2.out.size))
      clear hb3 hk3 hlt
      go_wp2_with fail
      refine (containsFunc_calls 38 _ eg _ _ _ _ _ HR3.out HT3.out).mono ?_
      rintro e w4 ⟨rfl, hb4⟩
      have HB4 := Lib.hid (HB3.out.trans (hb4.mono HB3.out.size))
      clear hb4
      go_wp2
      go_ret
      exact ⟨by simp, HB4.out⟩
set_option maxHeartbeats 2000000 in
theorem meets_core (A0 : Option Addr) (c0 : Nat) (l0 : List Sp) (a b : Int) (w : World) (hr0 : Kd.C k24 w A0 l0.length l0) (hc0 : l0.length ≤ c0) :
    Calls Try.prog 25 #[.slice A0 l0.length c0, .agg #[.int .i64 a, .int .i64 b]] w fun e w' => e = .returned (.bool (rightB l0 && goodB ⟨a, b⟩ && l0.any fun x => decide (x.f0 < b) && decide (a < x.f1))) ∧ Below w.heap.size w w' := by
  have hb1 : Below w.heap.size w (w.alloc (.cells #[.int .i64 a, .int .i64 b] 24)) := (Below.refl _ _).alloc (Nat.le_refl _) _
  have hk1 : (w.alloc (.cells #[.int .i64 a, .int .i64 b] 24)).heap[w.heap.size]? = some (.cells #[.int .i64 a, .int .i64 b] 24 (0, 0)) := heap_alloc_new w _
  have hr1 : Kd.C k24 (w.alloc (.cells #[.int .i64 a, .int .i64 b] 24)) A0 l0.length l0 := Kd.C_below hr0 hb1
  have eg : ∀ args w, (callFunc 39 args).run Try.prog w = .ok (.enter 39 args) w := enters_of Try.func39 (by kernel_rfl) rfl
  have HRC := Lib.hid (span_Right.calls (l0.length + 1) A0 c0 l0 (rightB l0) _ hr1 hc0 (right_eval l0 hr0.2.1 _ (by omega)))
  have HR := Lib.hid hr1
  have HB := Lib.hid hb1
  have HK := Lib.hid hk1
  clear hr0 hc0 hr1 hb1 hk1
  cases hR : rightB l0 with
  | false =>
    rw [hR] at HRC
    go_enter Try.func25, Try.ntmps25
    go_wp2_with (go_at_call 13; refine HRC.out.mono ?_; rintro e w2 ⟨rfl, hb2⟩)
    go_ret
    exact ⟨by simp, HB.out.trans (hb2.mono (by simp))⟩
  | true =>
    rw [hR] at HRC
    cases hG : goodB ⟨a, b⟩ with
    | false =>
      have HGC := Lib.hid (fun W => span_good.calls a b false W (by rw [good_eval, hG]))
      go_enter Try.func25, Try.ntmps25
      go_wp2_with fail
      refine HRC.out.mono ?_
      rintro e w2 ⟨rfl, hb2⟩
      have hk2 := (hb2.block w.heap.size (by simp)).trans HK.out
      have c0 : w2.cell? ⟨w.heap.size, 0, none⟩ = some (.int .i64 a) := cell_of_row w2 _ 0 _ _ _ hk2
      have c1 : w2.cell? ⟨w.heap.size, 1, none⟩ = some (.int .i64 b) := cell_of_row w2 _ 1 _ _ _ hk2
      have HB2 := Lib.hid (HB.out.trans (hb2.mono (by simp)))
      clear hb2 hk2
      go_wp2_with fail
      refine (HGC.out _).mono ?_
      rintro e w3 ⟨rfl, hb3⟩
      have HB3 := Lib.hid (HB2.out.trans (hb3.mono HB2.out.size))
      clear hb3
      go_wp2
      go_ret
      exact ⟨by simp, HB3.out⟩
    | true =>
      have HGC := Lib.hid (fun W => span_good.calls a b true W (by rw [good_eval, hG]))
      go_enter Try.func25, Try.ntmps25
      go_wp2_with fail
      refine HRC.out.mono ?_
      rintro e w2 ⟨rfl, hb2⟩
      have hk2 := (hb2.block w.heap.size (by simp)).trans HK.out
      have c0 : w2.cell? ⟨w.heap.size, 0, none⟩ = some (.int .i64 a) := cell_of_row w2 _ 0 _ _ _ hk2
      have c1 : w2.cell? ⟨w.heap.size, 1, none⟩ = some (.int .i64 b) := cell_of_row w2 _ 1 _ _ _ hk2
      have HB2 := Lib.hid (HB.out.trans (hb2.mono (by simp)))
      have HR2 := Lib.hid (Kd.C_below HR.out hb2)
      have HK2 := Lib.hid hk2
      clear hb2 hk2
      go_wp2_with fail
      refine (HGC.out _).mono ?_
      rintro e w3 ⟨rfl, hb3⟩
      have hlt : w.heap.size < w2.heap.size := (Array.getElem?_eq_some_iff.1 HK2.out).1
      have hk3 := (hb3.block w.heap.size hlt).trans HK2.out
      have HR3 := Lib.hid (Kd.C_below HR2.out hb3)
      have HT3 := Lib.hid (meetsCl_tells a b w.heap.size _ _ w3 hk3)
      have HB3 := Lib.hid (HB2.out.trans (hb3.mono HB2.out.size))
      clear hb3 hk3 hlt
      go_wp2_with fail
      refine (containsFunc_calls 39 _ eg _ _ _ _ _ HR3.out HT3.out).mono ?_
      rintro e w4 ⟨rfl, hb4⟩
      have HB4 := Lib.hid (HB3.out.trans (hb4.mono HB3.out.size))
      clear hb4
      go_wp2
      go_ret
      exact ⟨by simp, HB4.out⟩
end Go.Proofs.Ytmfckkgebdfhjaa.Q
