/- The walk of the statement PlateauSteps over the table that the program lays. -/
import Derived.Test.YtffdjplhnbkgfaaDoorW2
import Derived.Deep.QuietTactic
import Derived.BigQuiet
namespace Go.Proofs.YtffdjplhnbkgfaaDoor
open Go.RowKit

theorem quiet_left {f : FuncId} {args : Array Value} {w : World} {n : Nat} {v : Value}
    (h : Calls Tryd.prog f args (w.drewN n) fun e w' => e = .returned v ∧ w.drewN n = w') : Calls Tryd.prog f args (w.drewN n) fun e w'' => e = .returned v ∧ ∃ m, w'' = w.drewN m :=
  h.mono fun _ _ ⟨he, hm⟩ => ⟨he, n, hm.symm⟩
theorem quiet_add_left {f : FuncId} {args : Array Value} {w : World} {a n : Nat} {v : Value}
    (h : Calls Tryd.prog f args (w.drewN (a + n)) fun e w' => e = .returned v ∧ w.drewN (a + n) = w') :
    Calls Tryd.prog f args (w.drewN (a + n)) fun e w'' => e = .returned v ∧ ∃ m, w'' = w.drewN (a + m) :=
  h.mono fun _ _ ⟨he, hm⟩ => ⟨he, n, hm.symm⟩
def tabI (k : Nat) : Int := [65535, 32000, 17914, 8166, 4352, 2002, 1492, 1280, 1006, 508, 296, 68].getD k 0

/-- The world behind All and known: two new blocks. -/
def W2 (w : World) : World := (w.alloc (.cells cells12 3)).alloc (.cells cells12 3)
theorem W2_cell (w : World) (k : Nat) (hk : k < 12) : (W2 w).cell? ⟨w.heap.size, k, none⟩ = some (.int .i64 (tabI k)) := by
  have h : (W2 w).heap[w.heap.size]? = some (.cells cells12 3 (0, 0)) := by
    have := Below.heap_alloc (w.alloc (.cells cells12 3)) (.cells cells12 3) w.heap.size (by simp)
    exact this.trans (heap_alloc_new w _)
  rw [cell_of_row _ _ _ _ _ _ h]
  match k, hk with
  | 0, _ => rfl
  | 1, _ => rfl
  | 2, _ => rfl
  | 3, _ => rfl
  | 4, _ => rfl
  | 5, _ => rfl
  | 6, _ => rfl
  | 7, _ => rfl
  | 8, _ => rfl
  | 9, _ => rfl
  | 10, _ => rfl
  | 11, _ => rfl
theorem tabI_isP (k : Nat) (hk : k < 12) : isP (tabI k) = true := by
  match k, hk with
  | 0, _ => rfl
  | 1, _ => rfl
  | 2, _ => rfl
  | 3, _ => rfl
  | 4, _ => rfl
  | 5, _ => rfl
  | 6, _ => rfl
  | 7, _ => rfl
  | 8, _ => rfl
  | 9, _ => rfl
  | 10, _ => rfl
  | 11, _ => rfl
theorem tabI_next (j : Nat) (hk : j + 1 < 12) : tabI (j + 1) < tabI j ∧ below (tabI j) = tabI (j + 1) ∧ above (tabI (j + 1)) = tabI j := by
  match j, hk with
  | 0, _ => decide
  | 1, _ => decide
  | 2, _ => decide
  | 3, _ => decide
  | 4, _ => decide
  | 5, _ => decide
  | 6, _ => decide
  | 7, _ => decide
  | 8, _ => decide
  | 9, _ => decide
  | 10, _ => decide
theorem below_hi (n x : Int) (hx : isP x = true) (h : x < n) : x ≤ below n := by
  obtain ⟨_, _, h3, _⟩ := below_spec n
  rcases Int.lt_or_le (below n) x with h1 | h1
  · rw [h3 x h1 h] at hx; cases hx
  · exact h1
theorem above_lo (n x : Int) (hx : isP x = true) (h : n < x) : above n ≤ x := by
  obtain ⟨_, _, h3⟩ := above_spec n
  rcases Int.lt_or_le x (above n) with h1 | h1
  · rw [h3 x h h1] at hx; cases hx
  · exact h1
theorem tabI_back (k : Nat) (hk : k < 12) : tabI k = 68 ∨ tabI k = 65535 ∨ (68 < tabI k ∧ tabI k < 65535 ∧ above (below (tabI k)) = tabI k ∧ below (above (tabI k)) = tabI k) := by
  match k, hk with
  | 0, _ => exact .inr (.inl rfl)
  | 1, _ => exact .inr (.inr (by decide))
  | 2, _ => exact .inr (.inr (by decide))
  | 3, _ => exact .inr (.inr (by decide))
  | 4, _ => exact .inr (.inr (by decide))
  | 5, _ => exact .inr (.inr (by decide))
  | 6, _ => exact .inr (.inr (by decide))
  | 7, _ => exact .inr (.inr (by decide))
  | 8, _ => exact .inr (.inr (by decide))
  | 9, _ => exact .inr (.inr (by decide))
  | 10, _ => exact .inr (.inr (by decide))
  | 11, _ => exact .inl rfl
theorem idx (i : Int) : ∃ j : Nat, j < 12 ∧ wrap64 ((IntKind.u64.wrap i).tmod 12) = (j : Int) := by
  have h1 : 0 ≤ IntKind.u64.wrap i := by rw [IntKind.wrap_u64]; omega
  refine ⟨((IntKind.u64.wrap i).tmod 12).toNat, ?_, ?_⟩
  · rw [Int.tmod_eq_emod_of_nonneg h1]; omega
  · rw [Int.tmod_eq_emod_of_nonneg h1]; unfold wrap64; omega
theorem above68 : above 68 = 296 := by decide
theorem below65535 : below 65535 = 32000 := by decide
theorem below296 : below 296 = 68 := by decide
theorem above32000 : above 32000 = 65535 := by decide
theorem W2_tab {w : World} (h : Tab w) : Tab (W2 w) :=
  (h.below ((Below.refl _ _).alloc (Nat.le_refl _) _)).below ((Below.refl _ _).alloc (Nat.le_refl _) _)
theorem W2_below (w : World) : Below w.heap.size w (W2 w) := ((Below.refl _ _).alloc (Nat.le_refl _) _).alloc (by simp) _

theorem below_isP (n : Int) : isP (below n) = true := by
  obtain ⟨_, h2, _⟩ := below_spec n
  rcases h2 with h | h
  · rw [h]; rfl
  · exact h
theorem below_mono (n m : Int) (h : n ≤ m) : below n ≤ below m := by
  obtain ⟨a1, a2, a3, a4⟩ := below_spec n
  obtain ⟨b1, b2, b3, b4⟩ := below_spec m
  have hx := below_isP n
  by_cases h68 : 68 < n
  · have := a4 h68
    rcases Int.lt_or_le (below m) (below n) with h1 | h1
    · rw [b3 _ h1 (by omega)] at hx; cases hx
    · exact h1
  · rw [below_12 n (by omega)]; exact b1
theorem above_mono (n m : Int) (h : n ≤ m) : above n ≤ above m := by
  obtain ⟨a1, a2, a3⟩ := above_spec n
  obtain ⟨b1, b2, b3⟩ := above_spec m
  have a4 := (isP_iff _).1 a2
  by_cases h68 : m < 65535
  · have := b1 h68
    rcases Int.lt_or_le (above m) (above n) with h1 | h1
    · rw [a3 _ (by omega) h1] at b2; cases b2
    · exact h1
  · rw [above_12 m (by omega)]; omega
set_option maxHeartbeats 6400000 in
set_option maxRecDepth 100000 in
theorem steps_any (n m i : Int) (w : World) (hT : Tab w) :
    Calls Tryd.prog 4 #[.int .i64 n, .int .i64 m, .int .i64 i] w fun e w' => e = .returned (.bool true) ∧ Below w.heap.size w w' := by
  have hT1 := hT.below ((Below.refl w.heap.size w).alloc (Nat.le_refl _) (.cells cells12 3))
  have hT2 := W2_tab hT
  have HT2 := Lib.hid hT2
  have hcase : (n ≤ m ∧ below n ≤ below m ∧ above n ≤ above m) ∨ m < n := by
    rcases Int.lt_or_le m n with h | h
    · exact .inr h
    · exact .inl ⟨h, below_mono n m h, above_mono n m h⟩
  rcases hcase with ⟨hnm, g1, g2⟩ | hnm
  all_goals
    go_enter Tryd.func4, Tryd.ntmps4
    go_wp2_with (first | (go_at_call 12; refine (all_any _ hT).mono ?_; rintro e w' ⟨rfl, rfl⟩) | (go_at_call 7; refine (known_any _ hT1).mono ?_; rintro e w' ⟨rfl, rfl⟩) | (go_at_call 8; refine (below_any _ _ hT2).mono ?_; rintro e w' ⟨rfl, rfl⟩) | (go_at_call 10; refine (above_any _ _ hT2).mono ?_; rintro e w' ⟨rfl, rfl⟩))
    go_loopw [8] (fun t wr => ∃ k q : Nat, k ≤ 12 ∧ t = .int .i64 k ∧ wr = (W2 w).drewN q) (fun t _ => (12 - intOf t).toNat)
    case atStart => exact ⟨0, 0, by omega, rfl, rfl⟩
    case round =>
      obtain ⟨k, q, hk, rfl, rfl⟩ := hrel
      by_cases hlt : k < 12
      · have hx := tabI_isP k hlt
        have hc := W2_cell w k hlt
        have hA := below_hi n (tabI k) hx
        have hB := above_lo n (tabI k) hx
        have hj : ∀ j, k = j + 1 → tabI k < tabI j ∧ below (tabI j) = tabI k ∧ above (tabI k) = tabI j := fun j hj => by subst hj; exact tabI_next j hlt
        have hd : (∃ D1 D3 D4 D5 D6 : Bool, decide (tabI k < n) = D1 ∧ decide (n < tabI k) = D3 ∧ (D1 = true → decide (below n < tabI k) = false) ∧ (D3 = true → decide (tabI k < above n) = false) ∧ (D1 = true → D3 = false) ∧ D4 = false ∧ D5 = false ∧ D6 = false) := by
          refine ⟨_, _, false, false, false, rfl, rfl, fun h => ?_, fun h => ?_, fun h => ?_, rfl, rfl, rfl⟩
          · have := hA (by simpa using h); simp; omega
          · have := hB (by simpa using h); simp; omega
          · have : tabI k < n := by simpa using h
            simp; omega
        obtain ⟨D1, D3, _, _, _, e1, e3, e4, e5, e6, rfl, rfl, rfl⟩ := hd
        clear hA hB hx
        cases D1 <;> cases D3
        case false.false =>
          clear e4 e5 e6
          rcases k with _ | j
          · clear hj
            go_wp2
            go_quiet (first | (go_at_call 8; refine quiet_add_left (below_any _ _ ?_); exact HT2.out) | (go_at_call 10; refine quiet_add_left (above_any _ _ ?_); exact HT2.out))
            go_wp2
            go_quiet (first | (go_at_call 8; refine quiet_add_left (below_any _ _ ?_); exact HT2.out) | (go_at_call 10; refine quiet_add_left (above_any _ _ ?_); exact HT2.out))
            go_wp2
            go_roundw
            case rel => exact ⟨1, _, by omega, by go_num, by first | rfl | (simp; rfl)⟩
            case measure => simp [intOf]
          · obtain ⟨j1, j2, j3⟩ := hj j rfl
            have hcj := W2_cell w j (by omega)
            clear hj
            generalize tabI (j + 1) = x at *
            generalize tabI j = y at *
            have j4 : decide (y ≤ x) = false := by simp; omega
            clear j1
            have j5 : (x != x) = false := by simp
            have j6 : (y != y) = false := by simp
            go_wp2
            go_quiet (first | (go_at_call 8; refine quiet_add_left (below_any _ _ ?_); exact HT2.out) | (go_at_call 10; refine quiet_add_left (above_any _ _ ?_); exact HT2.out))
            go_wp2
            go_quiet (first | (go_at_call 8; refine quiet_add_left (below_any _ _ ?_); exact HT2.out) | (go_at_call 10; refine quiet_add_left (above_any _ _ ?_); exact HT2.out))
            go_wp2
            go_roundw
            case rel => exact ⟨j + 1 + 1, _, by omega, by go_num, by first | rfl | (simp; rfl)⟩
            case measure => simp [intOf]; omega
        case false.true =>
          have e5 := e5 rfl
          clear e4 e6
          rcases k with _ | j
          · clear hj
            go_wp2
            go_quiet (first | (go_at_call 8; refine quiet_add_left (below_any _ _ ?_); exact HT2.out) | (go_at_call 10; refine quiet_add_left (above_any _ _ ?_); exact HT2.out))
            go_wp2
            go_quiet (first | (go_at_call 8; refine quiet_add_left (below_any _ _ ?_); exact HT2.out) | (go_at_call 10; refine quiet_add_left (above_any _ _ ?_); exact HT2.out))
            go_wp2
            go_roundw
            case rel => exact ⟨1, _, by omega, by go_num, by first | rfl | (simp; rfl)⟩
            case measure => simp [intOf]
          · obtain ⟨j1, j2, j3⟩ := hj j rfl
            have hcj := W2_cell w j (by omega)
            clear hj
            generalize tabI (j + 1) = x at *
            generalize tabI j = y at *
            have j4 : decide (y ≤ x) = false := by simp; omega
            clear j1
            have j5 : (x != x) = false := by simp
            have j6 : (y != y) = false := by simp
            go_wp2
            go_quiet (first | (go_at_call 8; refine quiet_add_left (below_any _ _ ?_); exact HT2.out) | (go_at_call 10; refine quiet_add_left (above_any _ _ ?_); exact HT2.out))
            go_wp2
            go_quiet (first | (go_at_call 8; refine quiet_add_left (below_any _ _ ?_); exact HT2.out) | (go_at_call 10; refine quiet_add_left (above_any _ _ ?_); exact HT2.out))
            go_wp2
            go_roundw
            case rel => exact ⟨j + 1 + 1, _, by omega, by go_num, by first | rfl | (simp; rfl)⟩
            case measure => simp [intOf]; omega
        case true.false =>
          have e4 := e4 rfl
          clear e5 e6
          rcases k with _ | j
          · clear hj
            go_wp2
            go_quiet (first | (go_at_call 8; refine quiet_add_left (below_any _ _ ?_); exact HT2.out) | (go_at_call 10; refine quiet_add_left (above_any _ _ ?_); exact HT2.out))
            go_wp2
            go_quiet (first | (go_at_call 8; refine quiet_add_left (below_any _ _ ?_); exact HT2.out) | (go_at_call 10; refine quiet_add_left (above_any _ _ ?_); exact HT2.out))
            go_wp2
            go_roundw
            case rel => exact ⟨1, _, by omega, by go_num, by first | rfl | (simp; rfl)⟩
            case measure => simp [intOf]
          · obtain ⟨j1, j2, j3⟩ := hj j rfl
            have hcj := W2_cell w j (by omega)
            clear hj
            generalize tabI (j + 1) = x at *
            generalize tabI j = y at *
            have j4 : decide (y ≤ x) = false := by simp; omega
            clear j1
            have j5 : (x != x) = false := by simp
            have j6 : (y != y) = false := by simp
            go_wp2
            go_quiet (first | (go_at_call 8; refine quiet_add_left (below_any _ _ ?_); exact HT2.out) | (go_at_call 10; refine quiet_add_left (above_any _ _ ?_); exact HT2.out))
            go_wp2
            go_quiet (first | (go_at_call 8; refine quiet_add_left (below_any _ _ ?_); exact HT2.out) | (go_at_call 10; refine quiet_add_left (above_any _ _ ?_); exact HT2.out))
            go_wp2
            go_roundw
            case rel => exact ⟨j + 1 + 1, _, by omega, by go_num, by first | rfl | (simp; rfl)⟩
            case measure => simp [intOf]; omega
        case true.true => exact absurd (e6 rfl) (by simp)
      · obtain rfl : k = 12 := by omega
        clear hlt hk
        obtain ⟨jj, hjj, hw⟩ := idx i
        have hcj := W2_cell w jj hjj
        have hc0 : (W2 w).cell? ⟨w.heap.size, 0, none⟩ = some (.int .i64 65535) := W2_cell w 0 (by omega)
        have hc11 : (W2 w).cell? ⟨w.heap.size, 11, none⟩ = some (.int .i64 68) := W2_cell w 11 (by omega)
        have k1 := above68
        have k2 := below65535
        have k3 := below296
        have k4 := above32000
        have hTq : Tab ((W2 w).drewN q) := HT2.out
        have hp := tabI_back jj hjj
        obtain ⟨_, _, _, s4⟩ := below_spec n
        obtain ⟨t1, _, _⟩ := above_spec n
        generalize tabI jj = x at *
        have hB : Below w.heap.size w ((W2 w).drewN q) := ⟨(W2_below w).os, (W2_below w).tape, (W2_below w).output, (W2_below w).size, (W2_below w).block⟩
        have HB := Lib.hid hB
        clear hB
        rcases hp with rfl | rfl | ⟨p1, p2, p3, p4⟩
        all_goals
          rcases (show (n ≤ 68 ∧ n < 65535) ∨ (68 < n ∧ n < 65535) ∨ (68 < n ∧ 65535 ≤ n) by omega) with ⟨n1, n2⟩ | ⟨n1, n2⟩ | ⟨n1, n2⟩
          all_goals
            first | have s5 := s4 n1 | skip
            first | have t2 := t1 n2 | skip
            clear s4 t1
            go_wp2_with (first | (go_at_call 8; refine (below_any _ _ hTq).mono ?_; rintro e w' ⟨rfl, rfl⟩) | (go_at_call 10; refine (above_any _ _ hTq).mono ?_; rintro e w' ⟨rfl, rfl⟩))
            go_ret
            exact ⟨rfl, HB.out⟩
end Go.Proofs.YtffdjplhnbkgfaaDoor
