/- The walks of the program's Put where the piece may not come, Holes, End, Done; and slices.Clone of spans. No condition but the list's length. -/
import Derived.Test.YtdlgocieecfpbaaC3
import Derived.WalkSpells
import Derived.Lib.LazyBuf
namespace Go.Proofs.Ytdlgocieecfpbaa.Q
open Go.RowKit Go.Proofs.YtdlgocieecfpbaaW.PrintWords Go.Proofs.YtdlgocieecfpbaaW.PrintLast Go.Proofs.YtdlgocieecfpbaaW.PrintMore Go.Proofs.Ytdlgocieecfpbaa.SL

set_option maxHeartbeats 1000000 in
theorem put_refused (p : Nat) (A : Option Addr) (c : Nat) (l : List Sp) (en off n : Int) (more : Bool) (w : World) (hp : w.heap[p]? = some (.cells #[.slice A l.length c, .int .i64 en] 52 (0, 0)))
    (hr : Kd.C k50 w A l.length l) (hc : l.length ≤ c) (hok : mayA l en off n more = false) :
    Calls Try.prog 14 #[.pointer (some ⟨p, 0, none⟩), .int .i64 off, .int .i64 n, .bool more] w fun e w' => e = .returned (.tuple #[.slice none 0 0, .int .i64 1]) ∧ Below w.heap.size w w' := by
  have hmay := may_calls p A c l en off n more w hp hr hc
  rw [hok] at hmay
  have HM := Lib.hid hmay
  clear hp hr hok hmay
  go_enter Try.func14, Try.ntmps14
  go_wp2_with fail
  refine HM.out.mono ?_
  rintro e w1 ⟨rfl, hb⟩
  have HB := Lib.hid hb
  clear hb HM
  go_wp2
  go_ret2
  exact ⟨rfl, HB.out⟩
theorem R_made0 (w : World) (base : Nat) (hb : base ≤ w.heap.size) : Kd.R k50 50 (w.alloc (.cells #[] 50)) base (fun _ => True) (.slice (some ⟨w.heap.size, 0, none⟩) 0 0) [] :=
  ⟨fun _ _ => trivial, [], World.ownsRow_made w #[] 0 hb (Nat.zero_le _) rfl, Reps.none _ _⟩
theorem K_M {w : World} {base : Nat} {ok : Nat → Prop} (x : Sp) (cs : List Value) (h : k50.K w x cs) : k50.M w base ok x cs := by
  obtain rfl := k50_open h
  exact mkS _ _
set_option maxHeartbeats 1000000 in
theorem clone_calls (A : Option Addr) (c : Nat) (l : List Sp) (w : World) (hr : Kd.C k50 w A l.length l) (hl : l.length ≤ 4000000) :
    Calls Try.prog 27 #[.slice A l.length c] w fun e w' => ∃ v, e = .returned v ∧ Kd.R k50 50 w' w.heap.size (fun _ => True) v l ∧ Below w.heap.size w w' := by
  have hnil := fun (W : World) => Lib.run_eql_slice_nil (P := Try.prog) W 30 50 A l.length c 0 0 Try.underlying30
  have HR := Lib.hid hr
  cases hA : A with
  | none =>
    have hl0 : l = [] := by
      rcases List.eq_nil_or_concat l with h | ⟨m, x, h⟩
      · exact h
      · obtain ⟨ad, he, _⟩ := hr.2.2 (by rw [h]; simp)
        rw [hA] at he
        cases he
    subst hA
    subst hl0
    clear hr
    simp only [List.length_nil] at hnil ⊢
    go_enter Try.func27, Try.ntmps27
    go_wp2
    go_ret
    exact ⟨_, rfl, Kd.R_nil _ _ _ _ _, Below.refl _ _⟩
  | some ad =>
    subst hA
    clear hr
    go_enter Try.func27, Try.ntmps27
    go_wp2_with ((with_reducible refine gate_builtin (b := .append) (xs := #[.tmp 5, .tmp 6]) rfl ?_); at_builtin; go_must (refine Kd.R_append_rows k50 (Rr := k50.K w) (w0 := w) w.heap.size rfl (.tmp 5) (.tmp 6) 30 50 (.agg #[.int .i64 0, .int .i64 0]) 16 rfl Try.underlying30 infoS rfl (by decide) (by decide) _ [] l (some ad) l.length c (fun _ => True) (fun _ => False) (by first | (go_simp; done) | (go_simp; rfl)) (by first | (go_simp; done) | (go_simp; rfl)) (R_made0 w w.heap.size (Nat.le_refl _)) (Kd.C_below HR.out (below_alloc (Below.refl _ _) _)) (fun x cs h => K_M x cs h) (fun _ h => h.elim) (fun _ _ => trivial) (below_alloc (Below.refl _ _) _) (by simp) (by simp; omega) ?_); intro v1 w2 hR1 hB1 hg1 hat1)
    go_ret
    exact ⟨v1, rfl, by simpa using hR1, hB1⟩
set_option maxHeartbeats 1000000 in
theorem holes_calls (p : Nat) (A : Option Addr) (c : Nat) (l : List Sp) (en : Int) (w : World) (hp : w.heap[p]? = some (.cells #[.slice A l.length c, .int .i64 en] 52 (0, 0)))
    (hr : Kd.C k50 w A l.length l) (hl : l.length ≤ 4000000) :
    Calls Try.prog 12 #[.pointer (some ⟨p, 0, none⟩)] w fun e w' => ∃ v, e = .returned v ∧ Kd.R k50 50 w' w.heap.size (fun _ => True) v l ∧ Below w.heap.size w w' := by
  obtain ⟨c0, c1⟩ := two_cells hp
  have HR := Lib.hid hr
  clear hp hr
  go_enter Try.func12, Try.ntmps12
  go_wp2_with (go_at_call 27; refine (clone_calls A c l _ HR.out hl).mono ?_; rintro e w1 ⟨v, rfl, hR, hb⟩)
  go_ret
  exact ⟨v, rfl, hR, hb⟩
theorem end_calls (p : Nat) (x : Value) (en : Int) (w : World) (hp : w.heap[p]? = some (.cells #[x, .int .i64 en] 52 (0, 0))) :
    Calls Try.prog 16 #[.pointer (some ⟨p, 0, none⟩)] w fun e w' => e = .returned (.int .i64 en) ∧ w = w' := by
  obtain ⟨c0, c1⟩ := two_cells hp
  clear hp
  go_enter Try.func16, Try.ntmps16
  go_wp2
  go_ret
  exact ⟨rfl, rfl⟩
def doneA (l : List Sp) (en : Int) : Bool := decide (0 ≤ en) && decide (l.length = 0)
theorem done_calls (p : Nat) (A : Option Addr) (c : Nat) (l : List Sp) (en : Int) (w : World) (hp : w.heap[p]? = some (.cells #[.slice A l.length c, .int .i64 en] 52 (0, 0))) :
    Calls Try.prog 18 #[.pointer (some ⟨p, 0, none⟩)] w fun e w' => e = .returned (.bool (doneA l en)) ∧ w = w' := by
  obtain ⟨c0, c1⟩ := two_cells hp
  clear hp
  by_cases h : 0 ≤ en
  · have hd : doneA l en = ((l.length : Int) == 0) := by unfold doneA; rw [decide_eq_true h, Bool.true_and, Bool.eq_iff_iff, decide_eq_true_eq, beq_iff_eq]; omega
    have HD := Lib.hid hd
    clear hd
    go_enter Try.func18, Try.ntmps18
    go_wp2
    go_ret
    exact ⟨by rw [HD.out]; rfl, rfl⟩
  · have hd : doneA l en = false := by unfold doneA; rw [decide_eq_false h]; rfl
    have h' : en < 0 := by omega
    have HD := Lib.hid hd
    clear hd h
    go_enter Try.func18, Try.ntmps18
    go_wp2
    go_ret
    exact ⟨by rw [HD.out]; rfl, rfl⟩
end Go.Proofs.Ytdlgocieecfpbaa.Q
