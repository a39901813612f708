/- The walks of the document's New, Put, Holes, End, Done: what each computes, and what it leaves of memory. No condition. -/
import Derived.Test.YtdlgocieecfpbaaR2
namespace Go.Proofs.Ytdlgocieecfpbaa.Q
open Go.RowKit Go.Proofs.YtdlgocieecfpbaaW.PrintWords Go.Proofs.YtdlgocieecfpbaaW.PrintLast Go.Proofs.YtdlgocieecfpbaaW.PrintMore Go.Proofs.Ytdlgocieecfpbaa.SL

theorem spans_int (q t : Nat) (bits : List Bool) (ends top fr to' : Int) (flag : Bool) (w : World) (hR : RefAt w q t bits ends top) (h0 : 0 ≤ fr) (hft : fr ≤ to') (hto : to' ≤ 65535) :
    Calls Try.prog 28 #[.pointer (some ⟨q, 0, none⟩), .int .i64 fr, .int .i64 to', .bool flag] w fun e w' => ∃ v o, e = .returned v ∧ Kd.R k50 50 w' w.heap.size (fun _ => True) v o ∧ SpA bits flag fr to' o ∧ Below w.heap.size w w' := by
  obtain ⟨a, rfl⟩ := Int.eq_ofNat_of_zero_le h0
  obtain ⟨b, rfl⟩ := Int.eq_ofNat_of_zero_le (Int.le_trans h0 hft)
  exact spans_calls q t bits ends top a b flag w hR (by omega) (by omega)
def zBits : List Bool := List.replicate 65535 false
def bigRow : Array Value := madeCells #[.bool false] 65535
theorem made_bools (n : Nat) : madeCells #[.bool false] n = ((List.replicate n false).map Value.bool).toArray := by
  unfold madeCells
  apply Array.ext
  · simp
  · intro i h1 h2
    simp [Nat.mod_one]
theorem bigRow_eq : bigRow = (zBits.map Value.bool).toArray := made_bools 65535
theorem infoB : (Try.prog.info? 4).map (fun i => (i.zero, i.size, i.bytes)) = some (some (.bool false), 1, 1) := by kernel_rfl
theorem make_run (w : World) : (Instr.makeSlice 53 (.int .i64 65535) (.int .i64 65535)).run Try.prog w = .ok (.slice (some ⟨w.heap.size, 0, none⟩) 65535 65535) (w.alloc (.cells bigRow 4)) := by
  obtain ⟨i0, hi, hzz⟩ := Option.map_eq_some_iff.1 infoB
  simp only [Prod.mk.injEq] at hzz
  obtain ⟨hz0, hz1, hz2⟩ := hzz
  have := run_make (P := Try.prog) w 53 4 i0 (.bool false) Try.underlying53 hi hz0 .i64 .i64 65535 65535 (by omega) (by omega) (by rw [hz2]; omega) (by omega)
  rw [hz1] at this
  exact this
set_option maxHeartbeats 1000000 in
theorem rnew_calls (w : World) : Calls Try.prog 9 #[] w fun e w' => e = .returned (.pointer (some ⟨w.heap.size + 1, 0, none⟩)) ∧
    w' = (w.alloc (.cells bigRow 4)).alloc (.cells #[.slice (some ⟨w.heap.size, 0, none⟩) 65535 65535, .int .i64 0, .int .i64 0] 55) := by
  have hmk := make_run
  go_enter Try.func9, Try.ntmps9
  go_wp2
  go_ret
  exact ⟨rfl, rfl⟩
theorem rnew_at (w : World) : RefAt ((w.alloc (.cells bigRow 4)).alloc (.cells #[.slice (some ⟨w.heap.size, 0, none⟩) 65535 65535, .int .i64 0, .int .i64 0] 55)) (w.heap.size + 1) w.heap.size zBits 0 0 where
  st := by have := heap_alloc_new (w.alloc (.cells bigRow 4)) (.cells #[.slice (some ⟨w.heap.size, 0, none⟩) 65535 65535, .int .i64 0, .int .i64 0] 55); simpa using this
  row := by rw [← bigRow_eq]; exact (heap_alloc_old (w.alloc (.cells bigRow 4)) _ (by simp)).trans (heap_alloc_new w _)
  len := List.length_replicate
  ne := by omega
set_option maxHeartbeats 1000000 in
theorem rend_calls (q t : Nat) (bits : List Bool) (ends top : Int) (w : World) (hR : RefAt w q t bits ends top) (hb : 0 ≤ ends ∧ ends ≤ 65536) :
    Calls Try.prog 17 #[.pointer (some ⟨q, 0, none⟩)] w fun e w' => e = .returned (.int .i64 (ends - 1)) ∧ w = w' := by
  have c1 := hR.c1
  obtain ⟨b0, b1⟩ := hb
  clear hR
  go_enter Try.func17, Try.ntmps17
  go_wp2
  go_ret
  exact ⟨rfl, rfl⟩
def rdoneB (ends : Int) (o : List Sp) : Bool := decide (0 < ends) && decide (o.length = 0)
def rlim (ends : Int) : Int := if 0 < ends then ends - 1 else 65535
set_option maxHeartbeats 1000000 in
theorem rholes_calls (q t : Nat) (bits : List Bool) (ends top : Int) (w : World) (hR : RefAt w q t bits ends top) (hb : 0 ≤ ends ∧ ends ≤ 65536) :
    Calls Try.prog 13 #[.pointer (some ⟨q, 0, none⟩)] w fun e w' => ∃ v o, e = .returned v ∧ Kd.R k50 50 w' w.heap.size (fun _ => True) v o ∧ SpA bits false 0 (rlim ends) o ∧ Below w.heap.size w w' := by
  have c1 := hR.c1
  obtain ⟨b0, b1⟩ := hb
  have HR := Lib.hid hR
  clear hR
  by_cases h : 0 < ends
  · have hl : rlim ends = ends - 1 := if_pos h
    rw [hl]
    clear hl
    go_enter Try.func13, Try.ntmps13
    go_wp2_with (go_at_call 28; refine (spans_int q t bits ends top _ _ _ _ HR.out (by omega) (by omega) (by omega)).mono ?_; rintro e w1 ⟨v, o, rfl, hR1, hS1, hB1⟩)
    go_ret
    exact ⟨v, o, rfl, hR1, hS1, hB1⟩
  · have hl : rlim ends = 65535 := if_neg h
    have h' : ends ≤ 0 := by omega
    rw [hl]
    clear hl h
    go_enter Try.func13, Try.ntmps13
    go_wp2_with (go_at_call 28; refine (spans_int q t bits ends top _ _ _ _ HR.out (by omega) (by omega) (by omega)).mono ?_; rintro e w1 ⟨v, o, rfl, hR1, hS1, hB1⟩)
    go_ret
    exact ⟨v, o, rfl, hR1, hS1, hB1⟩
set_option maxHeartbeats 1000000 in
theorem rdone_calls (q t : Nat) (bits : List Bool) (ends top : Int) (w : World) (hR : RefAt w q t bits ends top) (hb : 0 ≤ ends ∧ ends ≤ 65536) :
    Calls Try.prog 19 #[.pointer (some ⟨q, 0, none⟩)] w fun e w' => ∃ o, e = .returned (.bool (rdoneB ends o)) ∧ SpA bits false 0 (rlim ends) o ∧ Below w.heap.size w w' := by
  have c1 := hR.c1
  have hql := lt_of_block hR.st
  have HR := Lib.hid hR
  have HB := Lib.hid hb
  clear hR hb
  go_enter Try.func19, Try.ntmps19
  go_wp2_with fail
  refine (rholes_calls q t bits ends top _ HR.out HB.out).mono ?_
  rintro e w1 ⟨v, o, rfl, hR1, hS1, hB1⟩
  obtain ⟨A1, k1, rfl⟩ := Kd.R_slice hR1
  have c1' := (hB1.cell (p := ⟨q, 1, none⟩) hql).trans c1
  have HS := Lib.hid (And.intro hS1 hB1)
  clear hR1 hS1 hB1 c1
  by_cases h : 0 < ends
  · have hd : rdoneB ends o = ((o.length : Int) == 0) := by unfold rdoneB; rw [decide_eq_true h, Bool.true_and, Bool.eq_iff_iff, decide_eq_true_eq, beq_iff_eq]; omega
    have HD := Lib.hid hd
    clear hd
    go_wp2
    go_ret
    exact ⟨o, by rw [HD.out]; rfl, HS.out⟩
  · have hd : rdoneB ends o = false := by unfold rdoneB; rw [decide_eq_false h]; rfl
    have h' : ends ≤ 0 := by omega
    have HD := Lib.hid hd
    clear hd h
    go_wp2
    go_ret
    exact ⟨o, by rw [HD.out]; rfl, HS.out⟩
end Go.Proofs.Ytdlgocieecfpbaa.Q
