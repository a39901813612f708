/- The walk of the document's Put: what it computes, and what it leaves of memory. No condition. -/
import Derived.Test.YtdlgocieecfpbaaR3
namespace Go.Proofs.Ytdlgocieecfpbaa.Q
open Go.RowKit Go.Proofs.YtdlgocieecfpbaaW.PrintWords Go.Proofs.YtdlgocieecfpbaaW.PrintLast Go.Proofs.YtdlgocieecfpbaaW.PrintMore Go.Proofs.Ytdlgocieecfpbaa.SL

/-- The flags from a place on, up to another, set. -/
def setB (bits : List Bool) (a b : Nat) : List Bool := (List.range bits.length).map fun i => bits.getD i false || (decide (a ≤ i) && decide (i < b))
theorem setB_len (bits : List Bool) (a b : Nat) : (setB bits a b).length = bits.length := by simp [setB]
theorem setB_none (bits : List Bool) (a : Nat) : setB bits a a = bits := by
  refine List.ext_getElem (setB_len _ _ _) fun i h1 h2 => ?_
  have : (decide (a ≤ i) && decide (i < a)) = false := by rw [Bool.and_eq_false_iff, decide_eq_false_iff_not, decide_eq_false_iff_not]; omega
  simp [setB, this, h2]
theorem setB_get (bits : List Bool) (a b i : Nat) (h : i < bits.length) : (setB bits a b).getD i false = (bits.getD i false || (decide (a ≤ i) && decide (i < b))) := by
  simp [setB, List.getD_eq_getElem?_getD, h]
theorem setB_step (bits : List Bool) (a b : Nat) (hab : a ≤ b) : (setB bits a b).set b true = setB bits a (b + 1) := by
  refine List.ext_getElem (by simp [setB]) fun i h1 h2 => ?_
  rw [List.getElem_set]
  by_cases e : b = i
  · subst e
    simp [setB, hab]
  · rw [if_neg e]
    have : decide (i < b) = decide (i < b + 1) := by rw [decide_eq_decide]; omega
    simp only [setB, List.getElem_map, List.getElem_range, this]
theorem row_set {w : World} {t : Nat} {bits : List Bool} {ty : TypeId} (h : w.heap[t]? = some (.cells (bits.map Value.bool).toArray ty (0, 0))) (k : Nat) (b : Bool) : (w.setCell ⟨t, k, none⟩ (.bool b)).heap[t]? = some (.cells ((bits.set k b).map Value.bool).toArray ty (0, 0)) := by
  have hlt := lt_of_block h
  have h' : w.heap[t] = .cells (bits.map Value.bool).toArray ty (0, 0) := by simpa [Array.getElem?_eq_getElem hlt] using h
  show (w.heap.modify t _)[t]? = _
  rw [Array.getElem?_eq_getElem (by simpa using hlt), Array.getElem_modify_self, h']
  simp
theorem three_set1 {w : World} {p : Nat} {x y z : Value} {t : TypeId} (h : w.heap[p]? = some (.cells #[x, y, z] t (0, 0))) (u : Value) : (w.setCell ⟨p, 1, none⟩ u).heap[p]? = some (.cells #[x, u, z] t (0, 0)) := by
  have hlt := lt_of_block h
  have h' : w.heap[p] = .cells #[x, y, z] t (0, 0) := by simpa [Array.getElem?_eq_getElem hlt] using h
  show (w.heap.modify p _)[p]? = _
  rw [Array.getElem?_eq_getElem (by simpa using hlt), Array.getElem_modify_self, h']
  rfl
theorem three_set2 {w : World} {p : Nat} {x y z : Value} {t : TypeId} (h : w.heap[p]? = some (.cells #[x, y, z] t (0, 0))) (u : Value) : (w.setCell ⟨p, 2, none⟩ u).heap[p]? = some (.cells #[x, y, u] t (0, 0)) := by
  have hlt := lt_of_block h
  have h' : w.heap[p] = .cells #[x, y, z] t (0, 0) := by simpa [Array.getElem?_eq_getElem hlt] using h
  show (w.heap.modify p _)[p]? = _
  rw [Array.getElem?_eq_getElem (by simpa using hlt), Array.getElem_modify_self, h']
  rfl
theorem RefAt.top {w : World} {q t : Nat} {bits : List Bool} {ends top : Int} (h : RefAt w q t bits ends top) (x : Int) : RefAt (w.setCell ⟨q, 2, none⟩ (.int .i64 x)) q t bits ends x :=
  ⟨three_set2 h.st _, (Below.heap_setCell _ _ _ _ (by show t ≠ q; exact fun e => h.ne e.symm)).trans h.row, h.len, h.ne⟩
theorem RefAt.ends {w : World} {q t : Nat} {bits : List Bool} {ends top : Int} (h : RefAt w q t bits ends top) (x : Int) : RefAt (w.setCell ⟨q, 1, none⟩ (.int .i64 x)) q t bits x top :=
  ⟨three_set1 h.st _, (Below.heap_setCell _ _ _ _ (by show t ≠ q; exact fun e => h.ne e.symm)).trans h.row, h.len, h.ne⟩
theorem RefAt.set {w : World} {q t : Nat} {bits : List Bool} {ends top : Int} (h : RefAt w q t bits ends top) (k : Nat) (b : Bool) : RefAt (w.setCell ⟨t, k, none⟩ (.bool b)) q t (bits.set k b) ends top :=
  ⟨(Below.heap_setCell _ _ _ _ (by show q ≠ t; exact h.ne)).trans h.st, row_set h.row k b, by rw [List.length_set]; exact h.len, h.ne⟩
theorem RefAt.free {w : World} {q t : Nat} {bits : List Bool} {ends top : Int} (h : RefAt w q t bits ends top) (o : Nat) : w.frozen? ⟨q, o, none⟩ = false ∧ w.frozen? ⟨t, o, none⟩ = false := by
  simp [World.frozen?, h.st, h.row]
theorem R_far2 {w : World} {base : Nat} {v : Value} {l : List Sp} (h : Kd.R k50 50 w base (fun _ => True) v l) {p : Nat} (hp : p < base) (o : Nat) (u : Value) : Kd.R k50 50 (w.setCell ⟨p, o, none⟩ u) base (fun _ => True) v l := R_old h hp o u

def rmayA (ends top off n : Int) (more : Bool) : Bool :=
  if off < 0 ∨ n < 1 ∨ 65535 < off ∨ 65535 < n ∨ 65535 < off + n then false
  else if 0 < ends then (if more = true then decide (off + n ≤ ends - 1) else decide (off + n = ends - 1))
  else (more || decide (top ≤ off + n))
def RPutPost (q t : Nat) (bits : List Bool) (ends top off n : Int) (more : Bool) (w : World) (e : Ending) (w' : World) : Prop :=
  ∃ v o, e = .returned (.tuple #[v, .int .i64 0]) ∧ SL.Touch [q, t] w w' ∧ Kd.R k50 50 w' w.heap.size (fun _ => True) v o ∧ SpA bits false off (off + n) o ∧
    RefAt w' q t (setB bits off.toNat (off + n).toNat) (if more = true then ends else off + n + 1) (if top < off + n then off + n else top)
set_option maxHeartbeats 2000000 in
set_option maxRecDepth 100000 in
theorem rput_ok (q t : Nat) (bits : List Bool) (ends top : Int) (a m : Nat) (more : Bool) (w : World) (hR : RefAt w q t bits ends top) (hm1 : 1 ≤ m) (ham : a + m ≤ 65535) (he : 0 ≤ ends ∧ ends ≤ 65536)
    (hk : (0 < ends ∧ more = true ∧ (a : Int) + m ≤ ends - 1) ∨ (0 < ends ∧ more = false ∧ (a : Int) + m = ends - 1) ∨ (ends ≤ 0 ∧ more = true) ∨ (ends ≤ 0 ∧ more = false ∧ top ≤ (a : Int) + m)) :
    Calls Try.prog 15 #[.pointer (some ⟨q, 0, none⟩), .int .i64 a, .int .i64 m, .bool more] w (RPutPost q t bits ends top a m more w) := by
  have hub := Try.underlying53
  have c1 := hR.c1
  have c2 := hR.c2
  have hql := lt_of_block hR.st
  have htl := lt_of_block hR.row
  have HR := Lib.hid hR
  have hne := hR.ne
  obtain ⟨he0, he1⟩ := he
  have z0 : (1 : Int) ≤ (m : Int) := by omega
  have z1 : (a : Int) + (m : Int) ≤ 65535 := by omega
  have z2 : (m : Int) ≤ 65535 := by omega
  have z3 : (a : Int) ≤ 65535 := by omega
  clear hR
  rcases hk with ⟨k1, rfl, k2⟩ | ⟨k1, rfl, k2⟩ | ⟨k1, rfl⟩ | ⟨k1, rfl, k2⟩
  all_goals
    first | (have k3 : ((a : Int) + m != ends - 1) = false := by (rw [bne_eq_false_iff_eq]; exact k2)) | skip
    first | (have K3 := Lib.hid (show (a : Int) + m = ends - 1 from k2); clear k2) | skip
    go_enter Try.func15, Try.ntmps15
    go_wp2_with fail
    refine (spans_int q t bits ends top _ _ _ _ HR.out (by omega) (by omega) (by omega)).mono ?_
    rintro e w1 ⟨v, o, rfl, hR1, hS1, hB1⟩
    have HR1 := Lib.hid (HR.out.below hB1)
    have HF := Lib.hid hR1
    have HS := Lib.hid hS1
    have HB := Lib.hid hB1
    have hsz := hB1.size
    clear hR1 hS1 hB1
    go_wp2_with fail
    go_loopw [14] (fun i wr => ∃ k : Nat, a ≤ k ∧ k ≤ a + m ∧ i = .int .i64 k ∧ Hid (SL.Touch [t] w1 wr) ∧ Hid (RefAt wr q t (setB bits a k) ends top)) (fun i _ => a + m - (intOf i).toNat)
    case atStart => exact ⟨a, Nat.le_refl _, by omega, rfl, Lib.hid (Touch.refl _ _), Lib.hid (by rw [setB_none]; exact HR1.out)⟩
    case round =>
      obtain ⟨k, hk1, hk2, rfl, TW, RW⟩ := hrel
      by_cases hlt : k < a + m
      · have hltz : (k : Int) < (a : Int) + (m : Int) := by omega
        obtain ⟨N, hN, c0⟩ : ∃ N, N = 65535 ∧ wr.cell? ⟨q, 0, none⟩ = some (.slice (some ⟨t, 0, none⟩) N N) := ⟨_, rfl, RW.out.c0⟩
        have hkN : k < N := by omega
        have hkZ : (k : Int) < (N : Int) := by omega
        have hbit := RW.out.bit k (by rw [RW.out.len]; omega)
        generalize (setB bits a k)[k]'(by rw [RW.out.len]; omega) = b at hbit
        have hfr := (RW.out.free k).2
        have HT2 := Lib.hid (TW.out.setCell (p := ⟨t, k, none⟩) (.inl List.mem_cons_self) (.bool true))
        have HR2 := Lib.hid (show RefAt (wr.setCell ⟨t, k, none⟩ (.bool true)) q t (setB bits a (k + 1)) ends top by rw [← setB_step bits a k hk1]; exact RW.out.set k true)
        have HN := Lib.hid hN
        clear hN c1 c2
        go_wp2
        go_roundw
        case rel => exact ⟨k + 1, by omega, by omega, by go_num, HT2, HR2⟩
        case measure => simp [intOf]; omega
      · obtain rfl : k = a + m := by omega
        have d1 := RW.out.c1
        have d2 := RW.out.c2
        have g1 := (RW.out.free 1).1
        have g2 := (RW.out.free 2).1
        have hz : ((a + m : Nat) : Int) = (a : Int) + (m : Int) := by omega
        have HZ := Lib.hid hz
        have hT := (Touch.of_below (S := [q, t]) HB.out).trans (TW.out.mono (fun b hb => List.mem_cons_of_mem _ hb))
        have hF := Kd.R_move (Kd.R_bound HF.out) (fun k hk => TW.out.block k hk.2.2.1 (by intro hm; obtain rfl := List.mem_singleton.1 hm; have := hk.2.1; omega))
        have HT := Lib.hid hT
        have HF2 := Lib.hid (Kd.R_mono hF (fun _ hk => (trivial : (fun _ => True) _)))
        have hta : ((a : Int)).toNat = a := Int.toNat_natCast a
        have htb : ((a : Int) + (m : Int)).toNat = a + m := by omega
        have HA := Lib.hid (And.intro hta htb)
        clear hz hT hF hta htb c1 c2
        by_cases ht : top < (a : Int) + (m : Int)
        all_goals
          go_wp2
          go_ret2
          obtain ⟨hta, htb⟩ := HA.out
          refine ⟨_, o, rfl, ?_, ?_, HS.out, ?_⟩
          · first
            | exact (HT.out.setCell (p := ⟨q, 2, none⟩) (.inl List.mem_cons_self) _).setCell (p := ⟨q, 1, none⟩) (.inl List.mem_cons_self) _
            | exact HT.out.setCell (p := ⟨q, 2, none⟩) (.inl List.mem_cons_self) _
          · first
            | exact R_old (R_old (Kd.R_lower HF2.out (by omega)) hql 2 _) hql 1 _
            | exact R_old (Kd.R_lower HF2.out (by omega)) hql 2 _
          · rw [hta, htb]
            first | rw [if_pos (by assumption : top < (a : Int) + (m : Int))] | rw [if_neg (by omega : ¬ top < (a : Int) + (m : Int))]
            first | rw [if_pos rfl] | rw [if_neg (by simp)]
            first
            | exact (RW.out.top _).ends _
            | exact RW.out.top _
end Go.Proofs.Ytdlgocieecfpbaa.Q
namespace Go.Proofs.Ytdlgocieecfpbaa.Q
open Go.RowKit Go.Proofs.YtdlgocieecfpbaaW.PrintWords Go.Proofs.YtdlgocieecfpbaaW.PrintLast Go.Proofs.YtdlgocieecfpbaaW.PrintMore Go.Proofs.Ytdlgocieecfpbaa.SL

set_option maxHeartbeats 2000000 in
set_option maxRecDepth 100000 in
theorem rput_no (q t : Nat) (bits : List Bool) (ends top off n : Int) (more : Bool) (w : World) (hR : RefAt w q t bits ends top) (he : 0 ≤ ends ∧ ends ≤ 65536) (hno : rmayA ends top off n more = false) :
    Calls Try.prog 15 #[.pointer (some ⟨q, 0, none⟩), .int .i64 off, .int .i64 n, .bool more] w fun e w' => e = .returned (.tuple #[.slice none 0 0, .int .i64 1]) ∧ w = w' := by
  have c1 := hR.c1
  have c2 := hR.c2
  obtain ⟨he0, he1⟩ := he
  clear hR
  by_cases a0 : off < 0
  · clear hno
    go_enter Try.func15, Try.ntmps15
    go_wp2
    go_ret2
    exact ⟨rfl, rfl⟩
  by_cases a1 : n < 1
  · clear hno
    go_enter Try.func15, Try.ntmps15
    go_wp2
    go_ret2
    exact ⟨rfl, rfl⟩
  by_cases a2 : 65535 < off
  · clear hno
    go_enter Try.func15, Try.ntmps15
    go_wp2
    go_ret2
    exact ⟨rfl, rfl⟩
  by_cases a3 : 65535 < n
  · clear hno
    go_enter Try.func15, Try.ntmps15
    go_wp2
    go_ret2
    exact ⟨rfl, rfl⟩
  have b0 : 0 ≤ off := by omega
  have b1 : 1 ≤ n := by omega
  have b2 : off ≤ 65535 := by omega
  have b3 : n ≤ 65535 := by omega
  by_cases a4 : 65535 < off + n
  · clear hno a0 a1 a2 a3
    go_enter Try.func15, Try.ntmps15
    go_wp2
    go_ret2
    exact ⟨rfl, rfl⟩
  have b4 : off + n ≤ 65535 := by omega
  have hk : (0 < ends ∧ more = true ∧ ends - 1 < off + n) ∨ (0 < ends ∧ more = false ∧ off + n ≠ ends - 1) ∨ (ends ≤ 0 ∧ more = false ∧ off + n < top) := by
    unfold rmayA at hno
    rw [if_neg (by omega)] at hno
    split at hno
    · cases more with
      | true => rw [if_pos rfl, decide_eq_false_iff_not] at hno; exact .inl ⟨by assumption, rfl, by omega⟩
      | false => rw [if_neg (by simp), decide_eq_false_iff_not] at hno; exact .inr (.inl ⟨by assumption, rfl, hno⟩)
    · cases more with
      | true => cases hno
      | false => rw [Bool.false_or, decide_eq_false_iff_not] at hno; exact .inr (.inr ⟨by omega, rfl, by omega⟩)
  clear hno a0 a1 a2 a3 a4
  rcases hk with ⟨k1, rfl, k2⟩ | ⟨k1, rfl, k2⟩ | ⟨k1, rfl, k2⟩
  all_goals
    first | (have k3 : (off + n != ends - 1) = true := by (rw [bne_iff_ne]; exact k2)); clear k2 | skip
    go_enter Try.func15, Try.ntmps15
    go_wp2
    go_ret2
    exact ⟨rfl, rfl⟩
end Go.Proofs.Ytdlgocieecfpbaa.Q
