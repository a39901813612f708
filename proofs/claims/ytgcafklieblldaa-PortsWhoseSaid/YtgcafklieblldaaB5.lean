/- The walks of index (with the library's IndexFunc and its closure), New, four, All. No condition but sizes. -/
import Derived.Test.YtgcafklieblldaaB4
import Derived.Shelf.Abstract
namespace Go.Proofs.Ytgcafklieblldaa.SL
open Go.RowKit Go.Proofs.YtgcafklieblldaaW.PrintWords Go.Proofs.YtgcafklieblldaaW.PrintLast Go.Proofs.YtgcafklieblldaaW.PrintMore
/-- The first place of which p holds; -1: none. -/
def idxI (p : Bd → Bool) (xs : List Bd) : Int := match xs.findIdx? p with
  | some i => (i : Int)
  | none => -1
theorem idxI_hit {p : Bd → Bool} {xs : List Bd} {k : Nat} (hk : k < xs.length) (h1 : p xs[k] = true) (h0 : ∀ j (h : j < xs.length), j < k → p xs[j] = false) : idxI p xs = (k : Int) := by
  have : xs.findIdx? p = some k := by
    rw [List.findIdx?_eq_some_iff_getElem]
    exact ⟨hk, h1, fun j hj => by simpa using h0 j (by omega) hj⟩
  simp [idxI, this]
theorem idxI_miss {p : Bd → Bool} {xs : List Bd} (h0 : ∀ j (h : j < xs.length), p xs[j] = false) : idxI p xs = -1 := by
  have : xs.findIdx? p = none := by
    rw [List.findIdx?_eq_none_iff]
    intro x hx
    obtain ⟨j, hj, rfl⟩ := List.getElem_of_mem hx
    exact h0 j hj
  simp [idxI, this]
/-- What is asked of a closure over a bound: it tells p, and leaves what there was. -/
def Tells (g : Nat) (lb : Array Value) (p : Bd → Bool) (w : World) : Prop :=
  ∀ (W : World) (x : Bd), Below w.heap.size w W → Calls Try.prog g (#[.agg (bV x)] ++ lb) W fun e w' => e = .returned (.bool (p x)) ∧ Below w.heap.size w w'
set_option maxHeartbeats 2000000 in
theorem indexFunc_calls (g : Nat) (lb : Array Value) (eg : ∀ args w, (callFunc g args).run Try.prog w = .ok (.enter g args) w) (p : Bd → Bool) (v : Value) (l : List Bd) (w : World)
    (hr : RB w 0 v l) (hp : Tells g lb p w) :
    Calls Try.prog 31 #[v, .func (.func g) #[] lb] w fun e w' => e = .returned (.int .i64 (idxI p l)) ∧ Below w.heap.size w w' := by
  have hbig : l.length ≤ 9223372036854775807 := by obtain ⟨A, c, e, _, hC⟩ := Kd.R_reads hr; exact hC.2.1
  obtain ⟨A, c, rfl, hlc⟩ := RB_len hr
  have HR := Lib.hid hr
  have HP := Lib.hid hp
  clear hr hp hlc
  go_enter Try.func31, Try.ntmps31
  go_wp2
  go_loopg [5, 8] l.length (fun gg _ s8 wr => ∃ kk : Nat, kk ≤ l.length ∧ l.length - kk ≤ gg ∧ s8 = .int .i64 kk ∧ Hid (Below w.heap.size w wr) ∧ Hid (∀ j (h : j < l.length), j < kk → p l[j] = false))
  case atStart => exact ⟨0, Nat.zero_le _, by omega, rfl, Lib.hid (Below.refl _ w), Lib.hid (fun j h hj => absurd hj (Nat.not_lt_zero _))⟩
  case round =>
    obtain ⟨kk, hkk, hg, rfl, BW, AA⟩ := hrel
    by_cases hlt : kk < l.length
    · have hltz : (kk : Int) < (l.length : Int) := by omega
      obtain ⟨gr, c', hv, hra, hgs⟩ := RB_at HR.out kk l[kk] (List.getElem?_eq_getElem hlt)
      injection hv with hA h2 h3
      subst hA h3
      clear h2
      have HL := Lib.hid (rangeAt_below hra hgs BW.out)
      have hcall := HP.out wr l[kk] BW.out
      clear hra hgs
      generalize hy : l[kk] = y at HL hcall
      have HY := Lib.hid hy
      clear hy
      cases hq : p y with
      | true =>
        rw [hq] at hcall
        go_wp2_with (first | (refine gate_ (.load 66 (.tmp 14)) rfl ?_; go_must (refine ld_B (.tmp 14) rfl rfl HL.out rfl ?_)) | (go_at_fn g; refine hcall.mono ?_; rintro e w' ⟨rfl, hb'⟩))
        go_ret
        refine ⟨?_, hb'⟩
        rw [idxI_hit hlt (by rw [HY.out]; exact hq) (fun j h hj => AA.out j h hj)]
        rfl
      | false =>
        rw [hq] at hcall
        go_wp2_with (first | (refine gate_ (.load 66 (.tmp 14)) rfl ?_; go_must (refine ld_B (.tmp 14) rfl rfl HL.out rfl ?_)) | (go_at_fn g; refine hcall.mono ?_; rintro e w' ⟨rfl, hb'⟩))
        go_roundg (l.length - (kk + 1))
        case measure => omega
        case rel =>
          refine ⟨kk + 1, by omega, by omega, by go_num, Lib.hid hb', Lib.hid (fun j h hj => ?_)⟩
          by_cases e : j = kk
          · subst e
            rw [HY.out]; exact hq
          · exact AA.out j h (by omega)
    · have hltz : ¬ (kk : Int) < (l.length : Int) := by omega
      have hkx : kk = l.length := by omega
      subst hkx
      go_wp2
      go_ret
      refine ⟨?_, BW.out⟩
      rw [idxI_miss (fun j h => AA.out j h h)]
      rfl
theorem idxCl_tells (n : Int) (B : Nat) (t : TypeId) (fr : Nat × Nat) (w : World) (hB : w.heap[B]? = some (.cells #[.int .i64 n] t fr)) :
    Tells 32 #[.pointer (some ⟨B, 0, none⟩)] (fun x => decide (x.n = n)) w := by
  intro W x hb
  have hlt : B < w.heap.size := (Array.getElem?_eq_some_iff.1 hB).1
  have hsz : w.heap.size ≤ W.heap.size := hb.size
  have hW : W.heap[B]? = some (.cells #[.int .i64 n] t fr) := (hb.block B hlt).trans hB
  have c0 : (W.alloc (.cells (bV x) 66)).cell? ⟨B, 0, none⟩ = some (.int .i64 n) := (World.cell?_of_block (heap_alloc_old W _ (show B < W.heap.size by omega))).trans (cell_of_row W B 0 _ t fr hW)
  have c1 := cell_of_row _ _ 0 _ _ _ (heap_alloc_new W (.cells (bV x) 66))
  replace c1 : (W.alloc (.cells (bV x) 66)).cell? ⟨W.heap.size, 0, none⟩ = some (.int .i64 x.n) := c1
  have HB := Lib.hid (hb.alloc hsz (.cells (bV x) 66))
  clear hb hB hW hlt hsz
  have hd : (x.n == n) = decide (x.n = n) := by rw [Bool.eq_iff_iff]; simp
  go_enter Try.func32, Try.ntmps32
  go_wp2
  go_ret
  exact ⟨by simp, HB.out⟩
def idxB (l : List Bd) (n : Int) : Int := idxI (fun x => decide (x.n = n)) l
set_option maxHeartbeats 2000000 in
theorem index_calls (p : Nat) (v : Value) (most g : Int) (l : List Bd) (n : Int) (w : World) (h : TAt w p v most g l) :
    Calls Try.prog 23 #[.pointer (some ⟨p, 0, none⟩), .int .i64 n] w fun e w' => e = .returned (.int .i64 (idxB l n)) ∧ Below w.heap.size w w' := by
  have hB0 : Below w.heap.size w (w.alloc (.cells #[.int .i64 n] 3)) := ((Touch.refl [] w).alloc _).below
  have hT := h.below hB0
  have HB := Lib.hid hB0
  have g0 := cell_of_row _ _ 2 _ _ _ hT.st
  replace g0 : (w.alloc (.cells #[.int .i64 n] 3)).cell? ⟨p, 2, none⟩ = some v := g0
  have HC := Lib.hid (indexFunc_calls 32 #[.pointer (some ⟨w.heap.size, 0, none⟩)] (fun _ _ => rfl) (fun x => decide (x.n = n)) v l _ hT.row (idxCl_tells n w.heap.size _ _ _ (heap_alloc_new w _)))
  have HI := Lib.hid (show idxB l n = idxI (fun x => decide (x.n = n)) l from rfl)
  clear h hB0 hT
  go_enter Try.func23, Try.ntmps23
  go_wp2_with (go_at_call 31; refine HC.out.mono ?_; rintro e w' ⟨rfl, hb'⟩)
  go_ret
  exact ⟨by rw [HI.out]; rfl, HB.out.trans (hb'.mono HB.out.size)⟩
theorem new_calls_no (n : Int) (w : World) (h : n < 1 ∨ 32 < n) :
    Calls Try.prog 8 #[.int .i64 n] w fun e w' => e = .returned (.tuple #[.pointer none, .int .i64 1]) ∧ w' = w := by
  by_cases h1 : n < 1
  · go_enter Try.func8, Try.ntmps8
    go_wp2
    go_ret2
    exact ⟨by simp, rfl⟩
  · have h2 : n > 32 := by omega
    go_enter Try.func8, Try.ntmps8
    go_wp2
    go_ret2
    exact ⟨by simp, rfl⟩
theorem built_new (n : Int) : Try.prog.built 61 [(0, .int .i64 n)] = some #[.int .i64 n, .int .i64 0, .slice none 0 0] := by kernel_rfl
theorem new_calls_yes (n : Int) (w : World) (h1 : 1 ≤ n) (h2 : n ≤ 32) :
    Calls Try.prog 8 #[.int .i64 n] w fun e w' => e = .returned (.tuple #[.pointer (some ⟨w.heap.size, 0, none⟩), .int .i64 0]) ∧ w' = w.alloc (.cells #[.int .i64 n, .int .i64 0, .slice none 0 0] 61) := by
  go_enter Try.func8, Try.ntmps8
  go_wp2
  go_ret2
  exact ⟨by simp, rfl⟩
theorem built_four (d : Int) : Try.prog.built 30 [(0, .int .u8 10), (1, .int .u8 0), (2, .int .u8 0), (3, .int .u8 d)] = some (yV (fA d).b) := by kernel_rfl
theorem built_adr (a : Ad) : Try.prog.built 32 [(0, .int .i64 a.v), (1, .agg (yV a.b))] = some (aV a) := by
  obtain ⟨v, b, hb⟩ := a
  obtain ⟨b0, b1, b2, b3, b4, b5, b6, b7, b8, b9, b10, b11, b12, b13, b14, b15, rfl⟩ := list16 b hb
  kernel_rfl
set_option maxHeartbeats 2000000 in
theorem four_calls (d : Int) (w : World) :
    Calls Try.prog 10 #[.int .u8 d] w fun e w' => e = .returned (.agg (aV (fA d))) ∧ Below w.heap.size w w' := by
  have HB : Hid (Below w.heap.size w (w.alloc (.cells (aV (fA d)) 32))) := Lib.hid ((Touch.refl [] w).alloc _).below
  go_enter Try.func10, Try.ntmps10
  go_wp2_with (first | (refine gate_ (.build 30 #[(0, .const (.int .u8 10)), (1, .const (.int .u8 0)), (2, .const (.int .u8 0)), (3, .tmp 3)]) rfl ?_; go_must (refine wpList_buildA rfl 30 #[(0, .const (.int .u8 10)), (1, .const (.int .u8 0)), (2, .const (.int .u8 0)), (3, .tmp 3)] rfl [(0, .int .u8 10), (1, .int .u8 0), (2, .int .u8 0), (3, .int .u8 d)] rfl (built_four d) ?_)) | (refine gate_ (.build 32 #[(0, .const (.int .i64 4)), (1, .tmp 4)]) rfl ?_; go_must (refine wpList_buildA rfl 32 #[(0, .const (.int .i64 4)), (1, .tmp 4)] rfl [(0, .int .i64 4), (1, .agg (yV (fA d).b))] rfl (built_adr (fA d)) ?_)) | (refine gate_ (.store 32 (.tmp 2) (.tmp 5)) rfl ?_; go_must (refine st_A (.tmp 2) (.tmp 5) rfl rfl rfl rfl rfl ?_)))
  refine bodyPost_ret (results_cell_row rfl _ _ w.heap.size _ (aV (fA d)) _ _ rfl (heap_alloc_new w _) Try.underlying32 rfl (by rw [aV_size]; exact sizA)) rfl ?_
  exact ⟨rfl, HB.out⟩
end Go.Proofs.Ytgcafklieblldaa.SL
