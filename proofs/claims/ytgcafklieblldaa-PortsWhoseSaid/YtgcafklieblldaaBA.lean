/- The walk of Bind. No condition but sizes. -/
import Derived.Test.YtgcafklieblldaaB9
import Derived.Deep.RegionLaw
import Derived.BigQuiet
namespace Go.Proofs.Ytgcafklieblldaa.SL
open Go.RowKit Go.Proofs.YtgcafklieblldaaW.PrintWords Go.Proofs.YtgcafklieblldaaW.PrintLast Go.Proofs.YtgcafklieblldaaW.PrintMore
theorem infoB : (Try.prog.info? 66).map (fun i => (i.zero, i.size, i.bytes)) = some (some (.agg (bV zB)), kB.sz, 40) := by kernel_rfl
theorem fill_B (x : Bd) : Instr.fill (fun i => some (i * 19, 19)) ((Array.range (1 * 19)).map ((bV zB)[· % (bV zB).size]!)) [(0, .agg (bV x))] = some (bV x) := by
  obtain ⟨n, ⟨⟨v, b, hb⟩, port⟩⟩ := x
  obtain ⟨b0, b1, b2, b3, b4, b5, b6, b7, b8, b9, b10, b11, b12, b13, b14, b15, rfl⟩ := list16 b hb
  kernel_rfl
theorem bls_B (w : World) (x : Bd) : (Instr.buildSlice 59 1 #[(0, .agg (bV x))]).run Try.prog w = .ok (.slice (some ⟨w.heap.size, 0, none⟩) 1 1) (w.alloc (.cells (bV x) 66)) := by
  obtain ⟨i, hi, hs⟩ := infB
  have h := fill_B x
  have hz := zero_B w
  have hzs := bV_size zB
  generalize bV zB = Z at h hz hzs
  rw [hzs] at h
  simp only [Nat.one_mul] at h
  simp only [Instr.buildSlice, Sem.run_bind, run_underlying Try.underlying59, Result.andThen_ok, show (sizeOf 66).run Try.prog w = .ok 19 w by simp [sizeOf, typeInfo, hi, hs], Nat.one_mul, if_neg (show ¬ 19 > 2 ^ 24 by decide), if_neg (show ¬ 19 = 0 by decide), hz, Sem.run_pure, Value.cells, hzs, h]
  simp [newRow]
section
variable {P : Program} {ops : Array Oper} {rest : List Oper} {o : Oper} {a : Act} {Q : Exit → Act → World → Prop} {w W : World}
theorem wpList_guarded (hw : Region.wanted o (yielded ops a.tmps) = true) (h : wpList P ops Q ({ o with guard := none } :: rest) a w) : wpList P ops Q (o :: rest) a w := by
  unfold wpList at h ⊢
  rw [if_pos hw]
  rw [if_pos (by rfl)] at h
  exact h
end
def portQ (l : List Bd) (a : Ad) (port : Int) : Int := if port = 0 then freeB l a else port
def bindE (l : List Bd) (most : Int) (a : Ad) (port : Int) : Int := if ¬ (kindA a = 1 ∨ kindA a = 5) ∨ port < 0 ∨ 65535 < port then 1 else if 0 < port ∧ 0 < findB l ⟨a, port⟩ then 200 else if most ≤ (l.length : Int) then 201 else if portQ l a port = 0 then 201 else 0
/-- Between Bind's calls. -/
structure BS (w W' : World) (p : Nat) (v : Value) (most g : Int) (l : List Bd) (a : Ad) : Prop where
  t : TAt W' p v most g l
  x : W'.heap[w.heap.size]? = some (.cells (aV a) 32 (0, 0))
  b : Below w.heap.size w W'
theorem BS.below {w W1 W2 : World} {p : Nat} {v : Value} {most g : Int} {l : List Bd} {a : Ad} (h : BS w W1 p v most g l a) (hb : Below W1.heap.size W1 W2) : BS w W2 p v most g l a :=
  ⟨h.t.below hb, (hb.block _ (lt_of_block h.x)).trans h.x, h.b.trans (hb.mono h.b.size)⟩
theorem BS.cells {w W1 : World} {p : Nat} {v : Value} {most g : Int} {l : List Bd} {a : Ad} (h : BS w W1 p v most g l a) : W1.cell? ⟨p, 0, none⟩ = some (.int .i64 most) ∧ W1.cell? ⟨p, 1, none⟩ = some (.int .i64 g) ∧ W1.cell? ⟨p, 2, none⟩ = some v ∧ W1.frozen? ⟨p, 1, none⟩ = false :=
  ⟨cell_of_row _ _ 0 _ _ _ h.t.st, cell_of_row _ _ 1 _ _ _ h.t.st, cell_of_row _ _ 2 _ _ _ h.t.st, blk_frozen h.t.st 1⟩
abbrev BSC (w W1 : World) (p : Nat) (v : Value) (most g : Int) (l : List Bd) (a : Ad) : Prop := Hid (BS w W1 p v most g l a) ∧ W1.cell? ⟨p, 0, none⟩ = some (.int .i64 most) ∧ W1.cell? ⟨p, 1, none⟩ = some (.int .i64 g) ∧ W1.cell? ⟨p, 2, none⟩ = some v ∧ W1.frozen? ⟨p, 1, none⟩ = false
theorem BS.call {w W1 : World} {p : Nat} {v : Value} {most g : Int} {l : List Bd} {a : Ad} (h : BS w W1 p v most g l a) {f : FuncId} {args : Array Value} {r : Value} (hc : Calls Try.prog f args W1 fun e w' => e = .returned r ∧ Below W1.heap.size W1 w') :
    Calls Try.prog f args W1 fun e w' => e = .returned r ∧ BSC w w' p v most g l a := hc.mono fun _ _ ⟨he, hb⟩ => ⟨he, Lib.hid (h.below hb), (h.below hb).cells⟩
attribute [-go_sem] loadVar Instr.build Instr.buildSlice
attribute [local go_sem] lv3 lv59 bld_pl bld_bd bls_B
set_option maxHeartbeats 4000000 in
theorem bind_kind (p : Nat) (v : Value) (most g : Int) (l : List Bd) (a : Ad) (port : Int) (w : World) (h : TAt w p v most g l) (hsm : l.length ≤ 1000000) (hk : ¬ (kindA a = 1 ∨ kindA a = 5)) :
    Calls Try.prog 9 #[.pointer (some ⟨p, 0, none⟩), .agg (aV a), .int .i64 port] w fun e w' => e = .returned (.tuple #[.int .i64 0, .int .i64 0, .int .i64 1]) ∧ Below w.heap.size w w' := by
  obtain ⟨A, c, rfl, hlc⟩ := RB_len h.row
  have hB0 : Below w.heap.size w (w.alloc (.cells (aV a) 32)) := ((Touch.refl [] w).alloc _).below
  have HB : Hid (BS w (w.alloc (.cells (aV a) 32)) p (.slice A l.length c) most g l a) := Lib.hid ⟨h.below hB0, heap_alloc_new w _, hB0⟩
  have HK : Hid (∀ W', BS w W' p (.slice A l.length c) most g l a → Calls Try.prog 16 #[.agg (aV a)] W' fun e w' => e = .returned (.int .i64 (kindA a)) ∧ BSC w w' p (.slice A l.length c) most g l a) := Lib.hid fun W' hW => hW.call (kind_calls a W')
  have HC : Hid (∀ W', BS w W' p (.slice A l.length c) most g l a → Calls Try.prog 21 #[.pointer (some ⟨p, 0, none⟩), .agg (pV ⟨a, port⟩)] W' fun e w' => e = .returned (.int .i64 (findB l ⟨a, port⟩)) ∧ BSC w w' p (.slice A l.length c) most g l a) := Lib.hid fun W' hW => hW.call (at_calls p _ most g l ⟨a, port⟩ W' hW.t)
  have HF : Hid (∀ W', BS w W' p (.slice A l.length c) most g l a → Calls Try.prog 22 #[.pointer (some ⟨p, 0, none⟩), .agg (aV a)] W' fun e w' => e = .returned (.int .i64 (freeB l a)) ∧ BSC w w' p (.slice A l.length c) most g l a) := Lib.hid fun W' hW => hW.call (free_calls p _ most g l a W' hW.t)
  have HG0 := Lib.hid hsm
  have HP := Lib.hid (lt_of_block h.st)
  clear h hB0 hlc hsm
  generalize kindA a = kd at *
  generalize findB l ⟨a, port⟩ = fb at *
  generalize freeB l a = fr at *
  have k1 : (kd == 1) = false := by simp; omega
  have k0 : (kd == 5) = false := by simp; omega
  go_enter Try.func9, Try.ntmps9
  go_wp2_with (first | (refine gate_ (.load 32 (.tmp 4)) rfl ?_; refine wpList_guarded (by rfl) ?_; go_must (refine ld_A (.tmp 4) rfl rfl (range_A HB.out.x) rfl ?_)) | (go_at_call 16; refine (HK.out _ HB.out).mono ?_; rintro e w1 ⟨rfl, HB, c0, c1, c2, f1⟩) | (go_at_call 21; refine (HC.out _ HB.out).mono ?_; rintro e w1 ⟨rfl, HB, c0, c1, c2, f1⟩) | (go_at_call 22; refine (HF.out _ HB.out).mono ?_; rintro e w1 ⟨rfl, HB, c0, c1, c2, f1⟩))
  go_ret3
  exact ⟨by simp, HB.out.b⟩
set_option maxHeartbeats 4000000 in
theorem bind_neg (p : Nat) (v : Value) (most g : Int) (l : List Bd) (a : Ad) (port : Int) (w : World) (h : TAt w p v most g l) (hsm : l.length ≤ 1000000) (hk : kindA a = 1 ∨ kindA a = 5) (hp : port < 0) :
    Calls Try.prog 9 #[.pointer (some ⟨p, 0, none⟩), .agg (aV a), .int .i64 port] w fun e w' => e = .returned (.tuple #[.int .i64 0, .int .i64 0, .int .i64 1]) ∧ Below w.heap.size w w' := by
  obtain ⟨A, c, rfl, hlc⟩ := RB_len h.row
  have hB0 : Below w.heap.size w (w.alloc (.cells (aV a) 32)) := ((Touch.refl [] w).alloc _).below
  have HB : Hid (BS w (w.alloc (.cells (aV a) 32)) p (.slice A l.length c) most g l a) := Lib.hid ⟨h.below hB0, heap_alloc_new w _, hB0⟩
  have HK : Hid (∀ W', BS w W' p (.slice A l.length c) most g l a → Calls Try.prog 16 #[.agg (aV a)] W' fun e w' => e = .returned (.int .i64 (kindA a)) ∧ BSC w w' p (.slice A l.length c) most g l a) := Lib.hid fun W' hW => hW.call (kind_calls a W')
  have HC : Hid (∀ W', BS w W' p (.slice A l.length c) most g l a → Calls Try.prog 21 #[.pointer (some ⟨p, 0, none⟩), .agg (pV ⟨a, port⟩)] W' fun e w' => e = .returned (.int .i64 (findB l ⟨a, port⟩)) ∧ BSC w w' p (.slice A l.length c) most g l a) := Lib.hid fun W' hW => hW.call (at_calls p _ most g l ⟨a, port⟩ W' hW.t)
  have HF : Hid (∀ W', BS w W' p (.slice A l.length c) most g l a → Calls Try.prog 22 #[.pointer (some ⟨p, 0, none⟩), .agg (aV a)] W' fun e w' => e = .returned (.int .i64 (freeB l a)) ∧ BSC w w' p (.slice A l.length c) most g l a) := Lib.hid fun W' hW => hW.call (free_calls p _ most g l a W' hW.t)
  have HG0 := Lib.hid hsm
  have HP := Lib.hid (lt_of_block h.st)
  clear h hB0 hlc hsm
  generalize kindA a = kd at *
  generalize findB l ⟨a, port⟩ = fb at *
  generalize freeB l a = fr at *
  have k2 : decide (port < 0) = true := by simp; omega
  rcases hk with hk | hk
  · have k1 : (kd == 1) = true := by simpa using hk
    go_enter Try.func9, Try.ntmps9
    go_wp2_with (first | (refine gate_ (.load 32 (.tmp 4)) rfl ?_; refine wpList_guarded (by rfl) ?_; go_must (refine ld_A (.tmp 4) rfl rfl (range_A HB.out.x) rfl ?_)) | (go_at_call 16; refine (HK.out _ HB.out).mono ?_; rintro e w1 ⟨rfl, HB, c0, c1, c2, f1⟩) | (go_at_call 21; refine (HC.out _ HB.out).mono ?_; rintro e w1 ⟨rfl, HB, c0, c1, c2, f1⟩) | (go_at_call 22; refine (HF.out _ HB.out).mono ?_; rintro e w1 ⟨rfl, HB, c0, c1, c2, f1⟩))
    go_ret3
    exact ⟨by simp, HB.out.b⟩
  · have k1 : (kd == 1) = false := by simp; omega
    have k0 : (kd == 5) = true := by simpa using hk
    go_enter Try.func9, Try.ntmps9
    go_wp2_with (first | (refine gate_ (.load 32 (.tmp 4)) rfl ?_; refine wpList_guarded (by rfl) ?_; go_must (refine ld_A (.tmp 4) rfl rfl (range_A HB.out.x) rfl ?_)) | (go_at_call 16; refine (HK.out _ HB.out).mono ?_; rintro e w1 ⟨rfl, HB, c0, c1, c2, f1⟩) | (go_at_call 21; refine (HC.out _ HB.out).mono ?_; rintro e w1 ⟨rfl, HB, c0, c1, c2, f1⟩) | (go_at_call 22; refine (HF.out _ HB.out).mono ?_; rintro e w1 ⟨rfl, HB, c0, c1, c2, f1⟩))
    go_ret3
    exact ⟨by simp, HB.out.b⟩
set_option maxHeartbeats 4000000 in
theorem bind_big (p : Nat) (v : Value) (most g : Int) (l : List Bd) (a : Ad) (port : Int) (w : World) (h : TAt w p v most g l) (hsm : l.length ≤ 1000000) (hk : kindA a = 1 ∨ kindA a = 5) (hp : 65535 < port) :
    Calls Try.prog 9 #[.pointer (some ⟨p, 0, none⟩), .agg (aV a), .int .i64 port] w fun e w' => e = .returned (.tuple #[.int .i64 0, .int .i64 0, .int .i64 1]) ∧ Below w.heap.size w w' := by
  obtain ⟨A, c, rfl, hlc⟩ := RB_len h.row
  have hB0 : Below w.heap.size w (w.alloc (.cells (aV a) 32)) := ((Touch.refl [] w).alloc _).below
  have HB : Hid (BS w (w.alloc (.cells (aV a) 32)) p (.slice A l.length c) most g l a) := Lib.hid ⟨h.below hB0, heap_alloc_new w _, hB0⟩
  have HK : Hid (∀ W', BS w W' p (.slice A l.length c) most g l a → Calls Try.prog 16 #[.agg (aV a)] W' fun e w' => e = .returned (.int .i64 (kindA a)) ∧ BSC w w' p (.slice A l.length c) most g l a) := Lib.hid fun W' hW => hW.call (kind_calls a W')
  have HC : Hid (∀ W', BS w W' p (.slice A l.length c) most g l a → Calls Try.prog 21 #[.pointer (some ⟨p, 0, none⟩), .agg (pV ⟨a, port⟩)] W' fun e w' => e = .returned (.int .i64 (findB l ⟨a, port⟩)) ∧ BSC w w' p (.slice A l.length c) most g l a) := Lib.hid fun W' hW => hW.call (at_calls p _ most g l ⟨a, port⟩ W' hW.t)
  have HF : Hid (∀ W', BS w W' p (.slice A l.length c) most g l a → Calls Try.prog 22 #[.pointer (some ⟨p, 0, none⟩), .agg (aV a)] W' fun e w' => e = .returned (.int .i64 (freeB l a)) ∧ BSC w w' p (.slice A l.length c) most g l a) := Lib.hid fun W' hW => hW.call (free_calls p _ most g l a W' hW.t)
  have HG0 := Lib.hid hsm
  have HP := Lib.hid (lt_of_block h.st)
  clear h hB0 hlc hsm
  generalize kindA a = kd at *
  generalize findB l ⟨a, port⟩ = fb at *
  generalize freeB l a = fr at *
  have k2 : decide (port < 0) = false := by simp; omega
  have k3 : decide (port > 65535) = true := by simp; omega
  rcases hk with hk | hk
  · have k1 : (kd == 1) = true := by simpa using hk
    go_enter Try.func9, Try.ntmps9
    go_wp2_with (first | (refine gate_ (.load 32 (.tmp 4)) rfl ?_; refine wpList_guarded (by rfl) ?_; go_must (refine ld_A (.tmp 4) rfl rfl (range_A HB.out.x) rfl ?_)) | (go_at_call 16; refine (HK.out _ HB.out).mono ?_; rintro e w1 ⟨rfl, HB, c0, c1, c2, f1⟩) | (go_at_call 21; refine (HC.out _ HB.out).mono ?_; rintro e w1 ⟨rfl, HB, c0, c1, c2, f1⟩) | (go_at_call 22; refine (HF.out _ HB.out).mono ?_; rintro e w1 ⟨rfl, HB, c0, c1, c2, f1⟩))
    go_ret3
    exact ⟨by simp, HB.out.b⟩
  · have k1 : (kd == 1) = false := by simp; omega
    have k0 : (kd == 5) = true := by simpa using hk
    go_enter Try.func9, Try.ntmps9
    go_wp2_with (first | (refine gate_ (.load 32 (.tmp 4)) rfl ?_; refine wpList_guarded (by rfl) ?_; go_must (refine ld_A (.tmp 4) rfl rfl (range_A HB.out.x) rfl ?_)) | (go_at_call 16; refine (HK.out _ HB.out).mono ?_; rintro e w1 ⟨rfl, HB, c0, c1, c2, f1⟩) | (go_at_call 21; refine (HC.out _ HB.out).mono ?_; rintro e w1 ⟨rfl, HB, c0, c1, c2, f1⟩) | (go_at_call 22; refine (HF.out _ HB.out).mono ?_; rintro e w1 ⟨rfl, HB, c0, c1, c2, f1⟩))
    go_ret3
    exact ⟨by simp, HB.out.b⟩
set_option maxHeartbeats 4000000 in
theorem bind_use (p : Nat) (v : Value) (most g : Int) (l : List Bd) (a : Ad) (port : Int) (w : World) (h : TAt w p v most g l) (hsm : l.length ≤ 1000000) (hk : kindA a = 1 ∨ kindA a = 5) (hp0 : 0 < port) (hp1 : port ≤ 65535) (hf : 0 < findB l ⟨a, port⟩) :
    Calls Try.prog 9 #[.pointer (some ⟨p, 0, none⟩), .agg (aV a), .int .i64 port] w fun e w' => e = .returned (.tuple #[.int .i64 0, .int .i64 0, .int .i64 200]) ∧ Below w.heap.size w w' := by
  obtain ⟨A, c, rfl, hlc⟩ := RB_len h.row
  have hB0 : Below w.heap.size w (w.alloc (.cells (aV a) 32)) := ((Touch.refl [] w).alloc _).below
  have HB : Hid (BS w (w.alloc (.cells (aV a) 32)) p (.slice A l.length c) most g l a) := Lib.hid ⟨h.below hB0, heap_alloc_new w _, hB0⟩
  have HK : Hid (∀ W', BS w W' p (.slice A l.length c) most g l a → Calls Try.prog 16 #[.agg (aV a)] W' fun e w' => e = .returned (.int .i64 (kindA a)) ∧ BSC w w' p (.slice A l.length c) most g l a) := Lib.hid fun W' hW => hW.call (kind_calls a W')
  have HC : Hid (∀ W', BS w W' p (.slice A l.length c) most g l a → Calls Try.prog 21 #[.pointer (some ⟨p, 0, none⟩), .agg (pV ⟨a, port⟩)] W' fun e w' => e = .returned (.int .i64 (findB l ⟨a, port⟩)) ∧ BSC w w' p (.slice A l.length c) most g l a) := Lib.hid fun W' hW => hW.call (at_calls p _ most g l ⟨a, port⟩ W' hW.t)
  have HF : Hid (∀ W', BS w W' p (.slice A l.length c) most g l a → Calls Try.prog 22 #[.pointer (some ⟨p, 0, none⟩), .agg (aV a)] W' fun e w' => e = .returned (.int .i64 (freeB l a)) ∧ BSC w w' p (.slice A l.length c) most g l a) := Lib.hid fun W' hW => hW.call (free_calls p _ most g l a W' hW.t)
  have HG0 := Lib.hid hsm
  have HP := Lib.hid (lt_of_block h.st)
  clear h hB0 hlc hsm
  generalize kindA a = kd at *
  generalize findB l ⟨a, port⟩ = fb at *
  generalize freeB l a = fr at *
  have k2 : decide (port < 0) = false := by simp; omega
  have k3 : decide (port > 65535) = false := by simp; omega
  have k4 : decide (port > 0) = true := by simp; omega
  have k5 : decide (fb > 0) = true := by simp; omega
  rcases hk with hk | hk
  · have k1 : (kd == 1) = true := by simpa using hk
    go_enter Try.func9, Try.ntmps9
    go_wp2_with (first | (refine gate_ (.load 32 (.tmp 4)) rfl ?_; refine wpList_guarded (by rfl) ?_; go_must (refine ld_A (.tmp 4) rfl rfl (range_A HB.out.x) rfl ?_)) | (go_at_call 16; refine (HK.out _ HB.out).mono ?_; rintro e w1 ⟨rfl, HB, c0, c1, c2, f1⟩) | (go_at_call 21; refine (HC.out _ HB.out).mono ?_; rintro e w1 ⟨rfl, HB, c0, c1, c2, f1⟩) | (go_at_call 22; refine (HF.out _ HB.out).mono ?_; rintro e w1 ⟨rfl, HB, c0, c1, c2, f1⟩))
    go_ret3
    exact ⟨by simp, HB.out.b⟩
  · have k1 : (kd == 1) = false := by simp; omega
    have k0 : (kd == 5) = true := by simpa using hk
    go_enter Try.func9, Try.ntmps9
    go_wp2_with (first | (refine gate_ (.load 32 (.tmp 4)) rfl ?_; refine wpList_guarded (by rfl) ?_; go_must (refine ld_A (.tmp 4) rfl rfl (range_A HB.out.x) rfl ?_)) | (go_at_call 16; refine (HK.out _ HB.out).mono ?_; rintro e w1 ⟨rfl, HB, c0, c1, c2, f1⟩) | (go_at_call 21; refine (HC.out _ HB.out).mono ?_; rintro e w1 ⟨rfl, HB, c0, c1, c2, f1⟩) | (go_at_call 22; refine (HF.out _ HB.out).mono ?_; rintro e w1 ⟨rfl, HB, c0, c1, c2, f1⟩))
    go_ret3
    exact ⟨by simp, HB.out.b⟩
set_option maxHeartbeats 4000000 in
theorem bind_full (p : Nat) (v : Value) (most g : Int) (l : List Bd) (a : Ad) (port : Int) (w : World) (h : TAt w p v most g l) (hsm : l.length ≤ 1000000) (hk : kindA a = 1 ∨ kindA a = 5) (hp0 : 0 < port) (hp1 : port ≤ 65535) (hf : ¬ 0 < findB l ⟨a, port⟩) (hm : most ≤ (l.length : Int)) :
    Calls Try.prog 9 #[.pointer (some ⟨p, 0, none⟩), .agg (aV a), .int .i64 port] w fun e w' => e = .returned (.tuple #[.int .i64 0, .int .i64 0, .int .i64 201]) ∧ Below w.heap.size w w' := by
  obtain ⟨A, c, rfl, hlc⟩ := RB_len h.row
  have hB0 : Below w.heap.size w (w.alloc (.cells (aV a) 32)) := ((Touch.refl [] w).alloc _).below
  have HB : Hid (BS w (w.alloc (.cells (aV a) 32)) p (.slice A l.length c) most g l a) := Lib.hid ⟨h.below hB0, heap_alloc_new w _, hB0⟩
  have HK : Hid (∀ W', BS w W' p (.slice A l.length c) most g l a → Calls Try.prog 16 #[.agg (aV a)] W' fun e w' => e = .returned (.int .i64 (kindA a)) ∧ BSC w w' p (.slice A l.length c) most g l a) := Lib.hid fun W' hW => hW.call (kind_calls a W')
  have HC : Hid (∀ W', BS w W' p (.slice A l.length c) most g l a → Calls Try.prog 21 #[.pointer (some ⟨p, 0, none⟩), .agg (pV ⟨a, port⟩)] W' fun e w' => e = .returned (.int .i64 (findB l ⟨a, port⟩)) ∧ BSC w w' p (.slice A l.length c) most g l a) := Lib.hid fun W' hW => hW.call (at_calls p _ most g l ⟨a, port⟩ W' hW.t)
  have HF : Hid (∀ W', BS w W' p (.slice A l.length c) most g l a → Calls Try.prog 22 #[.pointer (some ⟨p, 0, none⟩), .agg (aV a)] W' fun e w' => e = .returned (.int .i64 (freeB l a)) ∧ BSC w w' p (.slice A l.length c) most g l a) := Lib.hid fun W' hW => hW.call (free_calls p _ most g l a W' hW.t)
  have HG0 := Lib.hid hsm
  have HP := Lib.hid (lt_of_block h.st)
  clear h hB0 hlc hsm
  generalize kindA a = kd at *
  generalize findB l ⟨a, port⟩ = fb at *
  generalize freeB l a = fr at *
  have k2 : decide (port < 0) = false := by simp; omega
  have k3 : decide (port > 65535) = false := by simp; omega
  have k4 : decide (port > 0) = true := by simp; omega
  have k5 : decide (fb > 0) = false := by simp; omega
  have k6 : decide ((l.length : Int) ≥ most) = true := by simp; omega
  rcases hk with hk | hk
  · have k1 : (kd == 1) = true := by simpa using hk
    go_enter Try.func9, Try.ntmps9
    go_wp2_with (first | (refine gate_ (.load 32 (.tmp 4)) rfl ?_; refine wpList_guarded (by rfl) ?_; go_must (refine ld_A (.tmp 4) rfl rfl (range_A HB.out.x) rfl ?_)) | (go_at_call 16; refine (HK.out _ HB.out).mono ?_; rintro e w1 ⟨rfl, HB, c0, c1, c2, f1⟩) | (go_at_call 21; refine (HC.out _ HB.out).mono ?_; rintro e w1 ⟨rfl, HB, c0, c1, c2, f1⟩) | (go_at_call 22; refine (HF.out _ HB.out).mono ?_; rintro e w1 ⟨rfl, HB, c0, c1, c2, f1⟩))
    go_quiet (fail)
    replace HB := Lib.hid (HB.out.below ((Touch.refl [] w1).drewN nq).below)
    go_wp2_with fail
    go_ret3
    exact ⟨by simp, HB.out.b⟩
  · have k1 : (kd == 1) = false := by simp; omega
    have k0 : (kd == 5) = true := by simpa using hk
    go_enter Try.func9, Try.ntmps9
    go_wp2_with (first | (refine gate_ (.load 32 (.tmp 4)) rfl ?_; refine wpList_guarded (by rfl) ?_; go_must (refine ld_A (.tmp 4) rfl rfl (range_A HB.out.x) rfl ?_)) | (go_at_call 16; refine (HK.out _ HB.out).mono ?_; rintro e w1 ⟨rfl, HB, c0, c1, c2, f1⟩) | (go_at_call 21; refine (HC.out _ HB.out).mono ?_; rintro e w1 ⟨rfl, HB, c0, c1, c2, f1⟩) | (go_at_call 22; refine (HF.out _ HB.out).mono ?_; rintro e w1 ⟨rfl, HB, c0, c1, c2, f1⟩))
    go_quiet (fail)
    replace HB := Lib.hid (HB.out.below ((Touch.refl [] w1).drewN nq).below)
    go_wp2_with fail
    go_ret3
    exact ⟨by simp, HB.out.b⟩
set_option maxHeartbeats 4000000 in
theorem bind_full0 (p : Nat) (v : Value) (most g : Int) (l : List Bd) (a : Ad) (port : Int) (w : World) (h : TAt w p v most g l) (hsm : l.length ≤ 1000000) (hk : kindA a = 1 ∨ kindA a = 5) (hp0 : port = 0) (hm : most ≤ (l.length : Int)) :
    Calls Try.prog 9 #[.pointer (some ⟨p, 0, none⟩), .agg (aV a), .int .i64 port] w fun e w' => e = .returned (.tuple #[.int .i64 0, .int .i64 0, .int .i64 201]) ∧ Below w.heap.size w w' := by
  obtain ⟨A, c, rfl, hlc⟩ := RB_len h.row
  have hB0 : Below w.heap.size w (w.alloc (.cells (aV a) 32)) := ((Touch.refl [] w).alloc _).below
  have HB : Hid (BS w (w.alloc (.cells (aV a) 32)) p (.slice A l.length c) most g l a) := Lib.hid ⟨h.below hB0, heap_alloc_new w _, hB0⟩
  have HK : Hid (∀ W', BS w W' p (.slice A l.length c) most g l a → Calls Try.prog 16 #[.agg (aV a)] W' fun e w' => e = .returned (.int .i64 (kindA a)) ∧ BSC w w' p (.slice A l.length c) most g l a) := Lib.hid fun W' hW => hW.call (kind_calls a W')
  have HC : Hid (∀ W', BS w W' p (.slice A l.length c) most g l a → Calls Try.prog 21 #[.pointer (some ⟨p, 0, none⟩), .agg (pV ⟨a, port⟩)] W' fun e w' => e = .returned (.int .i64 (findB l ⟨a, port⟩)) ∧ BSC w w' p (.slice A l.length c) most g l a) := Lib.hid fun W' hW => hW.call (at_calls p _ most g l ⟨a, port⟩ W' hW.t)
  have HF : Hid (∀ W', BS w W' p (.slice A l.length c) most g l a → Calls Try.prog 22 #[.pointer (some ⟨p, 0, none⟩), .agg (aV a)] W' fun e w' => e = .returned (.int .i64 (freeB l a)) ∧ BSC w w' p (.slice A l.length c) most g l a) := Lib.hid fun W' hW => hW.call (free_calls p _ most g l a W' hW.t)
  have HG0 := Lib.hid hsm
  have HP := Lib.hid (lt_of_block h.st)
  clear h hB0 hlc hsm
  generalize kindA a = kd at *
  generalize findB l ⟨a, port⟩ = fb at *
  generalize freeB l a = fr at *
  have k2 : decide (port < 0) = false := by simp; omega
  have k3 : decide (port > 65535) = false := by simp; omega
  have k4 : decide (port > 0) = false := by simp; omega
  have k6 : decide ((l.length : Int) ≥ most) = true := by simp; omega
  rcases hk with hk | hk
  · have k1 : (kd == 1) = true := by simpa using hk
    go_enter Try.func9, Try.ntmps9
    go_wp2_with (first | (refine gate_ (.load 32 (.tmp 4)) rfl ?_; refine wpList_guarded (by rfl) ?_; go_must (refine ld_A (.tmp 4) rfl rfl (range_A HB.out.x) rfl ?_)) | (go_at_call 16; refine (HK.out _ HB.out).mono ?_; rintro e w1 ⟨rfl, HB, c0, c1, c2, f1⟩) | (go_at_call 21; refine (HC.out _ HB.out).mono ?_; rintro e w1 ⟨rfl, HB, c0, c1, c2, f1⟩) | (go_at_call 22; refine (HF.out _ HB.out).mono ?_; rintro e w1 ⟨rfl, HB, c0, c1, c2, f1⟩))
    go_quiet (fail)
    replace HB := Lib.hid (HB.out.below ((Touch.refl [] w1).drewN nq).below)
    go_wp2_with fail
    go_ret3
    exact ⟨by simp, HB.out.b⟩
  · have k1 : (kd == 1) = false := by simp; omega
    have k0 : (kd == 5) = true := by simpa using hk
    go_enter Try.func9, Try.ntmps9
    go_wp2_with (first | (refine gate_ (.load 32 (.tmp 4)) rfl ?_; refine wpList_guarded (by rfl) ?_; go_must (refine ld_A (.tmp 4) rfl rfl (range_A HB.out.x) rfl ?_)) | (go_at_call 16; refine (HK.out _ HB.out).mono ?_; rintro e w1 ⟨rfl, HB, c0, c1, c2, f1⟩) | (go_at_call 21; refine (HC.out _ HB.out).mono ?_; rintro e w1 ⟨rfl, HB, c0, c1, c2, f1⟩) | (go_at_call 22; refine (HF.out _ HB.out).mono ?_; rintro e w1 ⟨rfl, HB, c0, c1, c2, f1⟩))
    go_quiet (fail)
    replace HB := Lib.hid (HB.out.below ((Touch.refl [] w1).drewN nq).below)
    go_wp2_with fail
    go_ret3
    exact ⟨by simp, HB.out.b⟩
set_option maxHeartbeats 4000000 in
theorem bind_none (p : Nat) (v : Value) (most g : Int) (l : List Bd) (a : Ad) (port : Int) (w : World) (h : TAt w p v most g l) (hsm : l.length ≤ 1000000) (hk : kindA a = 1 ∨ kindA a = 5) (hp0 : port = 0) (hm : (l.length : Int) < most) (hq : freeB l a = 0) :
    Calls Try.prog 9 #[.pointer (some ⟨p, 0, none⟩), .agg (aV a), .int .i64 port] w fun e w' => e = .returned (.tuple #[.int .i64 0, .int .i64 0, .int .i64 201]) ∧ Below w.heap.size w w' := by
  obtain ⟨A, c, rfl, hlc⟩ := RB_len h.row
  have hB0 : Below w.heap.size w (w.alloc (.cells (aV a) 32)) := ((Touch.refl [] w).alloc _).below
  have HB : Hid (BS w (w.alloc (.cells (aV a) 32)) p (.slice A l.length c) most g l a) := Lib.hid ⟨h.below hB0, heap_alloc_new w _, hB0⟩
  have HK : Hid (∀ W', BS w W' p (.slice A l.length c) most g l a → Calls Try.prog 16 #[.agg (aV a)] W' fun e w' => e = .returned (.int .i64 (kindA a)) ∧ BSC w w' p (.slice A l.length c) most g l a) := Lib.hid fun W' hW => hW.call (kind_calls a W')
  have HC : Hid (∀ W', BS w W' p (.slice A l.length c) most g l a → Calls Try.prog 21 #[.pointer (some ⟨p, 0, none⟩), .agg (pV ⟨a, port⟩)] W' fun e w' => e = .returned (.int .i64 (findB l ⟨a, port⟩)) ∧ BSC w w' p (.slice A l.length c) most g l a) := Lib.hid fun W' hW => hW.call (at_calls p _ most g l ⟨a, port⟩ W' hW.t)
  have HF : Hid (∀ W', BS w W' p (.slice A l.length c) most g l a → Calls Try.prog 22 #[.pointer (some ⟨p, 0, none⟩), .agg (aV a)] W' fun e w' => e = .returned (.int .i64 (freeB l a)) ∧ BSC w w' p (.slice A l.length c) most g l a) := Lib.hid fun W' hW => hW.call (free_calls p _ most g l a W' hW.t)
  have HG0 := Lib.hid hsm
  have HP := Lib.hid (lt_of_block h.st)
  clear h hB0 hlc hsm
  generalize kindA a = kd at *
  generalize findB l ⟨a, port⟩ = fb at *
  generalize freeB l a = fr at *
  have k2 : decide (port < 0) = false := by simp; omega
  have k3 : decide (port > 65535) = false := by simp; omega
  have k4 : decide (port > 0) = false := by simp; omega
  have k6 : decide ((l.length : Int) ≥ most) = false := by simp; omega
  have k7 : (port == 0) = true := by simp; omega
  have k8 : (fr == 0) = true := by simpa using hq
  rcases hk with hk | hk
  · have k1 : (kd == 1) = true := by simpa using hk
    go_enter Try.func9, Try.ntmps9
    go_wp2_with (first | (refine gate_ (.load 32 (.tmp 4)) rfl ?_; refine wpList_guarded (by rfl) ?_; go_must (refine ld_A (.tmp 4) rfl rfl (range_A HB.out.x) rfl ?_)) | (go_at_call 16; refine (HK.out _ HB.out).mono ?_; rintro e w1 ⟨rfl, HB, c0, c1, c2, f1⟩) | (go_at_call 21; refine (HC.out _ HB.out).mono ?_; rintro e w1 ⟨rfl, HB, c0, c1, c2, f1⟩) | (go_at_call 22; refine (HF.out _ HB.out).mono ?_; rintro e w1 ⟨rfl, HB, c0, c1, c2, f1⟩))
    go_quiet (fail)
    replace HB := Lib.hid (HB.out.below ((Touch.refl [] w1).drewN nq).below)
    replace c0 := HB.out.cells.1
    replace c1 := HB.out.cells.2.1
    replace c2 := HB.out.cells.2.2.1
    replace f1 := HB.out.cells.2.2.2
    go_wp2_with (first | (refine gate_ (.load 32 (.tmp 4)) rfl ?_; refine wpList_guarded (by rfl) ?_; go_must (refine ld_A (.tmp 4) rfl rfl (range_A HB.out.x) rfl ?_)) | (go_at_call 16; refine (HK.out _ HB.out).mono ?_; rintro e w1 ⟨rfl, HB, c0, c1, c2, f1⟩) | (go_at_call 21; refine (HC.out _ HB.out).mono ?_; rintro e w1 ⟨rfl, HB, c0, c1, c2, f1⟩) | (go_at_call 22; refine (HF.out _ HB.out).mono ?_; rintro e w1 ⟨rfl, HB, c0, c1, c2, f1⟩))
    go_ret3
    exact ⟨by simp, HB.out.b⟩
  · have k1 : (kd == 1) = false := by simp; omega
    have k0 : (kd == 5) = true := by simpa using hk
    go_enter Try.func9, Try.ntmps9
    go_wp2_with (first | (refine gate_ (.load 32 (.tmp 4)) rfl ?_; refine wpList_guarded (by rfl) ?_; go_must (refine ld_A (.tmp 4) rfl rfl (range_A HB.out.x) rfl ?_)) | (go_at_call 16; refine (HK.out _ HB.out).mono ?_; rintro e w1 ⟨rfl, HB, c0, c1, c2, f1⟩) | (go_at_call 21; refine (HC.out _ HB.out).mono ?_; rintro e w1 ⟨rfl, HB, c0, c1, c2, f1⟩) | (go_at_call 22; refine (HF.out _ HB.out).mono ?_; rintro e w1 ⟨rfl, HB, c0, c1, c2, f1⟩))
    go_quiet (fail)
    replace HB := Lib.hid (HB.out.below ((Touch.refl [] w1).drewN nq).below)
    replace c0 := HB.out.cells.1
    replace c1 := HB.out.cells.2.1
    replace c2 := HB.out.cells.2.2.1
    replace f1 := HB.out.cells.2.2.2
    go_wp2_with (first | (refine gate_ (.load 32 (.tmp 4)) rfl ?_; refine wpList_guarded (by rfl) ?_; go_must (refine ld_A (.tmp 4) rfl rfl (range_A HB.out.x) rfl ?_)) | (go_at_call 16; refine (HK.out _ HB.out).mono ?_; rintro e w1 ⟨rfl, HB, c0, c1, c2, f1⟩) | (go_at_call 21; refine (HC.out _ HB.out).mono ?_; rintro e w1 ⟨rfl, HB, c0, c1, c2, f1⟩) | (go_at_call 22; refine (HF.out _ HB.out).mono ?_; rintro e w1 ⟨rfl, HB, c0, c1, c2, f1⟩))
    go_ret3
    exact ⟨by simp, HB.out.b⟩
theorem bind_end {w W3 w4 : World} {p : Nat} {A A1 : Option Addr} {c c1 : Nat} {most g : Int} {l : List Bd} {x : Bd} {r : Value} (hTo : Touch (p :: (Value.slice A l.length c).ownBlock.toList) w W3) (hst : W3.heap[p]? = some (.cells (#[Value.int .i64 most, .int .i64 g, .slice A l.length c].setIfInBounds 1 (.int .i64 (g + 1))) 61 (0, 0)))
    (hne : (Value.slice A l.length c).ownBlock ≠ some p) (hR : kB.R 66 w4 0 (fun _ => True) (.slice A1 (l ++ [x]).length c1) (l ++ [x])) (hg : W3.drew.grownBy w4 (Value.slice A l.length c).ownBlock)
    (hat : (Value.slice A1 (l ++ [x]).length c1).ownBlock = (Value.slice A l.length c).ownBlock ∨ ∃ b, (Value.slice A1 (l ++ [x]).length c1).ownBlock = some b ∧ W3.drew.heap.size ≤ b)
    (hst4 : w4.heap[p]? = some (.cells #[.int .i64 most, .int .i64 (g + 1), .slice A l.length c] 61 (0, 0))) :
    ∃ v', Ending.returned r = Ending.returned r ∧ TAt (w4.setCell ⟨p, 2, none⟩ (.slice A1 (l.length + 1) c1)) p v' most (g + 1) (l ++ [x]) ∧ Touch (p :: (Value.slice A l.length c).ownBlock.toList) w (w4.setCell ⟨p, 2, none⟩ (.slice A1 (l.length + 1) c1)) ∧ (v'.ownBlock = (Value.slice A l.length c).ownBlock ∨ ∃ b, v'.ownBlock = some b ∧ w.heap.size ≤ b) := by
  have hlen : (l ++ [x]).length = l.length + 1 := by simp
  rw [hlen] at hR hat
  have hp3 : p < W3.heap.size := lt_of_block hst
  have hsz : w.heap.size ≤ W3.heap.size := hTo.size
  have hvp : (Value.slice A1 (l.length + 1) c1).ownBlock ≠ some p := fun e => by
    rcases hat with h | ⟨b, h, hle⟩
    · exact hne (h.symm.trans e)
    · rw [h] at e
      injection e with e
      have hle' : W3.heap.size ≤ b := hle
      omega
  refine ⟨.slice A1 (l.length + 1) c1, rfl, ⟨blk_set hst4 2 _, RB_same hR fun b hb => Below.heap_setCell _ _ _ _ (fun e => hvp (by rw [hb]; exact congrArg some e)), hvp⟩, ?_, ?_⟩
  · refine Touch.setCell ((hTo.drew).toGrown hg (fun k hk => ?_)) (p := ⟨p, 2, none⟩) (.inl List.mem_cons_self) _
    rw [hk]; simp
  · rcases hat with h | ⟨b, h, hle⟩
    · exact .inl h
    · exact .inr ⟨b, h, Nat.le_trans hsz hle⟩
set_option maxHeartbeats 4000000 in
theorem bind_yes (p : Nat) (v : Value) (most g : Int) (l : List Bd) (a : Ad) (port : Int) (w : World) (h : TAt w p v most g l) (hsm : l.length ≤ 1000000) (hg0 : 0 ≤ g) (hg1 : g < 4000000000000000000) (hk : kindA a = 1 ∨ kindA a = 5) (hp0 : 0 < port) (hp1 : port ≤ 65535) (hf : ¬ 0 < findB l ⟨a, port⟩) (hm : (l.length : Int) < most) :
    Calls Try.prog 9 #[.pointer (some ⟨p, 0, none⟩), .agg (aV a), .int .i64 port] w fun e w' => ∃ v', e = .returned (.tuple #[.int .i64 (g + 1), .int .i64 port, .int .i64 0]) ∧ TAt w' p v' most (g + 1) (l ++ [⟨g + 1, ⟨a, port⟩⟩]) ∧ Touch (p :: v.ownBlock.toList) w w' ∧ (v'.ownBlock = v.ownBlock ∨ ∃ b, v'.ownBlock = some b ∧ w.heap.size ≤ b) := by
  obtain ⟨A, c, rfl, hlc⟩ := RB_len h.row
  have hB0 : Below w.heap.size w (w.alloc (.cells (aV a) 32)) := ((Touch.refl [] w).alloc _).below
  have HB : Hid (BS w (w.alloc (.cells (aV a) 32)) p (.slice A l.length c) most g l a) := Lib.hid ⟨h.below hB0, heap_alloc_new w _, hB0⟩
  have HK : Hid (∀ W', BS w W' p (.slice A l.length c) most g l a → Calls Try.prog 16 #[.agg (aV a)] W' fun e w' => e = .returned (.int .i64 (kindA a)) ∧ BSC w w' p (.slice A l.length c) most g l a) := Lib.hid fun W' hW => hW.call (kind_calls a W')
  have HC : Hid (∀ W', BS w W' p (.slice A l.length c) most g l a → Calls Try.prog 21 #[.pointer (some ⟨p, 0, none⟩), .agg (pV ⟨a, port⟩)] W' fun e w' => e = .returned (.int .i64 (findB l ⟨a, port⟩)) ∧ BSC w w' p (.slice A l.length c) most g l a) := Lib.hid fun W' hW => hW.call (at_calls p _ most g l ⟨a, port⟩ W' hW.t)
  have HF : Hid (∀ W', BS w W' p (.slice A l.length c) most g l a → Calls Try.prog 22 #[.pointer (some ⟨p, 0, none⟩), .agg (aV a)] W' fun e w' => e = .returned (.int .i64 (freeB l a)) ∧ BSC w w' p (.slice A l.length c) most g l a) := Lib.hid fun W' hW => hW.call (free_calls p _ most g l a W' hW.t)
  have HG0 := Lib.hid hsm
  have HP := Lib.hid (lt_of_block h.st)
  clear h hB0 hlc hsm
  generalize kindA a = kd at *
  generalize findB l ⟨a, port⟩ = fb at *
  generalize freeB l a = fr at *
  have k2 : decide (port < 0) = false := by simp; omega
  have k3 : decide (port > 65535) = false := by simp; omega
  have k4 : decide (port > 0) = true := by simp; omega
  have k5 : decide (fb > 0) = false := by simp; omega
  have k6 : decide ((l.length : Int) ≥ most) = false := by simp; omega
  have k7 : (port == 0) = false := by simp; omega
  rcases hk with hk | hk
  · have k1 : (kd == 1) = true := by simpa using hk
    go_enter Try.func9, Try.ntmps9
    go_wp2_with (first | (refine gate_ (.load 32 (.tmp 4)) rfl ?_; refine wpList_guarded (by rfl) ?_; go_must (refine ld_A (.tmp 4) rfl rfl (range_A HB.out.x) rfl ?_)) | (go_at_call 16; refine (HK.out _ HB.out).mono ?_; rintro e w1 ⟨rfl, HB, c0, c1, c2, f1⟩) | (go_at_call 21; refine (HC.out _ HB.out).mono ?_; rintro e w1 ⟨rfl, HB, c0, c1, c2, f1⟩) | (go_at_call 22; refine (HF.out _ HB.out).mono ?_; rintro e w1 ⟨rfl, HB, c0, c1, c2, f1⟩))
    go_quiet (fail)
    replace HB := Lib.hid (HB.out.below ((Touch.refl [] w1).drewN nq).below)
    replace c0 := HB.out.cells.1
    replace c1 := HB.out.cells.2.1
    replace c2 := HB.out.cells.2.2.1
    replace f1 := HB.out.cells.2.2.2
    go_wp2_with (first | (refine gate_ (.load 32 (.tmp 4)) rfl ?_; refine wpList_guarded (by rfl) ?_; go_must (refine ld_A (.tmp 4) rfl rfl (range_A HB.out.x) rfl ?_)) | (go_at_call 16; refine (HK.out _ HB.out).mono ?_; rintro e w1 ⟨rfl, HB, c0, c1, c2, f1⟩) | (go_at_call 21; refine (HC.out _ HB.out).mono ?_; rintro e w1 ⟨rfl, HB, c0, c1, c2, f1⟩) | (go_at_call 22; refine (HF.out _ HB.out).mono ?_; rintro e w1 ⟨rfl, HB, c0, c1, c2, f1⟩))
    generalize hW3 : World.setCell _ ⟨p, 1, none⟩ (.int .i64 (g + 1)) = W3
    have hst3 := blk_set HB.out.t.st 1 (.int .i64 (g + 1))
    rw [hW3] at hst3
    have hpB : p ≠ w.heap.size := fun e => by have := HP.out; omega
    have hR3 : RB W3 0 (.slice A l.length c) l := RB_same HB.out.t.row fun b hb => by
      rw [← hW3]
      exact Below.heap_setCell _ _ _ _ (fun e => HB.out.t.ne (by rw [hb]; exact congrArg some e))
    have hX3 : W3.heap[w.heap.size]? = some (.cells (aV a) 32 (0, 0)) := by
      rw [← hW3]
      exact (Below.heap_setCell _ _ _ _ (fun e => hpB e.symm)).trans HB.out.x
    have hTo : Touch (p :: (Value.slice A l.length c).ownBlock.toList) w W3 := by
      rw [← hW3]
      exact (Touch.of_below HB.out.b).setCell (p := ⟨p, 1, none⟩) (.inl List.mem_cons_self) _
    have hrg : W3.rangeAt w.heap.size 0 (aL a) := range_A hX3
    have d1 : W3.cell? ⟨p, 1, none⟩ = some (.int .i64 (g + 1)) := cell_of_row _ _ 1 _ _ _ hst3
    have d2 : W3.cell? ⟨p, 2, none⟩ = some (.slice A l.length c) := cell_of_row _ _ 2 _ _ _ hst3
    have d3 : (W3.alloc (.cells (bV ⟨g + 1, ⟨a, port⟩⟩) 66)).cell? ⟨p, 2, none⟩ = some (.slice A l.length c) := cell_of_row _ _ 2 _ _ _ ((heap_alloc_old W3 _ (lt_of_block hst3)).trans hst3)
    have HST := Lib.hid hst3
    have HR3 := Lib.hid hR3
    have HTO := Lib.hid hTo
    have HNE := Lib.hid HB.out.t.ne
    have hLD : ∀ W : World, W.rangeAt w.heap.size 0 (aL a) → (loadVar 32 ⟨w.heap.size, 0, none⟩).run Try.prog W = .ok (.agg (aV a)) W := fun W h => lvA h
    clear hst3 hpB hR3 hX3 hTo hW3 HB c0 c1 c2 f1
    go_region_law (refine Kd.R_append_step kB (w0 := W3.drew) (W := W3.drew) 0 rfl (.tmp 67) (.tmp 76) 59 66 (.agg (bV zB)) 40 rfl Try.underlying59 infoB rfl (by decide) (by decide) (.slice A l.length c) l ⟨g + 1, ⟨a, port⟩⟩ (bL ⟨g + 1, ⟨a, port⟩⟩) (fun _ => True) (fun k => some k ≠ (Value.slice A l.length c).ownBlock) (by first | (go_simp; done) | (go_simp; rfl)) (by first | (go_simp; done) | (go_simp; rfl)) rfl (fun k h => ⟨trivial, h⟩) (fun _ _ => trivial) (RB_same (w := W3) HR3.out (fun b hb => rfl)) (blw0 _) (Nat.zero_le _) (by have := HG0.out; omega) ?_; intro v1 w4 hR4 hB4 hg4 hat4; obtain ⟨A1, c1, rfl⟩ := Kd.R_slice hR4; have st4 : w4.heap[p]? = some (.cells #[.int .i64 most, .int .i64 (g + 1), (.slice A l.length c)] 61 (0, 0)) := (hg4.block p (lt_of_block HST.out) (fun e => HNE.out e.symm)).trans HST.out; have e2 := cell_of_row _ _ 2 _ _ _ st4; replace e2 : w4.cell? ⟨p, 2, none⟩ = some (.slice A l.length c) := e2; have e1 := cell_of_row _ _ 1 _ _ _ st4; replace e1 : w4.cell? ⟨p, 1, none⟩ = some (.int .i64 (g + 1)) := e1; have e3 : w4.frozen? ⟨p, 2, none⟩ = false := blk_frozen st4 2; have HE := Lib.hid (And.intro hR4 (And.intro hg4 (And.intro hat4 st4))); clear hR4 hB4 hg4 hat4 st4)
    all_goals go_wp2_with fail
    all_goals go_ret3
    all_goals exact bind_end HTO.out HST.out HNE.out HE.out.1 HE.out.2.1 HE.out.2.2.1 HE.out.2.2.2
  · have k1 : (kd == 1) = false := by simp; omega
    have k0 : (kd == 5) = true := by simpa using hk
    go_enter Try.func9, Try.ntmps9
    go_wp2_with (first | (refine gate_ (.load 32 (.tmp 4)) rfl ?_; refine wpList_guarded (by rfl) ?_; go_must (refine ld_A (.tmp 4) rfl rfl (range_A HB.out.x) rfl ?_)) | (go_at_call 16; refine (HK.out _ HB.out).mono ?_; rintro e w1 ⟨rfl, HB, c0, c1, c2, f1⟩) | (go_at_call 21; refine (HC.out _ HB.out).mono ?_; rintro e w1 ⟨rfl, HB, c0, c1, c2, f1⟩) | (go_at_call 22; refine (HF.out _ HB.out).mono ?_; rintro e w1 ⟨rfl, HB, c0, c1, c2, f1⟩))
    go_quiet (fail)
    replace HB := Lib.hid (HB.out.below ((Touch.refl [] w1).drewN nq).below)
    replace c0 := HB.out.cells.1
    replace c1 := HB.out.cells.2.1
    replace c2 := HB.out.cells.2.2.1
    replace f1 := HB.out.cells.2.2.2
    go_wp2_with (first | (refine gate_ (.load 32 (.tmp 4)) rfl ?_; refine wpList_guarded (by rfl) ?_; go_must (refine ld_A (.tmp 4) rfl rfl (range_A HB.out.x) rfl ?_)) | (go_at_call 16; refine (HK.out _ HB.out).mono ?_; rintro e w1 ⟨rfl, HB, c0, c1, c2, f1⟩) | (go_at_call 21; refine (HC.out _ HB.out).mono ?_; rintro e w1 ⟨rfl, HB, c0, c1, c2, f1⟩) | (go_at_call 22; refine (HF.out _ HB.out).mono ?_; rintro e w1 ⟨rfl, HB, c0, c1, c2, f1⟩))
    generalize hW3 : World.setCell _ ⟨p, 1, none⟩ (.int .i64 (g + 1)) = W3
    have hst3 := blk_set HB.out.t.st 1 (.int .i64 (g + 1))
    rw [hW3] at hst3
    have hpB : p ≠ w.heap.size := fun e => by have := HP.out; omega
    have hR3 : RB W3 0 (.slice A l.length c) l := RB_same HB.out.t.row fun b hb => by
      rw [← hW3]
      exact Below.heap_setCell _ _ _ _ (fun e => HB.out.t.ne (by rw [hb]; exact congrArg some e))
    have hX3 : W3.heap[w.heap.size]? = some (.cells (aV a) 32 (0, 0)) := by
      rw [← hW3]
      exact (Below.heap_setCell _ _ _ _ (fun e => hpB e.symm)).trans HB.out.x
    have hTo : Touch (p :: (Value.slice A l.length c).ownBlock.toList) w W3 := by
      rw [← hW3]
      exact (Touch.of_below HB.out.b).setCell (p := ⟨p, 1, none⟩) (.inl List.mem_cons_self) _
    have hrg : W3.rangeAt w.heap.size 0 (aL a) := range_A hX3
    have d1 : W3.cell? ⟨p, 1, none⟩ = some (.int .i64 (g + 1)) := cell_of_row _ _ 1 _ _ _ hst3
    have d2 : W3.cell? ⟨p, 2, none⟩ = some (.slice A l.length c) := cell_of_row _ _ 2 _ _ _ hst3
    have d3 : (W3.alloc (.cells (bV ⟨g + 1, ⟨a, port⟩⟩) 66)).cell? ⟨p, 2, none⟩ = some (.slice A l.length c) := cell_of_row _ _ 2 _ _ _ ((heap_alloc_old W3 _ (lt_of_block hst3)).trans hst3)
    have HST := Lib.hid hst3
    have HR3 := Lib.hid hR3
    have HTO := Lib.hid hTo
    have HNE := Lib.hid HB.out.t.ne
    have hLD : ∀ W : World, W.rangeAt w.heap.size 0 (aL a) → (loadVar 32 ⟨w.heap.size, 0, none⟩).run Try.prog W = .ok (.agg (aV a)) W := fun W h => lvA h
    clear hst3 hpB hR3 hX3 hTo hW3 HB c0 c1 c2 f1
    go_region_law (refine Kd.R_append_step kB (w0 := W3.drew) (W := W3.drew) 0 rfl (.tmp 67) (.tmp 76) 59 66 (.agg (bV zB)) 40 rfl Try.underlying59 infoB rfl (by decide) (by decide) (.slice A l.length c) l ⟨g + 1, ⟨a, port⟩⟩ (bL ⟨g + 1, ⟨a, port⟩⟩) (fun _ => True) (fun k => some k ≠ (Value.slice A l.length c).ownBlock) (by first | (go_simp; done) | (go_simp; rfl)) (by first | (go_simp; done) | (go_simp; rfl)) rfl (fun k h => ⟨trivial, h⟩) (fun _ _ => trivial) (RB_same (w := W3) HR3.out (fun b hb => rfl)) (blw0 _) (Nat.zero_le _) (by have := HG0.out; omega) ?_; intro v1 w4 hR4 hB4 hg4 hat4; obtain ⟨A1, c1, rfl⟩ := Kd.R_slice hR4; have st4 : w4.heap[p]? = some (.cells #[.int .i64 most, .int .i64 (g + 1), (.slice A l.length c)] 61 (0, 0)) := (hg4.block p (lt_of_block HST.out) (fun e => HNE.out e.symm)).trans HST.out; have e2 := cell_of_row _ _ 2 _ _ _ st4; replace e2 : w4.cell? ⟨p, 2, none⟩ = some (.slice A l.length c) := e2; have e1 := cell_of_row _ _ 1 _ _ _ st4; replace e1 : w4.cell? ⟨p, 1, none⟩ = some (.int .i64 (g + 1)) := e1; have e3 : w4.frozen? ⟨p, 2, none⟩ = false := blk_frozen st4 2; have HE := Lib.hid (And.intro hR4 (And.intro hg4 (And.intro hat4 st4))); clear hR4 hB4 hg4 hat4 st4)
    all_goals go_wp2_with fail
    all_goals go_ret3
    all_goals exact bind_end HTO.out HST.out HNE.out HE.out.1 HE.out.2.1 HE.out.2.2.1 HE.out.2.2.2
set_option maxHeartbeats 4000000 in
theorem bind_yes0 (p : Nat) (v : Value) (most g : Int) (l : List Bd) (a : Ad) (port : Int) (w : World) (h : TAt w p v most g l) (hsm : l.length ≤ 1000000) (hg0 : 0 ≤ g) (hg1 : g < 4000000000000000000) (hk : kindA a = 1 ∨ kindA a = 5) (hp0 : port = 0) (hm : (l.length : Int) < most) (hq : freeB l a ≠ 0) :
    Calls Try.prog 9 #[.pointer (some ⟨p, 0, none⟩), .agg (aV a), .int .i64 port] w fun e w' => ∃ v', e = .returned (.tuple #[.int .i64 (g + 1), .int .i64 (freeB l a), .int .i64 0]) ∧ TAt w' p v' most (g + 1) (l ++ [⟨g + 1, ⟨a, freeB l a⟩⟩]) ∧ Touch (p :: v.ownBlock.toList) w w' ∧ (v'.ownBlock = v.ownBlock ∨ ∃ b, v'.ownBlock = some b ∧ w.heap.size ≤ b) := by
  obtain ⟨A, c, rfl, hlc⟩ := RB_len h.row
  have hB0 : Below w.heap.size w (w.alloc (.cells (aV a) 32)) := ((Touch.refl [] w).alloc _).below
  have HB : Hid (BS w (w.alloc (.cells (aV a) 32)) p (.slice A l.length c) most g l a) := Lib.hid ⟨h.below hB0, heap_alloc_new w _, hB0⟩
  have HK : Hid (∀ W', BS w W' p (.slice A l.length c) most g l a → Calls Try.prog 16 #[.agg (aV a)] W' fun e w' => e = .returned (.int .i64 (kindA a)) ∧ BSC w w' p (.slice A l.length c) most g l a) := Lib.hid fun W' hW => hW.call (kind_calls a W')
  have HC : Hid (∀ W', BS w W' p (.slice A l.length c) most g l a → Calls Try.prog 21 #[.pointer (some ⟨p, 0, none⟩), .agg (pV ⟨a, port⟩)] W' fun e w' => e = .returned (.int .i64 (findB l ⟨a, port⟩)) ∧ BSC w w' p (.slice A l.length c) most g l a) := Lib.hid fun W' hW => hW.call (at_calls p _ most g l ⟨a, port⟩ W' hW.t)
  have HF : Hid (∀ W', BS w W' p (.slice A l.length c) most g l a → Calls Try.prog 22 #[.pointer (some ⟨p, 0, none⟩), .agg (aV a)] W' fun e w' => e = .returned (.int .i64 (freeB l a)) ∧ BSC w w' p (.slice A l.length c) most g l a) := Lib.hid fun W' hW => hW.call (free_calls p _ most g l a W' hW.t)
  have HG0 := Lib.hid hsm
  have HP := Lib.hid (lt_of_block h.st)
  clear h hB0 hlc hsm
  generalize kindA a = kd at *
  generalize findB l ⟨a, port⟩ = fb at *
  generalize freeB l a = fr at *
  have k2 : decide (port < 0) = false := by simp; omega
  have k3 : decide (port > 65535) = false := by simp; omega
  have k4 : decide (port > 0) = false := by simp; omega
  have k6 : decide ((l.length : Int) ≥ most) = false := by simp; omega
  have k7 : (port == 0) = true := by simp; omega
  have k8 : (fr == 0) = false := by simpa using hq
  rcases hk with hk | hk
  · have k1 : (kd == 1) = true := by simpa using hk
    go_enter Try.func9, Try.ntmps9
    go_wp2_with (first | (refine gate_ (.load 32 (.tmp 4)) rfl ?_; refine wpList_guarded (by rfl) ?_; go_must (refine ld_A (.tmp 4) rfl rfl (range_A HB.out.x) rfl ?_)) | (go_at_call 16; refine (HK.out _ HB.out).mono ?_; rintro e w1 ⟨rfl, HB, c0, c1, c2, f1⟩) | (go_at_call 21; refine (HC.out _ HB.out).mono ?_; rintro e w1 ⟨rfl, HB, c0, c1, c2, f1⟩) | (go_at_call 22; refine (HF.out _ HB.out).mono ?_; rintro e w1 ⟨rfl, HB, c0, c1, c2, f1⟩))
    go_quiet (fail)
    replace HB := Lib.hid (HB.out.below ((Touch.refl [] w1).drewN nq).below)
    replace c0 := HB.out.cells.1
    replace c1 := HB.out.cells.2.1
    replace c2 := HB.out.cells.2.2.1
    replace f1 := HB.out.cells.2.2.2
    go_wp2_with (first | (refine gate_ (.load 32 (.tmp 4)) rfl ?_; refine wpList_guarded (by rfl) ?_; go_must (refine ld_A (.tmp 4) rfl rfl (range_A HB.out.x) rfl ?_)) | (go_at_call 16; refine (HK.out _ HB.out).mono ?_; rintro e w1 ⟨rfl, HB, c0, c1, c2, f1⟩) | (go_at_call 21; refine (HC.out _ HB.out).mono ?_; rintro e w1 ⟨rfl, HB, c0, c1, c2, f1⟩) | (go_at_call 22; refine (HF.out _ HB.out).mono ?_; rintro e w1 ⟨rfl, HB, c0, c1, c2, f1⟩))
    generalize hW3 : World.setCell _ ⟨p, 1, none⟩ (.int .i64 (g + 1)) = W3
    have hst3 := blk_set HB.out.t.st 1 (.int .i64 (g + 1))
    rw [hW3] at hst3
    have hpB : p ≠ w.heap.size := fun e => by have := HP.out; omega
    have hR3 : RB W3 0 (.slice A l.length c) l := RB_same HB.out.t.row fun b hb => by
      rw [← hW3]
      exact Below.heap_setCell _ _ _ _ (fun e => HB.out.t.ne (by rw [hb]; exact congrArg some e))
    have hX3 : W3.heap[w.heap.size]? = some (.cells (aV a) 32 (0, 0)) := by
      rw [← hW3]
      exact (Below.heap_setCell _ _ _ _ (fun e => hpB e.symm)).trans HB.out.x
    have hTo : Touch (p :: (Value.slice A l.length c).ownBlock.toList) w W3 := by
      rw [← hW3]
      exact (Touch.of_below HB.out.b).setCell (p := ⟨p, 1, none⟩) (.inl List.mem_cons_self) _
    have hrg : W3.rangeAt w.heap.size 0 (aL a) := range_A hX3
    have d1 : W3.cell? ⟨p, 1, none⟩ = some (.int .i64 (g + 1)) := cell_of_row _ _ 1 _ _ _ hst3
    have d2 : W3.cell? ⟨p, 2, none⟩ = some (.slice A l.length c) := cell_of_row _ _ 2 _ _ _ hst3
    have d3 : (W3.alloc (.cells (bV ⟨g + 1, ⟨a, fr⟩⟩) 66)).cell? ⟨p, 2, none⟩ = some (.slice A l.length c) := cell_of_row _ _ 2 _ _ _ ((heap_alloc_old W3 _ (lt_of_block hst3)).trans hst3)
    have HST := Lib.hid hst3
    have HR3 := Lib.hid hR3
    have HTO := Lib.hid hTo
    have HNE := Lib.hid HB.out.t.ne
    have hLD : ∀ W : World, W.rangeAt w.heap.size 0 (aL a) → (loadVar 32 ⟨w.heap.size, 0, none⟩).run Try.prog W = .ok (.agg (aV a)) W := fun W h => lvA h
    clear hst3 hpB hR3 hX3 hTo hW3 HB c0 c1 c2 f1
    go_region_law (refine Kd.R_append_step kB (w0 := W3.drew) (W := W3.drew) 0 rfl (.tmp 67) (.tmp 76) 59 66 (.agg (bV zB)) 40 rfl Try.underlying59 infoB rfl (by decide) (by decide) (.slice A l.length c) l ⟨g + 1, ⟨a, fr⟩⟩ (bL ⟨g + 1, ⟨a, fr⟩⟩) (fun _ => True) (fun k => some k ≠ (Value.slice A l.length c).ownBlock) (by first | (go_simp; done) | (go_simp; rfl)) (by first | (go_simp; done) | (go_simp; rfl)) rfl (fun k h => ⟨trivial, h⟩) (fun _ _ => trivial) (RB_same (w := W3) HR3.out (fun b hb => rfl)) (blw0 _) (Nat.zero_le _) (by have := HG0.out; omega) ?_; intro v1 w4 hR4 hB4 hg4 hat4; obtain ⟨A1, c1, rfl⟩ := Kd.R_slice hR4; have st4 : w4.heap[p]? = some (.cells #[.int .i64 most, .int .i64 (g + 1), (.slice A l.length c)] 61 (0, 0)) := (hg4.block p (lt_of_block HST.out) (fun e => HNE.out e.symm)).trans HST.out; have e2 := cell_of_row _ _ 2 _ _ _ st4; replace e2 : w4.cell? ⟨p, 2, none⟩ = some (.slice A l.length c) := e2; have e1 := cell_of_row _ _ 1 _ _ _ st4; replace e1 : w4.cell? ⟨p, 1, none⟩ = some (.int .i64 (g + 1)) := e1; have e3 : w4.frozen? ⟨p, 2, none⟩ = false := blk_frozen st4 2; have HE := Lib.hid (And.intro hR4 (And.intro hg4 (And.intro hat4 st4))); clear hR4 hB4 hg4 hat4 st4)
    all_goals go_wp2_with fail
    all_goals go_ret3
    all_goals exact bind_end HTO.out HST.out HNE.out HE.out.1 HE.out.2.1 HE.out.2.2.1 HE.out.2.2.2
  · have k1 : (kd == 1) = false := by simp; omega
    have k0 : (kd == 5) = true := by simpa using hk
    go_enter Try.func9, Try.ntmps9
    go_wp2_with (first | (refine gate_ (.load 32 (.tmp 4)) rfl ?_; refine wpList_guarded (by rfl) ?_; go_must (refine ld_A (.tmp 4) rfl rfl (range_A HB.out.x) rfl ?_)) | (go_at_call 16; refine (HK.out _ HB.out).mono ?_; rintro e w1 ⟨rfl, HB, c0, c1, c2, f1⟩) | (go_at_call 21; refine (HC.out _ HB.out).mono ?_; rintro e w1 ⟨rfl, HB, c0, c1, c2, f1⟩) | (go_at_call 22; refine (HF.out _ HB.out).mono ?_; rintro e w1 ⟨rfl, HB, c0, c1, c2, f1⟩))
    go_quiet (fail)
    replace HB := Lib.hid (HB.out.below ((Touch.refl [] w1).drewN nq).below)
    replace c0 := HB.out.cells.1
    replace c1 := HB.out.cells.2.1
    replace c2 := HB.out.cells.2.2.1
    replace f1 := HB.out.cells.2.2.2
    go_wp2_with (first | (refine gate_ (.load 32 (.tmp 4)) rfl ?_; refine wpList_guarded (by rfl) ?_; go_must (refine ld_A (.tmp 4) rfl rfl (range_A HB.out.x) rfl ?_)) | (go_at_call 16; refine (HK.out _ HB.out).mono ?_; rintro e w1 ⟨rfl, HB, c0, c1, c2, f1⟩) | (go_at_call 21; refine (HC.out _ HB.out).mono ?_; rintro e w1 ⟨rfl, HB, c0, c1, c2, f1⟩) | (go_at_call 22; refine (HF.out _ HB.out).mono ?_; rintro e w1 ⟨rfl, HB, c0, c1, c2, f1⟩))
    generalize hW3 : World.setCell _ ⟨p, 1, none⟩ (.int .i64 (g + 1)) = W3
    have hst3 := blk_set HB.out.t.st 1 (.int .i64 (g + 1))
    rw [hW3] at hst3
    have hpB : p ≠ w.heap.size := fun e => by have := HP.out; omega
    have hR3 : RB W3 0 (.slice A l.length c) l := RB_same HB.out.t.row fun b hb => by
      rw [← hW3]
      exact Below.heap_setCell _ _ _ _ (fun e => HB.out.t.ne (by rw [hb]; exact congrArg some e))
    have hX3 : W3.heap[w.heap.size]? = some (.cells (aV a) 32 (0, 0)) := by
      rw [← hW3]
      exact (Below.heap_setCell _ _ _ _ (fun e => hpB e.symm)).trans HB.out.x
    have hTo : Touch (p :: (Value.slice A l.length c).ownBlock.toList) w W3 := by
      rw [← hW3]
      exact (Touch.of_below HB.out.b).setCell (p := ⟨p, 1, none⟩) (.inl List.mem_cons_self) _
    have hrg : W3.rangeAt w.heap.size 0 (aL a) := range_A hX3
    have d1 : W3.cell? ⟨p, 1, none⟩ = some (.int .i64 (g + 1)) := cell_of_row _ _ 1 _ _ _ hst3
    have d2 : W3.cell? ⟨p, 2, none⟩ = some (.slice A l.length c) := cell_of_row _ _ 2 _ _ _ hst3
    have d3 : (W3.alloc (.cells (bV ⟨g + 1, ⟨a, fr⟩⟩) 66)).cell? ⟨p, 2, none⟩ = some (.slice A l.length c) := cell_of_row _ _ 2 _ _ _ ((heap_alloc_old W3 _ (lt_of_block hst3)).trans hst3)
    have HST := Lib.hid hst3
    have HR3 := Lib.hid hR3
    have HTO := Lib.hid hTo
    have HNE := Lib.hid HB.out.t.ne
    have hLD : ∀ W : World, W.rangeAt w.heap.size 0 (aL a) → (loadVar 32 ⟨w.heap.size, 0, none⟩).run Try.prog W = .ok (.agg (aV a)) W := fun W h => lvA h
    clear hst3 hpB hR3 hX3 hTo hW3 HB c0 c1 c2 f1
    go_region_law (refine Kd.R_append_step kB (w0 := W3.drew) (W := W3.drew) 0 rfl (.tmp 67) (.tmp 76) 59 66 (.agg (bV zB)) 40 rfl Try.underlying59 infoB rfl (by decide) (by decide) (.slice A l.length c) l ⟨g + 1, ⟨a, fr⟩⟩ (bL ⟨g + 1, ⟨a, fr⟩⟩) (fun _ => True) (fun k => some k ≠ (Value.slice A l.length c).ownBlock) (by first | (go_simp; done) | (go_simp; rfl)) (by first | (go_simp; done) | (go_simp; rfl)) rfl (fun k h => ⟨trivial, h⟩) (fun _ _ => trivial) (RB_same (w := W3) HR3.out (fun b hb => rfl)) (blw0 _) (Nat.zero_le _) (by have := HG0.out; omega) ?_; intro v1 w4 hR4 hB4 hg4 hat4; obtain ⟨A1, c1, rfl⟩ := Kd.R_slice hR4; have st4 : w4.heap[p]? = some (.cells #[.int .i64 most, .int .i64 (g + 1), (.slice A l.length c)] 61 (0, 0)) := (hg4.block p (lt_of_block HST.out) (fun e => HNE.out e.symm)).trans HST.out; have e2 := cell_of_row _ _ 2 _ _ _ st4; replace e2 : w4.cell? ⟨p, 2, none⟩ = some (.slice A l.length c) := e2; have e1 := cell_of_row _ _ 1 _ _ _ st4; replace e1 : w4.cell? ⟨p, 1, none⟩ = some (.int .i64 (g + 1)) := e1; have e3 : w4.frozen? ⟨p, 2, none⟩ = false := blk_frozen st4 2; have HE := Lib.hid (And.intro hR4 (And.intro hg4 (And.intro hat4 st4))); clear hR4 hB4 hg4 hat4 st4)
    all_goals go_wp2_with fail
    all_goals go_ret3
    all_goals exact bind_end HTO.out HST.out HNE.out HE.out.1 HE.out.2.1 HE.out.2.2.1 HE.out.2.2.2
end Go.Proofs.Ytgcafklieblldaa.SL
