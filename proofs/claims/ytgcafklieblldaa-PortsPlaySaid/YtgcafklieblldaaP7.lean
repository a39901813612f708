/- The walk of the document's Bind. No condition but sizes and that bytes are bytes. -/
import Derived.Test.YtgcafklieblldaaP6
namespace Go.Proofs.Ytgcafklieblldaa.SL
open Go.RowKit Go.Proofs.YtgcafklieblldaaW.PrintWords Go.Proofs.YtgcafklieblldaaW.PrintLast Go.Proofs.YtgcafklieblldaaW.PrintMore
theorem fill_S (x : Bd) : Instr.fill (fun i => some (i * 19, 19)) ((Array.range (1 * 19)).map ((bV zB)[· % (bV zB).size]!)) [(0, .agg (bV x))] = some (bV x) := fill_B x
theorem built_sk (n : Int) (a : Ad) (port : Int) : Try.prog.built 80 [(0, .int .i64 n), (1, .agg (aV a)), (2, .int .i64 port)] = some (bV ⟨n, ⟨a, port⟩⟩) := by
  obtain ⟨v, b, hb⟩ := a
  obtain ⟨b0, b1, b2, b3, b4, b5, b6, b7, b8, b9, b10, b11, b12, b13, b14, b15, rfl⟩ := list16 b hb
  kernel_rfl
theorem bld_sk (w : World) (n : Int) (a : Ad) (port : Int) : (Instr.build 80 #[(0, .int .i64 n), (1, .agg (aV a)), (2, .int .i64 port)]).run Try.prog w = .ok (.agg (bV ⟨n, ⟨a, port⟩⟩)) w := run_build w _ _ _ (built_sk n a port)
theorem zero_S (w : World) : (zeroValue 80).run Try.prog w = .ok (.agg (bV zB)) w := by
  obtain ⟨i, h1, h2⟩ := Option.map_eq_some_iff.1 infoS
  have h3 : i.zero = some (.agg (bV zB)) := by injection h2
  simp [zeroValue, typeInfo, h1, h3]
theorem bls_S (w : World) (x : Bd) : (Instr.buildSlice 69 1 #[(0, .agg (bV x))]).run Try.prog w = .ok (.slice (some ⟨w.heap.size, 0, none⟩) 1 1) (w.alloc (.cells (bV x) 80)) := by
  obtain ⟨i, hi, hs⟩ := infS
  replace hs : i.size = 19 := hs
  have h := fill_S x
  have hz := zero_S w
  have hzs := bV_size zB
  generalize bV zB = Z at h hz hzs
  rw [hzs] at h
  simp only [Nat.one_mul] at h
  simp only [Instr.buildSlice, Sem.run_bind, run_underlying Try.underlying69, Result.andThen_ok, show (sizeOf 80).run Try.prog w = .ok 19 w by simp [sizeOf, typeInfo, hi, hs], Nat.one_mul, if_neg (show ¬ 19 > 2 ^ 24 by decide), if_neg (show ¬ 19 = 0 by decide), hz, Sem.run_pure, Value.cells, hzs, h]
  simp [newRow]
/-- Between Bind's calls. -/
structure US (w W' : World) (p : Nat) (v : Value) (most g : Int) (l : List Bd) (a : Ad) : Prop where
  t : UAt W' p v most g l
  x : W'.heap[w.heap.size]? = some (.cells (aV a) 32 (0, 0))
  b : Below w.heap.size w W'
theorem US.below {w W1 W2 : World} {p : Nat} {v : Value} {most g : Int} {l : List Bd} {a : Ad} (h : US w W1 p v most g l a) (hb : Below W1.heap.size W1 W2) : US w W2 p v most g l a :=
  ⟨h.t.below hb, (hb.block _ (lt_of_block h.x)).trans h.x, h.b.trans (hb.mono h.b.size)⟩
theorem US.cells {w W1 : World} {p : Nat} {v : Value} {most g : Int} {l : List Bd} {a : Ad} (h : US w W1 p v most g l a) : W1.cell? ⟨p, 0, none⟩ = some (.int .i64 most) ∧ W1.cell? ⟨p, 1, none⟩ = some (.int .i64 g) ∧ W1.cell? ⟨p, 2, none⟩ = some v ∧ W1.frozen? ⟨p, 1, none⟩ = false :=
  ⟨cell_of_row _ _ 0 _ _ _ h.t.st, cell_of_row _ _ 1 _ _ _ h.t.st, cell_of_row _ _ 2 _ _ _ h.t.st, blk_frozen h.t.st 1⟩
abbrev USC (w W1 : World) (p : Nat) (v : Value) (most g : Int) (l : List Bd) (a : Ad) : Prop := Hid (US w W1 p v most g l a) ∧ W1.cell? ⟨p, 0, none⟩ = some (.int .i64 most) ∧ W1.cell? ⟨p, 1, none⟩ = some (.int .i64 g) ∧ W1.cell? ⟨p, 2, none⟩ = some v ∧ W1.frozen? ⟨p, 1, none⟩ = false
theorem US.call {w W1 : World} {p : Nat} {v : Value} {most g : Int} {l : List Bd} {a : Ad} (h : US w W1 p v most g l a) {f : FuncId} {args : Array Value} {r : Value} (hc : Calls Try.prog f args W1 fun e w' => e = .returned r ∧ Below W1.heap.size W1 w') :
    Calls Try.prog f args W1 fun e w' => e = .returned r ∧ USC w w' p v most g l a := hc.mono fun _ _ ⟨he, hb⟩ => ⟨he, Lib.hid (h.below hb), (h.below hb).cells⟩
attribute [-go_sem] loadVar Instr.build Instr.buildSlice
attribute [local go_sem] lv3 lv69 bld_sk bls_S
set_option maxHeartbeats 4000000 in
theorem bindR_kind (p : Nat) (v : Value) (most g : Int) (l : List Bd) (a : Ad) (port : Int) (w : World) (h : UAt w p v most g l) (hsm : (l.length : Int) ≤ 1000) (hok : bOk a.b) (hk : ¬ (kindA a = 1 ∨ kindA a = 5)) :
    Calls Try.prog 25 #[.pointer (some ⟨p, 0, none⟩), .agg (aV a), .int .i64 port] w fun e w' => e = .returned (.tuple #[.int .i64 0, .int .i64 0, .int .i64 1]) ∧ Below w.heap.size w w' := by
  obtain ⟨A, c, rfl, hlc⟩ := RS_len h.row
  have hB0 : Below w.heap.size w (w.alloc (.cells (aV a) 32)) := ((Touch.refl [] w).alloc _).below
  have HB : Hid (US w (w.alloc (.cells (aV a) 32)) p (.slice A l.length c) most g l a) := Lib.hid ⟨h.below hB0, heap_alloc_new w _, hB0⟩
  have HK : Hid (∀ W', US w W' p (.slice A l.length c) most g l a → Calls Try.prog 33 #[.agg (aV a)] W' fun e w' => e = .returned (.int .i64 (kindA a)) ∧ USC w w' p (.slice A l.length c) most g l a) := Lib.hid fun W' hW => hW.call (kindR_calls a hok W')
  have HC : Hid (∀ W', US w W' p (.slice A l.length c) most g l a → Calls Try.prog 34 #[.pointer (some ⟨p, 0, none⟩), .agg (aV a), .int .i64 port] W' fun e w' => e = .returned (.int .i64 (jx l ⟨a, port⟩)) ∧ USC w w' p (.slice A l.length c) most g l a) := Lib.hid fun W' hW => hW.call (just_calls p _ most g l a port W' hW.t hsm)
  have HG0 := Lib.hid hsm
  have HP := Lib.hid (lt_of_block h.st)
  have hlen := hsm
  clear h hB0 hlc hsm hok
  generalize kindA a = kd at *
  generalize jx l ⟨a, port⟩ = fb at *
  have k1 : (kd == 1) = false := by simp; omega
  have k0 : (kd == 5) = false := by simp; omega
  go_enter Try.func25, Try.ntmps25
  go_wp2_with (first | (refine gate_ (.load 32 (.tmp 4)) rfl ?_; refine wpList_guarded (by rfl) ?_; go_must (refine ld_A (.tmp 4) rfl rfl (range_A HB.out.x) rfl ?_)) | (go_at_call 33; refine (HK.out _ HB.out).mono ?_; rintro e w1 ⟨rfl, HB, c0, c1, c2, f1⟩) | (go_at_call 34; refine (HC.out _ HB.out).mono ?_; rintro e w1 ⟨rfl, HB, c0, c1, c2, f1⟩))
  go_ret3
  exact ⟨by simp, HB.out.b⟩
set_option maxHeartbeats 4000000 in
theorem bindR_neg (p : Nat) (v : Value) (most g : Int) (l : List Bd) (a : Ad) (port : Int) (w : World) (h : UAt w p v most g l) (hsm : (l.length : Int) ≤ 1000) (hok : bOk a.b) (hk : kindA a = 1 ∨ kindA a = 5) (hp : port < 0) :
    Calls Try.prog 25 #[.pointer (some ⟨p, 0, none⟩), .agg (aV a), .int .i64 port] w fun e w' => e = .returned (.tuple #[.int .i64 0, .int .i64 0, .int .i64 1]) ∧ Below w.heap.size w w' := by
  obtain ⟨A, c, rfl, hlc⟩ := RS_len h.row
  have hB0 : Below w.heap.size w (w.alloc (.cells (aV a) 32)) := ((Touch.refl [] w).alloc _).below
  have HB : Hid (US w (w.alloc (.cells (aV a) 32)) p (.slice A l.length c) most g l a) := Lib.hid ⟨h.below hB0, heap_alloc_new w _, hB0⟩
  have HK : Hid (∀ W', US w W' p (.slice A l.length c) most g l a → Calls Try.prog 33 #[.agg (aV a)] W' fun e w' => e = .returned (.int .i64 (kindA a)) ∧ USC w w' p (.slice A l.length c) most g l a) := Lib.hid fun W' hW => hW.call (kindR_calls a hok W')
  have HC : Hid (∀ W', US w W' p (.slice A l.length c) most g l a → Calls Try.prog 34 #[.pointer (some ⟨p, 0, none⟩), .agg (aV a), .int .i64 port] W' fun e w' => e = .returned (.int .i64 (jx l ⟨a, port⟩)) ∧ USC w w' p (.slice A l.length c) most g l a) := Lib.hid fun W' hW => hW.call (just_calls p _ most g l a port W' hW.t hsm)
  have HG0 := Lib.hid hsm
  have HP := Lib.hid (lt_of_block h.st)
  have hlen := hsm
  clear h hB0 hlc hsm hok
  generalize kindA a = kd at *
  generalize jx l ⟨a, port⟩ = fb at *
  have k2 : decide (port < 0) = true := by simp; omega
  rcases hk with hk | hk
  · have k1 : (kd == 1) = true := by simpa using hk
    go_enter Try.func25, Try.ntmps25
    go_wp2_with (first | (refine gate_ (.load 32 (.tmp 4)) rfl ?_; refine wpList_guarded (by rfl) ?_; go_must (refine ld_A (.tmp 4) rfl rfl (range_A HB.out.x) rfl ?_)) | (go_at_call 33; refine (HK.out _ HB.out).mono ?_; rintro e w1 ⟨rfl, HB, c0, c1, c2, f1⟩) | (go_at_call 34; refine (HC.out _ HB.out).mono ?_; rintro e w1 ⟨rfl, HB, c0, c1, c2, f1⟩))
    go_ret3
    exact ⟨by simp, HB.out.b⟩
  · have k1 : (kd == 1) = false := by simp; omega
    have k0 : (kd == 5) = true := by simpa using hk
    go_enter Try.func25, Try.ntmps25
    go_wp2_with (first | (refine gate_ (.load 32 (.tmp 4)) rfl ?_; refine wpList_guarded (by rfl) ?_; go_must (refine ld_A (.tmp 4) rfl rfl (range_A HB.out.x) rfl ?_)) | (go_at_call 33; refine (HK.out _ HB.out).mono ?_; rintro e w1 ⟨rfl, HB, c0, c1, c2, f1⟩) | (go_at_call 34; refine (HC.out _ HB.out).mono ?_; rintro e w1 ⟨rfl, HB, c0, c1, c2, f1⟩))
    go_ret3
    exact ⟨by simp, HB.out.b⟩
set_option maxHeartbeats 4000000 in
theorem bindR_big (p : Nat) (v : Value) (most g : Int) (l : List Bd) (a : Ad) (port : Int) (w : World) (h : UAt w p v most g l) (hsm : (l.length : Int) ≤ 1000) (hok : bOk a.b) (hk : kindA a = 1 ∨ kindA a = 5) (hp : 65535 < port) :
    Calls Try.prog 25 #[.pointer (some ⟨p, 0, none⟩), .agg (aV a), .int .i64 port] w fun e w' => e = .returned (.tuple #[.int .i64 0, .int .i64 0, .int .i64 1]) ∧ Below w.heap.size w w' := by
  obtain ⟨A, c, rfl, hlc⟩ := RS_len h.row
  have hB0 : Below w.heap.size w (w.alloc (.cells (aV a) 32)) := ((Touch.refl [] w).alloc _).below
  have HB : Hid (US w (w.alloc (.cells (aV a) 32)) p (.slice A l.length c) most g l a) := Lib.hid ⟨h.below hB0, heap_alloc_new w _, hB0⟩
  have HK : Hid (∀ W', US w W' p (.slice A l.length c) most g l a → Calls Try.prog 33 #[.agg (aV a)] W' fun e w' => e = .returned (.int .i64 (kindA a)) ∧ USC w w' p (.slice A l.length c) most g l a) := Lib.hid fun W' hW => hW.call (kindR_calls a hok W')
  have HC : Hid (∀ W', US w W' p (.slice A l.length c) most g l a → Calls Try.prog 34 #[.pointer (some ⟨p, 0, none⟩), .agg (aV a), .int .i64 port] W' fun e w' => e = .returned (.int .i64 (jx l ⟨a, port⟩)) ∧ USC w w' p (.slice A l.length c) most g l a) := Lib.hid fun W' hW => hW.call (just_calls p _ most g l a port W' hW.t hsm)
  have HG0 := Lib.hid hsm
  have HP := Lib.hid (lt_of_block h.st)
  have hlen := hsm
  clear h hB0 hlc hsm hok
  generalize kindA a = kd at *
  generalize jx l ⟨a, port⟩ = fb at *
  have k2 : decide (port < 0) = false := by simp; omega
  have k3 : decide (port > 65535) = true := by simp; omega
  rcases hk with hk | hk
  · have k1 : (kd == 1) = true := by simpa using hk
    go_enter Try.func25, Try.ntmps25
    go_wp2_with (first | (refine gate_ (.load 32 (.tmp 4)) rfl ?_; refine wpList_guarded (by rfl) ?_; go_must (refine ld_A (.tmp 4) rfl rfl (range_A HB.out.x) rfl ?_)) | (go_at_call 33; refine (HK.out _ HB.out).mono ?_; rintro e w1 ⟨rfl, HB, c0, c1, c2, f1⟩) | (go_at_call 34; refine (HC.out _ HB.out).mono ?_; rintro e w1 ⟨rfl, HB, c0, c1, c2, f1⟩))
    go_ret3
    exact ⟨by simp, HB.out.b⟩
  · have k1 : (kd == 1) = false := by simp; omega
    have k0 : (kd == 5) = true := by simpa using hk
    go_enter Try.func25, Try.ntmps25
    go_wp2_with (first | (refine gate_ (.load 32 (.tmp 4)) rfl ?_; refine wpList_guarded (by rfl) ?_; go_must (refine ld_A (.tmp 4) rfl rfl (range_A HB.out.x) rfl ?_)) | (go_at_call 33; refine (HK.out _ HB.out).mono ?_; rintro e w1 ⟨rfl, HB, c0, c1, c2, f1⟩) | (go_at_call 34; refine (HC.out _ HB.out).mono ?_; rintro e w1 ⟨rfl, HB, c0, c1, c2, f1⟩))
    go_ret3
    exact ⟨by simp, HB.out.b⟩
set_option maxHeartbeats 4000000 in
theorem bindR_use (p : Nat) (v : Value) (most g : Int) (l : List Bd) (a : Ad) (port : Int) (w : World) (h : UAt w p v most g l) (hsm : (l.length : Int) ≤ 1000) (hok : bOk a.b) (hk : kindA a = 1 ∨ kindA a = 5) (hp0 : 0 < port) (hp1 : port ≤ 65535) (hf : 0 ≤ jx l ⟨a, port⟩) :
    Calls Try.prog 25 #[.pointer (some ⟨p, 0, none⟩), .agg (aV a), .int .i64 port] w fun e w' => e = .returned (.tuple #[.int .i64 0, .int .i64 0, .int .i64 200]) ∧ Below w.heap.size w w' := by
  obtain ⟨A, c, rfl, hlc⟩ := RS_len h.row
  have hB0 : Below w.heap.size w (w.alloc (.cells (aV a) 32)) := ((Touch.refl [] w).alloc _).below
  have HB : Hid (US w (w.alloc (.cells (aV a) 32)) p (.slice A l.length c) most g l a) := Lib.hid ⟨h.below hB0, heap_alloc_new w _, hB0⟩
  have HK : Hid (∀ W', US w W' p (.slice A l.length c) most g l a → Calls Try.prog 33 #[.agg (aV a)] W' fun e w' => e = .returned (.int .i64 (kindA a)) ∧ USC w w' p (.slice A l.length c) most g l a) := Lib.hid fun W' hW => hW.call (kindR_calls a hok W')
  have HC : Hid (∀ W', US w W' p (.slice A l.length c) most g l a → Calls Try.prog 34 #[.pointer (some ⟨p, 0, none⟩), .agg (aV a), .int .i64 port] W' fun e w' => e = .returned (.int .i64 (jx l ⟨a, port⟩)) ∧ USC w w' p (.slice A l.length c) most g l a) := Lib.hid fun W' hW => hW.call (just_calls p _ most g l a port W' hW.t hsm)
  have HG0 := Lib.hid hsm
  have HP := Lib.hid (lt_of_block h.st)
  have hlen := hsm
  clear h hB0 hlc hsm hok
  generalize kindA a = kd at *
  generalize jx l ⟨a, port⟩ = fb at *
  have k2 : decide (port < 0) = false := by simp; omega
  have k3 : decide (port > 65535) = false := by simp; omega
  have k4 : decide (port > 0) = true := by simp; omega
  have k5 : decide (fb ≥ 0) = true := by simp; omega
  rcases hk with hk | hk
  · have k1 : (kd == 1) = true := by simpa using hk
    go_enter Try.func25, Try.ntmps25
    go_wp2_with (first | (refine gate_ (.load 32 (.tmp 4)) rfl ?_; refine wpList_guarded (by rfl) ?_; go_must (refine ld_A (.tmp 4) rfl rfl (range_A HB.out.x) rfl ?_)) | (go_at_call 33; refine (HK.out _ HB.out).mono ?_; rintro e w1 ⟨rfl, HB, c0, c1, c2, f1⟩) | (go_at_call 34; refine (HC.out _ HB.out).mono ?_; rintro e w1 ⟨rfl, HB, c0, c1, c2, f1⟩))
    go_ret3
    exact ⟨by simp, HB.out.b⟩
  · have k1 : (kd == 1) = false := by simp; omega
    have k0 : (kd == 5) = true := by simpa using hk
    go_enter Try.func25, Try.ntmps25
    go_wp2_with (first | (refine gate_ (.load 32 (.tmp 4)) rfl ?_; refine wpList_guarded (by rfl) ?_; go_must (refine ld_A (.tmp 4) rfl rfl (range_A HB.out.x) rfl ?_)) | (go_at_call 33; refine (HK.out _ HB.out).mono ?_; rintro e w1 ⟨rfl, HB, c0, c1, c2, f1⟩) | (go_at_call 34; refine (HC.out _ HB.out).mono ?_; rintro e w1 ⟨rfl, HB, c0, c1, c2, f1⟩))
    go_ret3
    exact ⟨by simp, HB.out.b⟩
set_option maxHeartbeats 4000000 in
theorem bindR_full (p : Nat) (v : Value) (most g : Int) (l : List Bd) (a : Ad) (port : Int) (w : World) (h : UAt w p v most g l) (hsm : (l.length : Int) ≤ 1000) (hok : bOk a.b) (hk : kindA a = 1 ∨ kindA a = 5) (hp0 : 0 < port) (hp1 : port ≤ 65535) (hf : ¬ 0 ≤ jx l ⟨a, port⟩) (hm : most ≤ (l.length : Int)) :
    Calls Try.prog 25 #[.pointer (some ⟨p, 0, none⟩), .agg (aV a), .int .i64 port] w fun e w' => e = .returned (.tuple #[.int .i64 0, .int .i64 0, .int .i64 201]) ∧ Below w.heap.size w w' := by
  obtain ⟨A, c, rfl, hlc⟩ := RS_len h.row
  have hB0 : Below w.heap.size w (w.alloc (.cells (aV a) 32)) := ((Touch.refl [] w).alloc _).below
  have HB : Hid (US w (w.alloc (.cells (aV a) 32)) p (.slice A l.length c) most g l a) := Lib.hid ⟨h.below hB0, heap_alloc_new w _, hB0⟩
  have HK : Hid (∀ W', US w W' p (.slice A l.length c) most g l a → Calls Try.prog 33 #[.agg (aV a)] W' fun e w' => e = .returned (.int .i64 (kindA a)) ∧ USC w w' p (.slice A l.length c) most g l a) := Lib.hid fun W' hW => hW.call (kindR_calls a hok W')
  have HC : Hid (∀ W', US w W' p (.slice A l.length c) most g l a → Calls Try.prog 34 #[.pointer (some ⟨p, 0, none⟩), .agg (aV a), .int .i64 port] W' fun e w' => e = .returned (.int .i64 (jx l ⟨a, port⟩)) ∧ USC w w' p (.slice A l.length c) most g l a) := Lib.hid fun W' hW => hW.call (just_calls p _ most g l a port W' hW.t hsm)
  have HG0 := Lib.hid hsm
  have HP := Lib.hid (lt_of_block h.st)
  have hlen := hsm
  clear h hB0 hlc hsm hok
  generalize kindA a = kd at *
  generalize jx l ⟨a, port⟩ = fb at *
  have k2 : decide (port < 0) = false := by simp; omega
  have k3 : decide (port > 65535) = false := by simp; omega
  have k4 : decide (port > 0) = true := by simp; omega
  have k5 : decide (fb ≥ 0) = false := by simp; omega
  have k6 : decide ((l.length : Int) ≥ most) = true := by simp; omega
  rcases hk with hk | hk
  · have k1 : (kd == 1) = true := by simpa using hk
    go_enter Try.func25, Try.ntmps25
    go_wp2_with (first | (refine gate_ (.load 32 (.tmp 4)) rfl ?_; refine wpList_guarded (by rfl) ?_; go_must (refine ld_A (.tmp 4) rfl rfl (range_A HB.out.x) rfl ?_)) | (go_at_call 33; refine (HK.out _ HB.out).mono ?_; rintro e w1 ⟨rfl, HB, c0, c1, c2, f1⟩) | (go_at_call 34; refine (HC.out _ HB.out).mono ?_; rintro e w1 ⟨rfl, HB, c0, c1, c2, f1⟩))
    go_quiet (fail)
    replace HB := Lib.hid (HB.out.below ((Touch.refl [] w1).drewN nq).below)
    go_wp2_with fail
    go_ret3
    exact ⟨by simp, HB.out.b⟩
  · have k1 : (kd == 1) = false := by simp; omega
    have k0 : (kd == 5) = true := by simpa using hk
    go_enter Try.func25, Try.ntmps25
    go_wp2_with (first | (refine gate_ (.load 32 (.tmp 4)) rfl ?_; refine wpList_guarded (by rfl) ?_; go_must (refine ld_A (.tmp 4) rfl rfl (range_A HB.out.x) rfl ?_)) | (go_at_call 33; refine (HK.out _ HB.out).mono ?_; rintro e w1 ⟨rfl, HB, c0, c1, c2, f1⟩) | (go_at_call 34; refine (HC.out _ HB.out).mono ?_; rintro e w1 ⟨rfl, HB, c0, c1, c2, f1⟩))
    go_quiet (fail)
    replace HB := Lib.hid (HB.out.below ((Touch.refl [] w1).drewN nq).below)
    go_wp2_with fail
    go_ret3
    exact ⟨by simp, HB.out.b⟩
set_option maxHeartbeats 4000000 in
theorem bindR_full0 (p : Nat) (v : Value) (most g : Int) (l : List Bd) (a : Ad) (port : Int) (w : World) (h : UAt w p v most g l) (hsm : (l.length : Int) ≤ 1000) (hok : bOk a.b) (hk : kindA a = 1 ∨ kindA a = 5) (hp0 : port = 0) (hm : most ≤ (l.length : Int)) :
    Calls Try.prog 25 #[.pointer (some ⟨p, 0, none⟩), .agg (aV a), .int .i64 port] w fun e w' => e = .returned (.tuple #[.int .i64 0, .int .i64 0, .int .i64 201]) ∧ Below w.heap.size w w' := by
  obtain ⟨A, c, rfl, hlc⟩ := RS_len h.row
  have hB0 : Below w.heap.size w (w.alloc (.cells (aV a) 32)) := ((Touch.refl [] w).alloc _).below
  have HB : Hid (US w (w.alloc (.cells (aV a) 32)) p (.slice A l.length c) most g l a) := Lib.hid ⟨h.below hB0, heap_alloc_new w _, hB0⟩
  have HK : Hid (∀ W', US w W' p (.slice A l.length c) most g l a → Calls Try.prog 33 #[.agg (aV a)] W' fun e w' => e = .returned (.int .i64 (kindA a)) ∧ USC w w' p (.slice A l.length c) most g l a) := Lib.hid fun W' hW => hW.call (kindR_calls a hok W')
  have HC : Hid (∀ W', US w W' p (.slice A l.length c) most g l a → Calls Try.prog 34 #[.pointer (some ⟨p, 0, none⟩), .agg (aV a), .int .i64 port] W' fun e w' => e = .returned (.int .i64 (jx l ⟨a, port⟩)) ∧ USC w w' p (.slice A l.length c) most g l a) := Lib.hid fun W' hW => hW.call (just_calls p _ most g l a port W' hW.t hsm)
  have HG0 := Lib.hid hsm
  have HP := Lib.hid (lt_of_block h.st)
  have hlen := hsm
  clear h hB0 hlc hsm hok
  generalize kindA a = kd at *
  generalize jx l ⟨a, port⟩ = fb at *
  have k2 : decide (port < 0) = false := by simp; omega
  have k3 : decide (port > 65535) = false := by simp; omega
  have k4 : decide (port > 0) = false := by simp; omega
  have k6 : decide ((l.length : Int) ≥ most) = true := by simp; omega
  rcases hk with hk | hk
  · have k1 : (kd == 1) = true := by simpa using hk
    go_enter Try.func25, Try.ntmps25
    go_wp2_with (first | (refine gate_ (.load 32 (.tmp 4)) rfl ?_; refine wpList_guarded (by rfl) ?_; go_must (refine ld_A (.tmp 4) rfl rfl (range_A HB.out.x) rfl ?_)) | (go_at_call 33; refine (HK.out _ HB.out).mono ?_; rintro e w1 ⟨rfl, HB, c0, c1, c2, f1⟩) | (go_at_call 34; refine (HC.out _ HB.out).mono ?_; rintro e w1 ⟨rfl, HB, c0, c1, c2, f1⟩))
    go_quiet (fail)
    replace HB := Lib.hid (HB.out.below ((Touch.refl [] w1).drewN nq).below)
    go_wp2_with fail
    go_ret3
    exact ⟨by simp, HB.out.b⟩
  · have k1 : (kd == 1) = false := by simp; omega
    have k0 : (kd == 5) = true := by simpa using hk
    go_enter Try.func25, Try.ntmps25
    go_wp2_with (first | (refine gate_ (.load 32 (.tmp 4)) rfl ?_; refine wpList_guarded (by rfl) ?_; go_must (refine ld_A (.tmp 4) rfl rfl (range_A HB.out.x) rfl ?_)) | (go_at_call 33; refine (HK.out _ HB.out).mono ?_; rintro e w1 ⟨rfl, HB, c0, c1, c2, f1⟩) | (go_at_call 34; refine (HC.out _ HB.out).mono ?_; rintro e w1 ⟨rfl, HB, c0, c1, c2, f1⟩))
    go_quiet (fail)
    replace HB := Lib.hid (HB.out.below ((Touch.refl [] w1).drewN nq).below)
    go_wp2_with fail
    go_ret3
    exact ⟨by simp, HB.out.b⟩
theorem bindR_end {w W3 w4 : World} {p : Nat} {A A1 : Option Addr} {c c1 : Nat} {most g : Int} {l : List Bd} {x : Bd} {r : Value} (hTo : Touch (p :: (Value.slice A l.length c).ownBlock.toList) w W3) (hst : W3.heap[p]? = some (.cells (#[Value.int .i64 most, .int .i64 g, .slice A l.length c].setIfInBounds 1 (.int .i64 (g + 1))) 71 (0, 0)))
    (hne : (Value.slice A l.length c).ownBlock ≠ some p) (hR : kB.R 80 w4 0 (fun _ => True) (.slice A1 (l ++ [x]).length c1) (l ++ [x])) (hg : W3.drew.grownBy w4 (Value.slice A l.length c).ownBlock)
    (hat : (Value.slice A1 (l ++ [x]).length c1).ownBlock = (Value.slice A l.length c).ownBlock ∨ ∃ b, (Value.slice A1 (l ++ [x]).length c1).ownBlock = some b ∧ W3.drew.heap.size ≤ b)
    (hst4 : w4.heap[p]? = some (.cells #[.int .i64 most, .int .i64 (g + 1), .slice A l.length c] 71 (0, 0))) :
    ∃ v', Ending.returned r = Ending.returned r ∧ UAt (w4.setCell ⟨p, 2, none⟩ (.slice A1 (l.length + 1) c1)) p v' most (g + 1) (l ++ [x]) ∧ Touch (p :: (Value.slice A l.length c).ownBlock.toList) w (w4.setCell ⟨p, 2, none⟩ (.slice A1 (l.length + 1) c1)) ∧ (v'.ownBlock = (Value.slice A l.length c).ownBlock ∨ ∃ b, v'.ownBlock = some b ∧ w.heap.size ≤ b) := by
  have hlen : (l ++ [x]).length = l.length + 1 := by simp
  rw [hlen] at hR hat
  have hp3 : p < W3.heap.size := lt_of_block hst
  have hsz : w.heap.size ≤ W3.heap.size := hTo.size
  have hvp : (Value.slice A1 (l.length + 1) c1).ownBlock ≠ some p := fun e => by
    rcases hat with h | ⟨b, h, hle⟩
    · exact hne (h.symm.trans e)
    · rw [h] at e
      injection e with e
      have hle' : W3.heap.size ≤ b := hle
      omega
  refine ⟨.slice A1 (l.length + 1) c1, rfl, ⟨blk_set hst4 2 _, RS_same hR fun b hb => Below.heap_setCell _ _ _ _ (fun e => hvp (by rw [hb]; exact congrArg some e)), hvp⟩, ?_, ?_⟩
  · refine Touch.setCell ((hTo.drew).toGrown hg (fun k hk => ?_)) (p := ⟨p, 2, none⟩) (.inl List.mem_cons_self) _
    rw [hk]; simp
  · rcases hat with h | ⟨b, h, hle⟩
    · exact .inl h
    · exact .inr ⟨b, h, Nat.le_trans hsz hle⟩
set_option maxHeartbeats 4000000 in
theorem bindR_yes (p : Nat) (v : Value) (most g : Int) (l : List Bd) (a : Ad) (port : Int) (w : World) (h : UAt w p v most g l) (hsm : (l.length : Int) ≤ 1000) (hok : bOk a.b) (hg0 : 0 ≤ g) (hg1 : g < 4000000000000000000) (hk : kindA a = 1 ∨ kindA a = 5) (hp0 : 0 < port) (hp1 : port ≤ 65535) (hf : ¬ 0 ≤ jx l ⟨a, port⟩) (hm : (l.length : Int) < most) :
    Calls Try.prog 25 #[.pointer (some ⟨p, 0, none⟩), .agg (aV a), .int .i64 port] w fun e w' => ∃ v', e = .returned (.tuple #[.int .i64 (g + 1), .int .i64 port, .int .i64 0]) ∧ UAt w' p v' most (g + 1) (l ++ [⟨g + 1, ⟨a, port⟩⟩]) ∧ Touch (p :: v.ownBlock.toList) w w' ∧ (v'.ownBlock = v.ownBlock ∨ ∃ b, v'.ownBlock = some b ∧ w.heap.size ≤ b) := by
  obtain ⟨A, c, rfl, hlc⟩ := RS_len h.row
  have hB0 : Below w.heap.size w (w.alloc (.cells (aV a) 32)) := ((Touch.refl [] w).alloc _).below
  have HB : Hid (US w (w.alloc (.cells (aV a) 32)) p (.slice A l.length c) most g l a) := Lib.hid ⟨h.below hB0, heap_alloc_new w _, hB0⟩
  have HK : Hid (∀ W', US w W' p (.slice A l.length c) most g l a → Calls Try.prog 33 #[.agg (aV a)] W' fun e w' => e = .returned (.int .i64 (kindA a)) ∧ USC w w' p (.slice A l.length c) most g l a) := Lib.hid fun W' hW => hW.call (kindR_calls a hok W')
  have HC : Hid (∀ W', US w W' p (.slice A l.length c) most g l a → Calls Try.prog 34 #[.pointer (some ⟨p, 0, none⟩), .agg (aV a), .int .i64 port] W' fun e w' => e = .returned (.int .i64 (jx l ⟨a, port⟩)) ∧ USC w w' p (.slice A l.length c) most g l a) := Lib.hid fun W' hW => hW.call (just_calls p _ most g l a port W' hW.t hsm)
  have HG0 := Lib.hid hsm
  have HP := Lib.hid (lt_of_block h.st)
  have hlen := hsm
  clear h hB0 hlc hsm hok
  generalize kindA a = kd at *
  generalize jx l ⟨a, port⟩ = fb at *
  have k2 : decide (port < 0) = false := by simp; omega
  have k3 : decide (port > 65535) = false := by simp; omega
  have k4 : decide (port > 0) = true := by simp; omega
  have k5 : decide (fb ≥ 0) = false := by simp; omega
  have k6 : decide ((l.length : Int) ≥ most) = false := by simp; omega
  have k7 : (port == 0) = false := by simp; omega
  rcases hk with hk | hk
  · have k1 : (kd == 1) = true := by simpa using hk
    go_enter Try.func25, Try.ntmps25
    go_wp2_with (first | (refine gate_ (.load 32 (.tmp 4)) rfl ?_; refine wpList_guarded (by rfl) ?_; go_must (refine ld_A (.tmp 4) rfl rfl (range_A HB.out.x) rfl ?_)) | (go_at_call 33; refine (HK.out _ HB.out).mono ?_; rintro e w1 ⟨rfl, HB, c0, c1, c2, f1⟩) | (go_at_call 34; refine (HC.out _ HB.out).mono ?_; rintro e w1 ⟨rfl, HB, c0, c1, c2, f1⟩))
    go_quiet (fail)
    replace HB := Lib.hid (HB.out.below ((Touch.refl [] w1).drewN nq).below)
    replace c0 := HB.out.cells.1
    replace c1 := HB.out.cells.2.1
    replace c2 := HB.out.cells.2.2.1
    replace f1 := HB.out.cells.2.2.2
    go_wp2_with (first | (refine gate_ (.load 32 (.tmp 4)) rfl ?_; refine wpList_guarded (by rfl) ?_; go_must (refine ld_A (.tmp 4) rfl rfl (range_A HB.out.x) rfl ?_)) | (go_at_call 33; refine (HK.out _ HB.out).mono ?_; rintro e w1 ⟨rfl, HB, c0, c1, c2, f1⟩) | (go_at_call 34; refine (HC.out _ HB.out).mono ?_; rintro e w1 ⟨rfl, HB, c0, c1, c2, f1⟩))
    generalize hW3 : World.setCell _ ⟨p, 1, none⟩ (.int .i64 (g + 1)) = W3
    have hst3 := blk_set HB.out.t.st 1 (.int .i64 (g + 1))
    rw [hW3] at hst3
    have hpB : p ≠ w.heap.size := fun e => by have := HP.out; omega
    have hR3 : RS W3 0 (.slice A l.length c) l := RS_same HB.out.t.row fun b hb => by
      rw [← hW3]
      exact Below.heap_setCell _ _ _ _ (fun e => HB.out.t.ne (by rw [hb]; exact congrArg some e))
    have hX3 : W3.heap[w.heap.size]? = some (.cells (aV a) 32 (0, 0)) := by
      rw [← hW3]
      exact (Below.heap_setCell _ _ _ _ (fun e => hpB e.symm)).trans HB.out.x
    have hTo : Touch (p :: (Value.slice A l.length c).ownBlock.toList) w W3 := by
      rw [← hW3]
      exact (Touch.of_below HB.out.b).setCell (p := ⟨p, 1, none⟩) (.inl List.mem_cons_self) _
    have hrg : W3.rangeAt w.heap.size 0 (aL a) := range_A hX3
    have d1 : W3.cell? ⟨p, 1, none⟩ = some (.int .i64 (g + 1)) := cell_of_row _ _ 1 _ _ _ hst3
    have d2 : W3.cell? ⟨p, 2, none⟩ = some (.slice A l.length c) := cell_of_row _ _ 2 _ _ _ hst3
    have d3 : (W3.alloc (.cells (bV ⟨g + 1, ⟨a, port⟩⟩) 80)).cell? ⟨p, 2, none⟩ = some (.slice A l.length c) := cell_of_row _ _ 2 _ _ _ ((heap_alloc_old W3 _ (lt_of_block hst3)).trans hst3)
    have HST := Lib.hid hst3
    have HR3 := Lib.hid hR3
    have HTO := Lib.hid hTo
    have HNE := Lib.hid HB.out.t.ne
    have hLD : ∀ W : World, W.rangeAt w.heap.size 0 (aL a) → (loadVar 32 ⟨w.heap.size, 0, none⟩).run Try.prog W = .ok (.agg (aV a)) W := fun W h => lvA h
    clear hst3 hpB hR3 hX3 hTo hW3 HB c0 c1 c2 f1
    go_region_law (refine Kd.R_append_step kB (w0 := W3.drew) (W := W3.drew) 0 rfl (.tmp 65) (.tmp 73) 69 80 (.agg (bV zB)) 40 rfl Try.underlying69 infoS rfl (by decide) (by decide) (.slice A l.length c) l ⟨g + 1, ⟨a, port⟩⟩ (bL ⟨g + 1, ⟨a, port⟩⟩) (fun _ => True) (fun k => some k ≠ (Value.slice A l.length c).ownBlock) (by first | (go_simp; done) | (go_simp; rfl)) (by first | (go_simp; done) | (go_simp; rfl)) rfl (fun k h => ⟨trivial, h⟩) (fun _ _ => trivial) (RS_same (w := W3) HR3.out (fun b hb => rfl)) (blw0 _) (Nat.zero_le _) (by have := HG0.out; omega) ?_; intro v1 w4 hR4 hB4 hg4 hat4; obtain ⟨A1, c1, rfl⟩ := Kd.R_slice hR4; have st4 : w4.heap[p]? = some (.cells #[.int .i64 most, .int .i64 (g + 1), (.slice A l.length c)] 71 (0, 0)) := (hg4.block p (lt_of_block HST.out) (fun e => HNE.out e.symm)).trans HST.out; have e2 := cell_of_row _ _ 2 _ _ _ st4; replace e2 : w4.cell? ⟨p, 2, none⟩ = some (.slice A l.length c) := e2; have e1 := cell_of_row _ _ 1 _ _ _ st4; replace e1 : w4.cell? ⟨p, 1, none⟩ = some (.int .i64 (g + 1)) := e1; have e3 : w4.frozen? ⟨p, 2, none⟩ = false := blk_frozen st4 2; have HE := Lib.hid (And.intro hR4 (And.intro hg4 (And.intro hat4 st4))); clear hR4 hB4 hg4 hat4 st4)
    all_goals go_wp2_with fail
    all_goals go_ret3
    all_goals exact bindR_end HTO.out HST.out HNE.out HE.out.1 HE.out.2.1 HE.out.2.2.1 HE.out.2.2.2
  · have k1 : (kd == 1) = false := by simp; omega
    have k0 : (kd == 5) = true := by simpa using hk
    go_enter Try.func25, Try.ntmps25
    go_wp2_with (first | (refine gate_ (.load 32 (.tmp 4)) rfl ?_; refine wpList_guarded (by rfl) ?_; go_must (refine ld_A (.tmp 4) rfl rfl (range_A HB.out.x) rfl ?_)) | (go_at_call 33; refine (HK.out _ HB.out).mono ?_; rintro e w1 ⟨rfl, HB, c0, c1, c2, f1⟩) | (go_at_call 34; refine (HC.out _ HB.out).mono ?_; rintro e w1 ⟨rfl, HB, c0, c1, c2, f1⟩))
    go_quiet (fail)
    replace HB := Lib.hid (HB.out.below ((Touch.refl [] w1).drewN nq).below)
    replace c0 := HB.out.cells.1
    replace c1 := HB.out.cells.2.1
    replace c2 := HB.out.cells.2.2.1
    replace f1 := HB.out.cells.2.2.2
    go_wp2_with (first | (refine gate_ (.load 32 (.tmp 4)) rfl ?_; refine wpList_guarded (by rfl) ?_; go_must (refine ld_A (.tmp 4) rfl rfl (range_A HB.out.x) rfl ?_)) | (go_at_call 33; refine (HK.out _ HB.out).mono ?_; rintro e w1 ⟨rfl, HB, c0, c1, c2, f1⟩) | (go_at_call 34; refine (HC.out _ HB.out).mono ?_; rintro e w1 ⟨rfl, HB, c0, c1, c2, f1⟩))
    generalize hW3 : World.setCell _ ⟨p, 1, none⟩ (.int .i64 (g + 1)) = W3
    have hst3 := blk_set HB.out.t.st 1 (.int .i64 (g + 1))
    rw [hW3] at hst3
    have hpB : p ≠ w.heap.size := fun e => by have := HP.out; omega
    have hR3 : RS W3 0 (.slice A l.length c) l := RS_same HB.out.t.row fun b hb => by
      rw [← hW3]
      exact Below.heap_setCell _ _ _ _ (fun e => HB.out.t.ne (by rw [hb]; exact congrArg some e))
    have hX3 : W3.heap[w.heap.size]? = some (.cells (aV a) 32 (0, 0)) := by
      rw [← hW3]
      exact (Below.heap_setCell _ _ _ _ (fun e => hpB e.symm)).trans HB.out.x
    have hTo : Touch (p :: (Value.slice A l.length c).ownBlock.toList) w W3 := by
      rw [← hW3]
      exact (Touch.of_below HB.out.b).setCell (p := ⟨p, 1, none⟩) (.inl List.mem_cons_self) _
    have hrg : W3.rangeAt w.heap.size 0 (aL a) := range_A hX3
    have d1 : W3.cell? ⟨p, 1, none⟩ = some (.int .i64 (g + 1)) := cell_of_row _ _ 1 _ _ _ hst3
    have d2 : W3.cell? ⟨p, 2, none⟩ = some (.slice A l.length c) := cell_of_row _ _ 2 _ _ _ hst3
    have d3 : (W3.alloc (.cells (bV ⟨g + 1, ⟨a, port⟩⟩) 80)).cell? ⟨p, 2, none⟩ = some (.slice A l.length c) := cell_of_row _ _ 2 _ _ _ ((heap_alloc_old W3 _ (lt_of_block hst3)).trans hst3)
    have HST := Lib.hid hst3
    have HR3 := Lib.hid hR3
    have HTO := Lib.hid hTo
    have HNE := Lib.hid HB.out.t.ne
    have hLD : ∀ W : World, W.rangeAt w.heap.size 0 (aL a) → (loadVar 32 ⟨w.heap.size, 0, none⟩).run Try.prog W = .ok (.agg (aV a)) W := fun W h => lvA h
    clear hst3 hpB hR3 hX3 hTo hW3 HB c0 c1 c2 f1
    go_region_law (refine Kd.R_append_step kB (w0 := W3.drew) (W := W3.drew) 0 rfl (.tmp 65) (.tmp 73) 69 80 (.agg (bV zB)) 40 rfl Try.underlying69 infoS rfl (by decide) (by decide) (.slice A l.length c) l ⟨g + 1, ⟨a, port⟩⟩ (bL ⟨g + 1, ⟨a, port⟩⟩) (fun _ => True) (fun k => some k ≠ (Value.slice A l.length c).ownBlock) (by first | (go_simp; done) | (go_simp; rfl)) (by first | (go_simp; done) | (go_simp; rfl)) rfl (fun k h => ⟨trivial, h⟩) (fun _ _ => trivial) (RS_same (w := W3) HR3.out (fun b hb => rfl)) (blw0 _) (Nat.zero_le _) (by have := HG0.out; omega) ?_; intro v1 w4 hR4 hB4 hg4 hat4; obtain ⟨A1, c1, rfl⟩ := Kd.R_slice hR4; have st4 : w4.heap[p]? = some (.cells #[.int .i64 most, .int .i64 (g + 1), (.slice A l.length c)] 71 (0, 0)) := (hg4.block p (lt_of_block HST.out) (fun e => HNE.out e.symm)).trans HST.out; have e2 := cell_of_row _ _ 2 _ _ _ st4; replace e2 : w4.cell? ⟨p, 2, none⟩ = some (.slice A l.length c) := e2; have e1 := cell_of_row _ _ 1 _ _ _ st4; replace e1 : w4.cell? ⟨p, 1, none⟩ = some (.int .i64 (g + 1)) := e1; have e3 : w4.frozen? ⟨p, 2, none⟩ = false := blk_frozen st4 2; have HE := Lib.hid (And.intro hR4 (And.intro hg4 (And.intro hat4 st4))); clear hR4 hB4 hg4 hat4 st4)
    all_goals go_wp2_with fail
    all_goals go_ret3
    all_goals exact bindR_end HTO.out HST.out HNE.out HE.out.1 HE.out.2.1 HE.out.2.2.1 HE.out.2.2.2
set_option maxHeartbeats 4000000 in
theorem bindR_yes0 (p : Nat) (v : Value) (most g : Int) (l : List Bd) (a : Ad) (port : Int) (w : World) (h : UAt w p v most g l) (hsm : (l.length : Int) ≤ 1000) (hok : bOk a.b) (hg0 : 0 ≤ g) (hg1 : g < 4000000000000000000) (hk : kindA a = 1 ∨ kindA a = 5) (hp0 : port = 0) (hm : (l.length : Int) < most) (F : Int) (HF0 : 49152 ≤ F ∧ F ≤ 65535) (HF2 : jx l ⟨a, F⟩ < 0) (HF3 : ∀ i, 49152 ≤ i → i < F → 0 ≤ jx l ⟨a, i⟩) :
    Calls Try.prog 25 #[.pointer (some ⟨p, 0, none⟩), .agg (aV a), .int .i64 port] w fun e w' => ∃ v', e = .returned (.tuple #[.int .i64 (g + 1), .int .i64 F, .int .i64 0]) ∧ UAt w' p v' most (g + 1) (l ++ [⟨g + 1, ⟨a, F⟩⟩]) ∧ Touch (p :: v.ownBlock.toList) w w' ∧ (v'.ownBlock = v.ownBlock ∨ ∃ b, v'.ownBlock = some b ∧ w.heap.size ≤ b) := by
  obtain ⟨A, c, rfl, hlc⟩ := RS_len h.row
  have hB0 : Below w.heap.size w (w.alloc (.cells (aV a) 32)) := ((Touch.refl [] w).alloc _).below
  have HB : Hid (US w (w.alloc (.cells (aV a) 32)) p (.slice A l.length c) most g l a) := Lib.hid ⟨h.below hB0, heap_alloc_new w _, hB0⟩
  have HK : Hid (∀ W', US w W' p (.slice A l.length c) most g l a → Calls Try.prog 33 #[.agg (aV a)] W' fun e w' => e = .returned (.int .i64 (kindA a)) ∧ USC w w' p (.slice A l.length c) most g l a) := Lib.hid fun W' hW => hW.call (kindR_calls a hok W')
  have HC0 : Hid (∀ (q : Int) W', US w W' p (.slice A l.length c) most g l a → Calls Try.prog 34 #[.pointer (some ⟨p, 0, none⟩), .agg (aV a), .int .i64 q] W' fun e w' => e = .returned (.int .i64 (jx l ⟨a, q⟩)) ∧ USC w w' p (.slice A l.length c) most g l a) := Lib.hid fun q W' hW => hW.call (just_calls p _ most g l a q W' hW.t hsm)
  have HG0 := Lib.hid hsm
  have HP := Lib.hid (lt_of_block h.st)
  have hlen := hsm
  clear h hB0 hlc hsm hok
  generalize kindA a = kd at *
  have HJ := Lib.hid HF2
  have HN := Lib.hid HF3
  obtain ⟨HF1, HF4⟩ := HF0
  clear HF2 HF3
  have k2 : decide (port < 0) = false := by simp; omega
  have k3 : decide (port > 65535) = false := by simp; omega
  have k4 : decide (port > 0) = false := by simp; omega
  have k6 : decide ((l.length : Int) ≥ most) = false := by simp; omega
  have k7 : (port == 0) = true := by simp; omega
  rcases hk with hk | hk
  · have k1 : (kd == 1) = true := by simpa using hk
    go_enter Try.func25, Try.ntmps25
    go_wp2_with (first | (refine gate_ (.load 32 (.tmp 4)) rfl ?_; refine wpList_guarded (by rfl) ?_; go_must (refine ld_A (.tmp 4) rfl rfl (range_A HB.out.x) rfl ?_)) | (go_at_call 33; refine (HK.out _ HB.out).mono ?_; rintro e w1 ⟨rfl, HB, c0, c1, c2, f1⟩))
    go_quiet (fail)
    replace HB := Lib.hid (HB.out.below ((Touch.refl [] w1).drewN nq).below)
    replace c0 := HB.out.cells.1
    replace c1 := HB.out.cells.2.1
    replace c2 := HB.out.cells.2.2.1
    replace f1 := HB.out.cells.2.2.2
    go_wp2_with fail
    clear c0 c1 c2 f1
    go_loopw [2] (fun i wr => ∃ q : Int, 49152 ≤ q ∧ q ≤ F ∧ i = .int .i64 q ∧ Hid (US w wr p (.slice A l.length c) most g l a)) (fun i _ => (70000 - intOf i).toNat)
    case atStart => exact ⟨49152, Int.le_refl _, HF1, rfl, HB⟩
    case round =>
      obtain ⟨q, hq1, hq2, rfl, HB⟩ := hrel
      have HC := Lib.hid (fun W' hW => HC0.out q W' hW)
      by_cases hqF : q < F
      · have k9 : decide (jx l ⟨a, q⟩ ≥ 0) = true := decide_eq_true (HN.out q hq1 hqF)
        generalize jx l ⟨a, q⟩ = fb at HC k9
        go_wp2_with (first | (refine gate_ (.load 32 (.tmp 4)) rfl ?_; refine wpList_guarded (by rfl) ?_; go_must (refine ld_A (.tmp 4) rfl rfl (range_A HB.out.x) rfl ?_)) | (go_at_call 33; refine (HK.out _ HB.out).mono ?_; rintro e w1 ⟨rfl, HB, c0, c1, c2, f1⟩) | (go_at_call 34; refine (HC.out _ HB.out).mono ?_; rintro e w1 ⟨rfl, HB, c0, c1, c2, f1⟩))
        go_roundw
        case rel => exact ⟨q + 1, by omega, by omega, by go_num, HB⟩
        case measure => simp [intOf]; omega
      · obtain rfl : q = F := by omega
        have k9 : decide (jx l ⟨a, q⟩ ≥ 0) = false := decide_eq_false (by have := HJ.out; omega)
        generalize jx l ⟨a, q⟩ = fb at HC k9
        go_wp2_with (first | (refine gate_ (.load 32 (.tmp 4)) rfl ?_; refine wpList_guarded (by rfl) ?_; go_must (refine ld_A (.tmp 4) rfl rfl (range_A HB.out.x) rfl ?_)) | (go_at_call 33; refine (HK.out _ HB.out).mono ?_; rintro e w1 ⟨rfl, HB, c0, c1, c2, f1⟩) | (go_at_call 34; refine (HC.out _ HB.out).mono ?_; rintro e w1 ⟨rfl, HB, c0, c1, c2, f1⟩))
        generalize hW3 : World.setCell _ ⟨p, 1, none⟩ (.int .i64 (g + 1)) = W3
        have hst3 := blk_set HB.out.t.st 1 (.int .i64 (g + 1))
        rw [hW3] at hst3
        have hpB : p ≠ w.heap.size := fun e => by have := HP.out; omega
        have hR3 : RS W3 0 (.slice A l.length c) l := RS_same HB.out.t.row fun b hb => by
          rw [← hW3]
          exact Below.heap_setCell _ _ _ _ (fun e => HB.out.t.ne (by rw [hb]; exact congrArg some e))
        have hX3 : W3.heap[w.heap.size]? = some (.cells (aV a) 32 (0, 0)) := by
          rw [← hW3]
          exact (Below.heap_setCell _ _ _ _ (fun e => hpB e.symm)).trans HB.out.x
        have hTo : Touch (p :: (Value.slice A l.length c).ownBlock.toList) w W3 := by
          rw [← hW3]
          exact (Touch.of_below HB.out.b).setCell (p := ⟨p, 1, none⟩) (.inl List.mem_cons_self) _
        have hrg : W3.rangeAt w.heap.size 0 (aL a) := range_A hX3
        have d1 : W3.cell? ⟨p, 1, none⟩ = some (.int .i64 (g + 1)) := cell_of_row _ _ 1 _ _ _ hst3
        have d2 : W3.cell? ⟨p, 2, none⟩ = some (.slice A l.length c) := cell_of_row _ _ 2 _ _ _ hst3
        have d3 : (W3.alloc (.cells (bV ⟨g + 1, ⟨a, q⟩⟩) 80)).cell? ⟨p, 2, none⟩ = some (.slice A l.length c) := cell_of_row _ _ 2 _ _ _ ((heap_alloc_old W3 _ (lt_of_block hst3)).trans hst3)
        have HST := Lib.hid hst3
        have HR3 := Lib.hid hR3
        have HTO := Lib.hid hTo
        have HNE := Lib.hid HB.out.t.ne
        have hLD : ∀ W : World, W.rangeAt w.heap.size 0 (aL a) → (loadVar 32 ⟨w.heap.size, 0, none⟩).run Try.prog W = .ok (.agg (aV a)) W := fun W h => lvA h
        clear hst3 hpB hR3 hX3 hTo hW3 HB c0 c1 c2 f1
        go_region_law (refine Kd.R_append_step kB (w0 := W3.drew) (W := W3.drew) 0 rfl (.tmp 65) (.tmp 73) 69 80 (.agg (bV zB)) 40 rfl Try.underlying69 infoS rfl (by decide) (by decide) (.slice A l.length c) l ⟨g + 1, ⟨a, q⟩⟩ (bL ⟨g + 1, ⟨a, q⟩⟩) (fun _ => True) (fun k => some k ≠ (Value.slice A l.length c).ownBlock) (by first | (go_simp; done) | (go_simp; rfl)) (by first | (go_simp; done) | (go_simp; rfl)) rfl (fun k h => ⟨trivial, h⟩) (fun _ _ => trivial) (RS_same (w := W3) HR3.out (fun b hb => rfl)) (blw0 _) (Nat.zero_le _) (by have := HG0.out; omega) ?_; intro v1 w4 hR4 hB4 hg4 hat4; obtain ⟨A1, c1, rfl⟩ := Kd.R_slice hR4; have st4 : w4.heap[p]? = some (.cells #[.int .i64 most, .int .i64 (g + 1), (.slice A l.length c)] 71 (0, 0)) := (hg4.block p (lt_of_block HST.out) (fun e => HNE.out e.symm)).trans HST.out; have e2 := cell_of_row _ _ 2 _ _ _ st4; replace e2 : w4.cell? ⟨p, 2, none⟩ = some (.slice A l.length c) := e2; have e1 := cell_of_row _ _ 1 _ _ _ st4; replace e1 : w4.cell? ⟨p, 1, none⟩ = some (.int .i64 (g + 1)) := e1; have e3 : w4.frozen? ⟨p, 2, none⟩ = false := blk_frozen st4 2; have HE := Lib.hid (And.intro hR4 (And.intro hg4 (And.intro hat4 st4))); clear hR4 hB4 hg4 hat4 st4)
        all_goals go_wp2_with fail
        all_goals go_ret3
        all_goals exact bindR_end HTO.out HST.out HNE.out HE.out.1 HE.out.2.1 HE.out.2.2.1 HE.out.2.2.2
  · have k1 : (kd == 1) = false := by simp; omega
    have k0 : (kd == 5) = true := by simpa using hk
    go_enter Try.func25, Try.ntmps25
    go_wp2_with (first | (refine gate_ (.load 32 (.tmp 4)) rfl ?_; refine wpList_guarded (by rfl) ?_; go_must (refine ld_A (.tmp 4) rfl rfl (range_A HB.out.x) rfl ?_)) | (go_at_call 33; refine (HK.out _ HB.out).mono ?_; rintro e w1 ⟨rfl, HB, c0, c1, c2, f1⟩))
    go_quiet (fail)
    replace HB := Lib.hid (HB.out.below ((Touch.refl [] w1).drewN nq).below)
    replace c0 := HB.out.cells.1
    replace c1 := HB.out.cells.2.1
    replace c2 := HB.out.cells.2.2.1
    replace f1 := HB.out.cells.2.2.2
    go_wp2_with fail
    clear c0 c1 c2 f1
    go_loopw [2] (fun i wr => ∃ q : Int, 49152 ≤ q ∧ q ≤ F ∧ i = .int .i64 q ∧ Hid (US w wr p (.slice A l.length c) most g l a)) (fun i _ => (70000 - intOf i).toNat)
    case atStart => exact ⟨49152, Int.le_refl _, HF1, rfl, HB⟩
    case round =>
      obtain ⟨q, hq1, hq2, rfl, HB⟩ := hrel
      have HC := Lib.hid (fun W' hW => HC0.out q W' hW)
      by_cases hqF : q < F
      · have k9 : decide (jx l ⟨a, q⟩ ≥ 0) = true := decide_eq_true (HN.out q hq1 hqF)
        generalize jx l ⟨a, q⟩ = fb at HC k9
        go_wp2_with (first | (refine gate_ (.load 32 (.tmp 4)) rfl ?_; refine wpList_guarded (by rfl) ?_; go_must (refine ld_A (.tmp 4) rfl rfl (range_A HB.out.x) rfl ?_)) | (go_at_call 33; refine (HK.out _ HB.out).mono ?_; rintro e w1 ⟨rfl, HB, c0, c1, c2, f1⟩) | (go_at_call 34; refine (HC.out _ HB.out).mono ?_; rintro e w1 ⟨rfl, HB, c0, c1, c2, f1⟩))
        go_roundw
        case rel => exact ⟨q + 1, by omega, by omega, by go_num, HB⟩
        case measure => simp [intOf]; omega
      · obtain rfl : q = F := by omega
        have k9 : decide (jx l ⟨a, q⟩ ≥ 0) = false := decide_eq_false (by have := HJ.out; omega)
        generalize jx l ⟨a, q⟩ = fb at HC k9
        go_wp2_with (first | (refine gate_ (.load 32 (.tmp 4)) rfl ?_; refine wpList_guarded (by rfl) ?_; go_must (refine ld_A (.tmp 4) rfl rfl (range_A HB.out.x) rfl ?_)) | (go_at_call 33; refine (HK.out _ HB.out).mono ?_; rintro e w1 ⟨rfl, HB, c0, c1, c2, f1⟩) | (go_at_call 34; refine (HC.out _ HB.out).mono ?_; rintro e w1 ⟨rfl, HB, c0, c1, c2, f1⟩))
        generalize hW3 : World.setCell _ ⟨p, 1, none⟩ (.int .i64 (g + 1)) = W3
        have hst3 := blk_set HB.out.t.st 1 (.int .i64 (g + 1))
        rw [hW3] at hst3
        have hpB : p ≠ w.heap.size := fun e => by have := HP.out; omega
        have hR3 : RS W3 0 (.slice A l.length c) l := RS_same HB.out.t.row fun b hb => by
          rw [← hW3]
          exact Below.heap_setCell _ _ _ _ (fun e => HB.out.t.ne (by rw [hb]; exact congrArg some e))
        have hX3 : W3.heap[w.heap.size]? = some (.cells (aV a) 32 (0, 0)) := by
          rw [← hW3]
          exact (Below.heap_setCell _ _ _ _ (fun e => hpB e.symm)).trans HB.out.x
        have hTo : Touch (p :: (Value.slice A l.length c).ownBlock.toList) w W3 := by
          rw [← hW3]
          exact (Touch.of_below HB.out.b).setCell (p := ⟨p, 1, none⟩) (.inl List.mem_cons_self) _
        have hrg : W3.rangeAt w.heap.size 0 (aL a) := range_A hX3
        have d1 : W3.cell? ⟨p, 1, none⟩ = some (.int .i64 (g + 1)) := cell_of_row _ _ 1 _ _ _ hst3
        have d2 : W3.cell? ⟨p, 2, none⟩ = some (.slice A l.length c) := cell_of_row _ _ 2 _ _ _ hst3
        have d3 : (W3.alloc (.cells (bV ⟨g + 1, ⟨a, q⟩⟩) 80)).cell? ⟨p, 2, none⟩ = some (.slice A l.length c) := cell_of_row _ _ 2 _ _ _ ((heap_alloc_old W3 _ (lt_of_block hst3)).trans hst3)
        have HST := Lib.hid hst3
        have HR3 := Lib.hid hR3
        have HTO := Lib.hid hTo
        have HNE := Lib.hid HB.out.t.ne
        have hLD : ∀ W : World, W.rangeAt w.heap.size 0 (aL a) → (loadVar 32 ⟨w.heap.size, 0, none⟩).run Try.prog W = .ok (.agg (aV a)) W := fun W h => lvA h
        clear hst3 hpB hR3 hX3 hTo hW3 HB c0 c1 c2 f1
        go_region_law (refine Kd.R_append_step kB (w0 := W3.drew) (W := W3.drew) 0 rfl (.tmp 65) (.tmp 73) 69 80 (.agg (bV zB)) 40 rfl Try.underlying69 infoS rfl (by decide) (by decide) (.slice A l.length c) l ⟨g + 1, ⟨a, q⟩⟩ (bL ⟨g + 1, ⟨a, q⟩⟩) (fun _ => True) (fun k => some k ≠ (Value.slice A l.length c).ownBlock) (by first | (go_simp; done) | (go_simp; rfl)) (by first | (go_simp; done) | (go_simp; rfl)) rfl (fun k h => ⟨trivial, h⟩) (fun _ _ => trivial) (RS_same (w := W3) HR3.out (fun b hb => rfl)) (blw0 _) (Nat.zero_le _) (by have := HG0.out; omega) ?_; intro v1 w4 hR4 hB4 hg4 hat4; obtain ⟨A1, c1, rfl⟩ := Kd.R_slice hR4; have st4 : w4.heap[p]? = some (.cells #[.int .i64 most, .int .i64 (g + 1), (.slice A l.length c)] 71 (0, 0)) := (hg4.block p (lt_of_block HST.out) (fun e => HNE.out e.symm)).trans HST.out; have e2 := cell_of_row _ _ 2 _ _ _ st4; replace e2 : w4.cell? ⟨p, 2, none⟩ = some (.slice A l.length c) := e2; have e1 := cell_of_row _ _ 1 _ _ _ st4; replace e1 : w4.cell? ⟨p, 1, none⟩ = some (.int .i64 (g + 1)) := e1; have e3 : w4.frozen? ⟨p, 2, none⟩ = false := blk_frozen st4 2; have HE := Lib.hid (And.intro hR4 (And.intro hg4 (And.intro hat4 st4))); clear hR4 hB4 hg4 hat4 st4)
        all_goals go_wp2_with fail
        all_goals go_ret3
        all_goals exact bindR_end HTO.out HST.out HNE.out HE.out.1 HE.out.2.1 HE.out.2.2.1 HE.out.2.2.2
end Go.Proofs.Ytgcafklieblldaa.SL
