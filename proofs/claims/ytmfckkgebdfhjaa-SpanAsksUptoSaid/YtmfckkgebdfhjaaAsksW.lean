/- The walk of the statement SpanAsks: whatever the list (of at most 4000000 spans), the span and the end: true, and all memory stays as it was. No further condition. -/
import Derived.Test.YtmfckkgebdfhjaaQV
import Derived.Lib.Hide
import Derived.Handy
import Derived.Shelf.Abstract
import Derived.Deep.RegionHeld3
namespace Go.Proofs.Ytmfckkgebdfhjaa.Q
open Go.RowKit Go.Proofs.YtmfckkgebdfhjaaW.PrintWords Go.Proofs.YtmfckkgebdfhjaaW.PrintLast Go.Proofs.YtmfckkgebdfhjaaW.PrintMore
theorem St.start {w : World} {a b : Int} {v : Value} {l : List Sp} (h : Rd w v l) : St w w.heap.size a b (w.alloc (.cells #[.int .i64 a, .int .i64 b] 24)) [(v, l)] := by
  have hb := Below.alloc (Below.refl w.heap.size w) (Nat.le_refl _) (.cells #[.int .i64 a, .int .i64 b] 24)
  exact ⟨hb, by simp, by simp, by simp, h.below hb, trivial⟩
theorem St.pick {w0 w : World} {bx : Nat} {a b : Int} {L : List (Value × List Sp)} {v u : Value} {l m : List Sp} (h : St w0 bx a b w L) (h1 : (v, l) ∈ L) (h2 : (u, m) ∈ L) : St w0 bx a b w [(v, l), (u, m)] :=
  ⟨h.bl, h.lt, h.c0, h.c1, h.lv.get h1, h.lv.get h2, trivial⟩
set_option maxHeartbeats 4000000 in
set_option maxRecDepth 100000 in
theorem asks_calls (A : Option Addr) (c : Nat) (l : List Sp) (a b en : Int) (w : World) (hr : Kd.C k24 w A l.length l) (hc : l.length ≤ c) (hl : l.length ≤ 4000000) :
    Calls Try.prog 3 #[.slice A l.length c, .agg #[.int .i64 a, .int .i64 b], .int .i64 en] w fun e w' => e = .returned (.bool true) ∧ Below w.heap.size w w' := by
  have hu24 := Try.underlying24
  have H0 := Lib.hid (show Rd w (.slice A l.length c) l from ⟨hl, A, c, rfl, hc, hr⟩)
  clear hr hc hl
  generalize hv : Value.slice A l.length c = v0 at H0 ⊢
  clear hv
  go_enter Try.func3, Try.ntmps3
  go_wp2_with fail
  refine (mosaiclaw09_alive.calls 400000000 true _ (alive_eval _ (by omega))).mono ?_
  rintro e w1 ⟨rfl, hb⟩
  have HS := Lib.hid ((St.start H0.out).below hb)
  clear hb H0
  have hx : ((normS l).2 != (normS l).2) = false := by simp
  have hR : (rightB l != rightB l) = false := by simp
  have hz : (sizeA l != sizeA l) = false := by simp
  go_wp2_with fail
  refine (c_own (l := l) HS.out ?m).mono ?_
  case m => repeat (first | with_reducible exact List.mem_cons_self | with_reducible apply List.mem_cons_of_mem)
  rintro e w2 ⟨v2, rfl, hs⟩
  have HS := Lib.hid hs
  clear hs
  go_wp2_with fail
  refine (c_norm (l := l) HS.out ?m).mono ?_
  case m => repeat (first | with_reducible exact List.mem_cons_self | with_reducible apply List.mem_cons_of_mem)
  rintro e w3 ⟨v3, rfl, hs⟩
  have HS := Lib.hid hs
  clear hs
  go_wp2_with fail
  refine (c_rnorm (l := l) HS.out ?m).mono ?_
  case m => repeat (first | with_reducible exact List.mem_cons_self | with_reducible apply List.mem_cons_of_mem)
  rintro e w4 ⟨v4, rfl, hs⟩
  have HS := Lib.hid hs
  clear hs
  go_wp2_with fail
  refine (c_same (l := (normS l).1) HS.out ?m ?n).mono ?_
  case m => repeat (first | with_reducible exact List.mem_cons_self | with_reducible apply List.mem_cons_of_mem)
  case n => repeat (first | with_reducible exact List.mem_cons_self | with_reducible apply List.mem_cons_of_mem)
  rintro e w5 ⟨rfl, hs⟩
  have HS := Lib.hid hs
  clear hs
  go_wp2_with fail
  refine (c_own (l := l) HS.out ?m).mono ?_
  case m => repeat (first | with_reducible exact List.mem_cons_self | with_reducible apply List.mem_cons_of_mem)
  rintro e w6 ⟨v6, rfl, hs⟩
  have HS := Lib.hid hs
  clear hs
  go_wp2_with fail
  refine (c_right (l := l) HS.out ?m).mono ?_
  case m => repeat (first | with_reducible exact List.mem_cons_self | with_reducible apply List.mem_cons_of_mem)
  rintro e w7 ⟨rfl, hs⟩
  have HS := Lib.hid hs
  clear hs
  go_wp2_with fail
  refine (c_rright (l := l) HS.out ?m).mono ?_
  case m => repeat (first | with_reducible exact List.mem_cons_self | with_reducible apply List.mem_cons_of_mem)
  rintro e w8 ⟨rfl, hs⟩
  have HS := Lib.hid hs
  clear hs
  go_wp2_with fail
  refine (c_own (l := l) HS.out ?m).mono ?_
  case m => repeat (first | with_reducible exact List.mem_cons_self | with_reducible apply List.mem_cons_of_mem)
  rintro e w9 ⟨v9, rfl, hs⟩
  have HS := Lib.hid hs
  clear hs
  go_wp2_with fail
  refine (c_size (l := l) HS.out ?m).mono ?_
  case m => repeat (first | with_reducible exact List.mem_cons_self | with_reducible apply List.mem_cons_of_mem)
  rintro e w10 ⟨rfl, hs⟩
  have HS := Lib.hid hs
  clear hs
  go_wp2_with fail
  refine (c_rsize (l := l) HS.out ?m).mono ?_
  case m => repeat (first | with_reducible exact List.mem_cons_self | with_reducible apply List.mem_cons_of_mem)
  rintro e w11 ⟨rfl, hs⟩
  have HS := Lib.hid hs
  clear hs
  clear hx hR hz
  have HS2 := Lib.hid (HS.out.pick (v := v0) (l := l) (u := v4) (m := (normS l).1) (by repeat (first | with_reducible exact List.mem_cons_self | with_reducible apply List.mem_cons_of_mem)) (by repeat (first | with_reducible exact List.mem_cons_self | with_reducible apply List.mem_cons_of_mem)))
  clear HS
  go_wp2
  go_loopw [0, 12] (fun s0 s12 wr => ∃ (l' : List Sp) (k : Nat), k ≤ 2 ∧ s12 = .int .i64 k ∧ Hid (St w w.heap.size a b wr [(s0, l'), (v4, (normS l).1)])) (fun _ t _ => (2 - intOf t).toNat)
  case atStart => exact ⟨l, 0, by omega, rfl, HS2⟩
  case round =>
    obtain ⟨l', k, hk, rfl, HS⟩ := hrel
    by_cases hk2 : (k : Int) < 2
    · go_wp2
      go_region_held3 (fun w' => w'.cell? ⟨w.heap.size, 0, none⟩ = some (.int .i64 a) ∧ w'.cell? ⟨w.heap.size, 1, none⟩ = some (.int .i64 b)) (first | exact ⟨HS.out.c0, HS.out.c1⟩ | exact ⟨HS.out.drew.c0, HS.out.drew.c1⟩)
        (first | (go_at_call 10; refine (c_own (l := l') HS.out ?m).mono ?_; (case m => repeat (first | with_reducible exact List.mem_cons_self | with_reducible apply List.mem_cons_of_mem)); rintro e w' ⟨v', rfl, hs⟩; have HS := Lib.hid hs; clear hs) | (go_at_call 10; refine (c_own (l := l') HS.out.drew ?m).mono ?_; (case m => repeat (first | with_reducible exact List.mem_cons_self | with_reducible apply List.mem_cons_of_mem)); rintro e w' ⟨v', rfl, hs⟩; have HS := Lib.hid hs; clear hs) | (go_at_call 17; refine (c_add (l := l') HS.out ?m).mono ?_; (case m => repeat (first | with_reducible exact List.mem_cons_self | with_reducible apply List.mem_cons_of_mem)); rintro e w' ⟨v', rfl, hs⟩; have HS := Lib.hid hs; clear hs) | (go_at_call 17; refine (c_add (l := l') HS.out.drew ?m).mono ?_; (case m => repeat (first | with_reducible exact List.mem_cons_self | with_reducible apply List.mem_cons_of_mem)); rintro e w' ⟨v', rfl, hs⟩; have HS := Lib.hid hs; clear hs))
      go_wp2_with fail
      refine (c_radd (l := l') HS.out ?m).mono ?_
      case m => repeat (first | with_reducible exact List.mem_cons_self | with_reducible apply List.mem_cons_of_mem)
      rintro e w12 ⟨v12, rfl, hs⟩
      have HS := Lib.hid hs
      clear hs
      go_wp2
      go_region_held3 (fun w' => w'.cell? ⟨w.heap.size, 0, none⟩ = some (.int .i64 a) ∧ w'.cell? ⟨w.heap.size, 1, none⟩ = some (.int .i64 b)) (first | exact ⟨HS.out.c0, HS.out.c1⟩ | exact ⟨HS.out.drew.c0, HS.out.drew.c1⟩)
        (first | (go_at_call 10; refine (c_own (l := l') HS.out ?m).mono ?_; (case m => repeat (first | with_reducible exact List.mem_cons_self | with_reducible apply List.mem_cons_of_mem)); rintro e w' ⟨v', rfl, hs⟩; have HS := Lib.hid hs; clear hs) | (go_at_call 10; refine (c_own (l := l') HS.out.drew ?m).mono ?_; (case m => repeat (first | with_reducible exact List.mem_cons_self | with_reducible apply List.mem_cons_of_mem)); rintro e w' ⟨v', rfl, hs⟩; have HS := Lib.hid hs; clear hs) | (go_at_call 19; refine (c_cut (l := l') HS.out ?m).mono ?_; (case m => repeat (first | with_reducible exact List.mem_cons_self | with_reducible apply List.mem_cons_of_mem)); rintro e w' ⟨v', rfl, hs⟩; have HS := Lib.hid hs; clear hs) | (go_at_call 19; refine (c_cut (l := l') HS.out.drew ?m).mono ?_; (case m => repeat (first | with_reducible exact List.mem_cons_self | with_reducible apply List.mem_cons_of_mem)); rintro e w' ⟨v', rfl, hs⟩; have HS := Lib.hid hs; clear hs))
      go_wp2_with fail
      refine (c_rcut (l := l') HS.out ?m).mono ?_
      case m => repeat (first | with_reducible exact List.mem_cons_self | with_reducible apply List.mem_cons_of_mem)
      rintro e w13 ⟨v13, rfl, hs⟩
      have HS := Lib.hid hs
      clear hs
      go_wp2_with fail
      refine (c_own (l := l') HS.out ?m).mono ?_
      case m => repeat (first | with_reducible exact List.mem_cons_self | with_reducible apply List.mem_cons_of_mem)
      rintro e w14 ⟨v14, rfl, hs⟩
      have HS := Lib.hid hs
      clear hs
      go_wp2_with fail
      refine (c_holes (l := l') HS.out ?m en).mono ?_
      case m => repeat (first | with_reducible exact List.mem_cons_self | with_reducible apply List.mem_cons_of_mem)
      rintro e w15 ⟨v15, rfl, hs⟩
      have HS := Lib.hid hs
      clear hs
      go_wp2_with fail
      refine (c_rholes (l := l') HS.out ?m en).mono ?_
      case m => repeat (first | with_reducible exact List.mem_cons_self | with_reducible apply List.mem_cons_of_mem)
      rintro e w16 ⟨v16, rfl, hs⟩
      have HS := Lib.hid hs
      clear hs
      have hx1 : ((addA l' ⟨a, b⟩).2 != (addA l' ⟨a, b⟩).2) = false := by simp
      have hx2 : ((cutA l' ⟨a, b⟩).2 != (cutA l' ⟨a, b⟩).2) = false := by simp
      have hx3 : ((holesB l' en).2 != (holesB l' en).2) = false := by simp
      go_wp2_with fail
      refine (c_same (l := (addA l' ⟨a, b⟩).1) HS.out ?m ?n).mono ?_
      case m => repeat (first | with_reducible exact List.mem_cons_self | with_reducible apply List.mem_cons_of_mem)
      case n => repeat (first | with_reducible exact List.mem_cons_self | with_reducible apply List.mem_cons_of_mem)
      rintro e w17 ⟨rfl, hs⟩
      have HS := Lib.hid hs
      clear hs
      go_wp2_with fail
      refine (c_same (l := (cutA l' ⟨a, b⟩).1) HS.out ?m ?n).mono ?_
      case m => repeat (first | with_reducible exact List.mem_cons_self | with_reducible apply List.mem_cons_of_mem)
      case n => repeat (first | with_reducible exact List.mem_cons_self | with_reducible apply List.mem_cons_of_mem)
      rintro e w18 ⟨rfl, hs⟩
      have HS := Lib.hid hs
      clear hs
      go_wp2_with fail
      refine (c_same (l := (holesB l' en).1) HS.out ?m ?n).mono ?_
      case m => repeat (first | with_reducible exact List.mem_cons_self | with_reducible apply List.mem_cons_of_mem)
      case n => repeat (first | with_reducible exact List.mem_cons_self | with_reducible apply List.mem_cons_of_mem)
      rintro e w19 ⟨rfl, hs⟩
      have HS := Lib.hid hs
      clear hs
      clear hx1 hx2 hx3
      have hy1 : (hasA l' ⟨a, b⟩ != hasA l' ⟨a, b⟩) = false := by simp
      have hy2 : (meetsA l' ⟨a, b⟩ != meetsA l' ⟨a, b⟩) = false := by simp
      have hy3 : (sizeA l' != sizeA l') = false := by simp
      go_wp2
      go_region_held3 (fun w' => w'.cell? ⟨w.heap.size, 0, none⟩ = some (.int .i64 a) ∧ w'.cell? ⟨w.heap.size, 1, none⟩ = some (.int .i64 b)) (first | exact ⟨HS.out.c0, HS.out.c1⟩ | exact ⟨HS.out.drew.c0, HS.out.drew.c1⟩)
        (first | (go_at_call 10; refine (c_own (l := l') HS.out ?m).mono ?_; (case m => repeat (first | with_reducible exact List.mem_cons_self | with_reducible apply List.mem_cons_of_mem)); rintro e w' ⟨v', rfl, hs⟩; have HS := Lib.hid hs; clear hs) | (go_at_call 10; refine (c_own (l := l') HS.out.drew ?m).mono ?_; (case m => repeat (first | with_reducible exact List.mem_cons_self | with_reducible apply List.mem_cons_of_mem)); rintro e w' ⟨v', rfl, hs⟩; have HS := Lib.hid hs; clear hs) | (go_at_call 23; refine (c_has (l := l') HS.out ?m).mono ?_; (case m => repeat (first | with_reducible exact List.mem_cons_self | with_reducible apply List.mem_cons_of_mem)); rintro e w' ⟨rfl, hs⟩; have HS := Lib.hid hs; clear hs) | (go_at_call 23; refine (c_has (l := l') HS.out.drew ?m).mono ?_; (case m => repeat (first | with_reducible exact List.mem_cons_self | with_reducible apply List.mem_cons_of_mem)); rintro e w' ⟨rfl, hs⟩; have HS := Lib.hid hs; clear hs) | (go_at_call 24; refine (c_rhas (l := l') HS.out ?m).mono ?_; (case m => repeat (first | with_reducible exact List.mem_cons_self | with_reducible apply List.mem_cons_of_mem)); rintro e w' ⟨rfl, hs⟩; have HS := Lib.hid hs; clear hs) | (go_at_call 24; refine (c_rhas (l := l') HS.out.drew ?m).mono ?_; (case m => repeat (first | with_reducible exact List.mem_cons_self | with_reducible apply List.mem_cons_of_mem)); rintro e w' ⟨rfl, hs⟩; have HS := Lib.hid hs; clear hs) | (go_at_call 25; refine (c_meets (l := l') HS.out ?m).mono ?_; (case m => repeat (first | with_reducible exact List.mem_cons_self | with_reducible apply List.mem_cons_of_mem)); rintro e w' ⟨rfl, hs⟩; have HS := Lib.hid hs; clear hs) | (go_at_call 25; refine (c_meets (l := l') HS.out.drew ?m).mono ?_; (case m => repeat (first | with_reducible exact List.mem_cons_self | with_reducible apply List.mem_cons_of_mem)); rintro e w' ⟨rfl, hs⟩; have HS := Lib.hid hs; clear hs) | (go_at_call 26; refine (c_rmeets (l := l') HS.out ?m).mono ?_; (case m => repeat (first | with_reducible exact List.mem_cons_self | with_reducible apply List.mem_cons_of_mem)); rintro e w' ⟨rfl, hs⟩; have HS := Lib.hid hs; clear hs) | (go_at_call 26; refine (c_rmeets (l := l') HS.out.drew ?m).mono ?_; (case m => repeat (first | with_reducible exact List.mem_cons_self | with_reducible apply List.mem_cons_of_mem)); rintro e w' ⟨rfl, hs⟩; have HS := Lib.hid hs; clear hs) | (go_at_call 15; refine (c_size (l := l') HS.out ?m).mono ?_; (case m => repeat (first | with_reducible exact List.mem_cons_self | with_reducible apply List.mem_cons_of_mem)); rintro e w' ⟨rfl, hs⟩; have HS := Lib.hid hs; clear hs) | (go_at_call 15; refine (c_size (l := l') HS.out.drew ?m).mono ?_; (case m => repeat (first | with_reducible exact List.mem_cons_self | with_reducible apply List.mem_cons_of_mem)); rintro e w' ⟨rfl, hs⟩; have HS := Lib.hid hs; clear hs) | (go_at_call 16; refine (c_rsize (l := l') HS.out ?m).mono ?_; (case m => repeat (first | with_reducible exact List.mem_cons_self | with_reducible apply List.mem_cons_of_mem)); rintro e w' ⟨rfl, hs⟩; have HS := Lib.hid hs; clear hs) | (go_at_call 16; refine (c_rsize (l := l') HS.out.drew ?m).mono ?_; (case m => repeat (first | with_reducible exact List.mem_cons_self | with_reducible apply List.mem_cons_of_mem)); rintro e w' ⟨rfl, hs⟩; have HS := Lib.hid hs; clear hs))
      clear hy1 hy2 hy3
      have HS3 := Lib.hid (HS.out.pick (v := v4) (l := (normS l).1) (u := v4) (m := (normS l).1) (by repeat (first | with_reducible exact List.mem_cons_self | with_reducible apply List.mem_cons_of_mem)) (by repeat (first | with_reducible exact List.mem_cons_self | with_reducible apply List.mem_cons_of_mem)))
      clear HS
      go_wp2
      go_roundw
      case rel => exact ⟨(normS l).1, k + 1, by omega, by go_num, HS3⟩
      case measure => simp [intOf]; omega
    · go_wp2
      go_ret
      exact ⟨rfl, HS.out.bl⟩

end Go.Proofs.Ytmfckkgebdfhjaa.Q
