/- The document's Hear. No condition but sizes. PRINTED BY gen_hear.py -/
import Derived.Test.YtdinkhhaomblcaaDoorZ6
namespace Go.Proofs.YtdinkhhaomblcaaDoor.SL
open Go.RowKit Go.Proofs.YtdinkhhaomblcaaDoorW.PrintWords Go.Proofs.YtdinkhhaomblcaaDoorW.PrintLast Go.Proofs.YtdinkhhaomblcaaDoorW.PrintMore
theorem built_en (a : Ad) (n f t h : Int) : Tryd.prog.built 87 [(0, .agg (aV a)), (1, .int .i64 n), (2, .int .i64 f), (3, .int .i64 t)] = some (enV (a, ⟨n, f, t, h⟩)) := by
  obtain ⟨v, b, hb⟩ := a
  obtain ⟨b0, b1, b2, b3, b4, b5, b6, b7, b8, b9, b10, b11, b12, b13, b14, b15, rfl⟩ := list16 b hb
  kernel_rfl
theorem get_err2 (L : Mp) (a : Ad) (first : Int) : (getS L a first).2 = 0 ∨ (getS L a first).2 = 1 := by
  unfold getS
  split
  · exact .inr rfl
  · split <;> exact .inl rfl
attribute [-go_sem] loadVar Instr.buildSlice Instr.build
attribute [local go_sem] lv3 lv64 lvSl bls_A bls_E
attribute [local go_sem ↓] Go.wp_at_zero Go.wp_at_succ
section
variable {w0 w : World} {Γ Δ : List Ob}
theorem rc_more {p : Nat} {a' : Addr} {c c' n : Nat} {B : Option Addr} {E A last : Int} {L : Mp} {y : Ad × Bel} {o : Ob} (h : St w0 w (obB p (rcV E A last (.slice B n c)) 83 :: obEn (.slice (some a') (L.length + 1) c') (L ++ [y]) :: o :: Δ)) :
    St w0 (w.setCell ⟨p, 2, none⟩ (.slice (some a') (L.length + 1) c')) (RcSt.G ⟨p, some a', c', E, A, last, L ++ [y]⟩ ++ Δ) := by
  have e : L.length + 1 = (L ++ [y]).length := by rw [List.length_append]; rfl
  rw [e] at h ⊢
  have h1 := h.setB 0 rfl 2 (.slice (some a') (L ++ [y]).length c')
  have h2 : St w0 (w.setCell ⟨p, 2, none⟩ (.slice (some a') (L ++ [y]).length c')) (obB p (rcV E A last (.slice (some a') (L ++ [y]).length c')) 83 :: obEn (.slice (some a') (L ++ [y]).length c') (L ++ [y]) :: o :: Δ) := h1
  exact h2.sub (List.Sublist.cons_cons _ (List.Sublist.cons_cons _ (List.sublist_cons_self _ _)))
set_option maxHeartbeats 8000000 in
set_option maxRecDepth 100000 in
theorem rhear_bad (x : RcSt) (h : St w0 w (x.G ++ Δ)) (hl : x.L.length ≤ 100) (a : Ad) (first mtu length now : Int) (hb : (getS x.L a first).2 ≠ 0 ∨ now < x.last ∨ 1099511627776 < now) :
    Calls Tryd.prog 30 (hrA x.p a first mtu length now) w fun e w' => e = .returned (.tuple #[.bool false, .int .i64 1]) ∧ St w0 w' (x.G ++ Δ) := by
  obtain ⟨p, B, c, E, A, last, L⟩ := x
  replace hl : L.length ≤ 100 := hl
  have q0 := h.boxF (aV a) 32
  have q1 : St w0 (w.alloc (.cells (aV a) 32)) (RcSt.G ⟨p, B, c, E, A, last, L⟩ ++ (obB w.heap.size (aV a) 32 :: Δ)) := q0.perm (List.perm_middle (l₁ := RcSt.G ⟨p, B, c, E, A, last, L⟩))
  have HS := Lib.hid q1
  replace hb : (getS L a first).2 ≠ 0 ∨ now < last ∨ 1099511627776 < now := hb
  show Calls Tryd.prog 30 (hrA p a first mtu length now) w fun e w' => e = .returned (.tuple #[.bool false, .int .i64 1]) ∧ St w0 w' (RcSt.G ⟨p, B, c, E, A, last, L⟩ ++ Δ)
  clear h q0 q1
  go_enter Tryd.func30, Tryd.ntmps30
  have HGT := Lib.hid (rget_raw ⟨p, B, c, E, A, last, L⟩ HS.out hl a first)
  replace HGT : Hid (Calls Tryd.prog 29 #[.pointer (some ⟨p, 0, none⟩), .agg (aV a), .int .i64 first] (w.alloc (.cells (aV a) 32)) fun e w' => e = .returned (.tuple #[.int .i64 (getS L a first).1, .int .i64 (getS L a first).2]) ∧ Below (w.alloc (.cells (aV a) 32)).heap.size (w.alloc (.cells (aV a) 32)) w') := HGT
  have HEnd : Hid (∀ w', St w0 w' (RcSt.G ⟨p, B, c, E, A, last, L⟩ ++ (obB w.heap.size (aV a) 32 :: Δ)) → St w0 w' (RcSt.G ⟨p, B, c, E, A, last, L⟩ ++ Δ)) := Lib.hid fun w' h => h.sub (List.Sublist.append_left (List.sublist_cons_self _ _) _)
  have hee := get_err2 L a first
  generalize (getS L a first).1 = old at *
  generalize (getS L a first).2 = er at *
  by_cases h0 : er = 0
  · subst h0
    clear hee
    by_cases h1 : now < last
    · clear hb
      go_wp2_with (first | (refine gate_ (.load 32 (.tmp 7)) rfl ?_; go_must (refine ld_A (.tmp 7) rfl rfl (range_A (HS.out.get 2 rfl)) rfl ?_)) | (go_at_call 29; refine HGT.out.mono ?_; rintro e w1 ⟨rfl, hb⟩; replace HS := Lib.hid (HS.out.below hb); have c3 := HS.out.cellB 0 rfl 3 rfl; clear hb))
      go_ret2
      exact ⟨rfl, HEnd.out _ HS.out⟩
    · have h2 : 1099511627776 < now := by omega
      clear hb
      go_wp2_with (first | (refine gate_ (.load 32 (.tmp 7)) rfl ?_; go_must (refine ld_A (.tmp 7) rfl rfl (range_A (HS.out.get 2 rfl)) rfl ?_)) | (go_at_call 29; refine HGT.out.mono ?_; rintro e w1 ⟨rfl, hb⟩; replace HS := Lib.hid (HS.out.below hb); have c3 := HS.out.cellB 0 rfl 3 rfl; clear hb))
      go_ret2
      exact ⟨rfl, HEnd.out _ HS.out⟩
  · obtain rfl : er = 1 := by omega
    clear hb hee h0
    go_wp2_with (first | (refine gate_ (.load 32 (.tmp 7)) rfl ?_; go_must (refine ld_A (.tmp 7) rfl rfl (range_A (HS.out.get 2 rfl)) rfl ?_)) | (go_at_call 29; refine HGT.out.mono ?_; rintro e w1 ⟨rfl, hb⟩; replace HS := Lib.hid (HS.out.below hb); have c3 := HS.out.cellB 0 rfl 3 rfl; clear hb))
    go_ret2
    exact ⟨rfl, HEnd.out _ HS.out⟩
set_option maxHeartbeats 8000000 in
set_option maxRecDepth 100000 in
theorem rhear_no (x : RcSt) (h : St w0 w (x.G ++ Δ)) (hl : x.L.length ≤ 100) (a : Ad) (first mtu length now : Int) (h0 : (getS x.L a first).2 = 0) (h1 : x.last ≤ now) (h2 : now ≤ 1099511627776) (hno : meantR a mtu length = 0 ∨ (getS x.L a first).1 ≤ meantR a mtu length) :
    Calls Tryd.prog 30 (hrA x.p a first mtu length now) w fun e w' => e = .returned (.tuple #[.bool false, .int .i64 0]) ∧ St w0 w' (RcSt.G { x with last := now } ++ Δ) := by
  obtain ⟨p, B, c, E, A, last, L⟩ := x
  replace hl : L.length ≤ 100 := hl
  have q0 := h.boxF (aV a) 32
  have q1 : St w0 (w.alloc (.cells (aV a) 32)) (RcSt.G ⟨p, B, c, E, A, last, L⟩ ++ (obB w.heap.size (aV a) 32 :: Δ)) := q0.perm (List.perm_middle (l₁ := RcSt.G ⟨p, B, c, E, A, last, L⟩))
  have HS := Lib.hid q1
  replace h0 : (getS L a first).2 = 0 := h0
  replace h1 : last ≤ now := h1
  replace hno : meantR a mtu length = 0 ∨ (getS L a first).1 ≤ meantR a mtu length := hno
  have g1 : ¬ now < last := by omega
  have g2 : ¬ 1099511627776 < now := by omega
  have HMT := Lib.hid fun W => rmeant_calls a mtu length W
  show Calls Tryd.prog 30 (hrA p a first mtu length now) w fun e w' => e = .returned (.tuple #[.bool false, .int .i64 0]) ∧ St w0 w' (RcSt.G ⟨p, B, c, E, A, now, L⟩ ++ Δ)
  clear h q0 q1
  go_enter Tryd.func30, Tryd.ntmps30
  have HGT := Lib.hid (rget_raw ⟨p, B, c, E, A, last, L⟩ HS.out hl a first)
  replace HGT : Hid (Calls Tryd.prog 29 #[.pointer (some ⟨p, 0, none⟩), .agg (aV a), .int .i64 first] (w.alloc (.cells (aV a) 32)) fun e w' => e = .returned (.tuple #[.int .i64 (getS L a first).1, .int .i64 (getS L a first).2]) ∧ Below (w.alloc (.cells (aV a) 32)).heap.size (w.alloc (.cells (aV a) 32)) w') := HGT
  have HEnd : Hid (∀ w', St w0 w' (RcSt.G ⟨p, B, c, E, A, now, L⟩ ++ (obB w.heap.size (aV a) 32 :: Δ)) → St w0 w' (RcSt.G ⟨p, B, c, E, A, now, L⟩ ++ Δ)) := Lib.hid fun w' h => h.sub (List.Sublist.append_left (List.sublist_cons_self _ _) _)
  rw [h0] at HGT
  generalize (getS L a first).1 = old at *
  generalize meantR a mtu length = n at *
  clear h0 h1 h2
  by_cases hn : n = 0
  · have hq : (n == 0) = true := by simpa using hn
    clear hno hn
    go_wp2_with (first | (go_at_call 44; refine (HMT.out _).mono ?_; rintro e w2 ⟨rfl, hb⟩; replace HS3 := Lib.hid (HS3.out.below hb); clear hb) | (go_at_call 29; refine HGT.out.mono ?_; rintro e w1 ⟨rfl, hb⟩; replace HS := Lib.hid (HS.out.below hb); have c3 := HS.out.cellB 0 rfl 3 rfl; have f3 := HS.out.freeB 0 rfl 3; have hs3 := HS.out.setB 0 rfl 3 (.int .i64 now); have HS3 : Hid (St w0 (w1.setCell ⟨p, 3, none⟩ (.int .i64 now)) (RcSt.G ⟨p, B, c, _, A, now, L⟩ ++ (obB w.heap.size (aV a) 32 :: Δ))) := Lib.hid hs3; clear hb hs3) | (have _g := HS3; (refine gate_ (.load 32 (.tmp 7)) rfl ?_; go_must (refine ld_A (.tmp 7) rfl rfl (range_A (HS3.out.get 2 rfl)) rfl ?_))) | (refine gate_ (.load 32 (.tmp 7)) rfl ?_; go_must (refine ld_A (.tmp 7) rfl rfl (range_A (HS.out.get 2 rfl)) rfl ?_)))
    go_ret2
    exact ⟨rfl, HEnd.out _ HS3.out⟩
  · have hq : (n == 0) = false := by simpa using hn
    have hge : old ≤ n := by omega
    have hge2 : decide (n ≥ old) = true := decide_eq_true hge
    clear hno hn
    go_wp2_with (first | (go_at_call 44; refine (HMT.out _).mono ?_; rintro e w2 ⟨rfl, hb⟩; replace HS3 := Lib.hid (HS3.out.below hb); clear hb) | (go_at_call 29; refine HGT.out.mono ?_; rintro e w1 ⟨rfl, hb⟩; replace HS := Lib.hid (HS.out.below hb); have c3 := HS.out.cellB 0 rfl 3 rfl; have f3 := HS.out.freeB 0 rfl 3; have hs3 := HS.out.setB 0 rfl 3 (.int .i64 now); have HS3 : Hid (St w0 (w1.setCell ⟨p, 3, none⟩ (.int .i64 now)) (RcSt.G ⟨p, B, c, _, A, now, L⟩ ++ (obB w.heap.size (aV a) 32 :: Δ))) := Lib.hid hs3; clear hb hs3) | (have _g := HS3; (refine gate_ (.load 32 (.tmp 7)) rfl ?_; go_must (refine ld_A (.tmp 7) rfl rfl (range_A (HS3.out.get 2 rfl)) rfl ?_))) | (refine gate_ (.load 32 (.tmp 7)) rfl ?_; go_must (refine ld_A (.tmp 7) rfl rfl (range_A (HS.out.get 2 rfl)) rfl ?_)))
    go_ret2
    exact ⟨rfl, HEnd.out _ HS3.out⟩
set_option maxHeartbeats 16000000 in
set_option maxRecDepth 100000 in
theorem rhear_yes (x : RcSt) (h : St w0 w (x.G ++ Δ)) (hl : x.L.length ≤ 100) (hE : (x.L.length : Int) ≤ x.E) (hE1 : 1 ≤ x.E) (a : Ad) (first mtu length now hrd : Int) (h0 : (getS x.L a first).2 = 0) (h1 : x.last ≤ now) (h2 : now ≤ 1099511627776) (hn : meantR a mtu length ≠ 0) (hlt : meantR a mtu length < (getS x.L a first).1) :
    Calls Tryd.prog 30 (hrA x.p a first mtu length now) w fun e w' => ∃ B' c', e = .returned (.tuple #[.bool true, .int .i64 0]) ∧ St w0 w' (RcSt.G ⟨x.p, B', c', x.E, x.A, now, hearL x.E x.L a ⟨meantR a mtu length, first, now, hrd⟩⟩ ++ Δ) := by
  obtain ⟨p, B, c, E, A, last, L⟩ := x
  replace hl : L.length ≤ 100 := hl
  have q0 := h.boxF (aV a) 32
  have q1 : St w0 (w.alloc (.cells (aV a) 32)) (RcSt.G ⟨p, B, c, E, A, last, L⟩ ++ (obB w.heap.size (aV a) 32 :: Δ)) := q0.perm (List.perm_middle (l₁ := RcSt.G ⟨p, B, c, E, A, last, L⟩))
  have HS := Lib.hid q1
  replace h0 : (getS L a first).2 = 0 := h0
  replace h1 : last ≤ now := h1
  replace hE : (L.length : Int) ≤ E := hE
  replace hE1 : 1 ≤ E := hE1
  replace hlt : meantR a mtu length < (getS L a first).1 := hlt
  have g1 : ¬ now < last := by omega
  have g2 : ¬ 1099511627776 < now := by omega
  have HMT := Lib.hid fun W => rmeant_calls a mtu length W
  show Calls Tryd.prog 30 (hrA p a first mtu length now) w fun e w' => ∃ B' c', e = .returned (.tuple #[.bool true, .int .i64 0]) ∧ St w0 w' (RcSt.G ⟨p, B', c', E, A, now, hearL E L a ⟨meantR a mtu length, first, now, hrd⟩⟩ ++ Δ)
  clear h q0 q1
  go_enter Tryd.func30, Tryd.ntmps30
  have HGT := Lib.hid (rget_raw ⟨p, B, c, E, A, last, L⟩ HS.out hl a first)
  replace HGT : Hid (Calls Tryd.prog 29 #[.pointer (some ⟨p, 0, none⟩), .agg (aV a), .int .i64 first] (w.alloc (.cells (aV a) 32)) fun e w' => e = .returned (.tuple #[.int .i64 (getS L a first).1, .int .i64 (getS L a first).2]) ∧ Below (w.alloc (.cells (aV a) 32)).heap.size (w.alloc (.cells (aV a) 32)) w') := HGT
  rw [h0] at HGT
  generalize (getS L a first).1 = old at *
  generalize meantR a mtu length = n at *
  have hq : (n == 0) = false := by simpa using hn
  have hge2 : decide (n ≥ old) = false := decide_eq_false (by omega)
  have HPL : Hid (∀ W, St w0 W (RcSt.G ⟨p, B, c, E, A, now, L⟩ ++ (obB w.heap.size (aV a) 32 :: Δ)) → Calls Tryd.prog 43 #[.pointer (some ⟨p, 0, none⟩), .agg (aV a)] W fun e w' => e = .returned (.int .i64 (idxZ L a)) ∧ Below W.heap.size W w') := Lib.hid fun W h => place_raw ⟨p, B, c, E, A, now, L⟩ h hl a
  clear h0 h1 h2 hn
  cases hi : idxM L a with
  | some k =>
    obtain ⟨hk, _⟩ := idx_of hi
    have hz : idxZ L a = (k : Int) := by unfold idxZ; rw [hi]
    have hlen : (L.eraseIdx k).length = L.length - 1 := List.length_eraseIdx_of_lt hk
    have hne : (((L.eraseIdx k).length : Int) == E) = false := by
      have : ¬ ((L.eraseIdx k).length : Int) = E := by rw [hlen]; omega
      simpa using this
    have HHL : Hid (hearL E L a ⟨n, first, now, hrd⟩ = L.eraseIdx k ++ [(a, ⟨n, first, now, hrd⟩)]) := Lib.hid (by
      have e1 : delM L a = L.eraseIdx k := by unfold delM; rw [hi]
      have e2 : roomL E (L.eraseIdx k) = L.eraseIdx k := by unfold roomL; rw [if_neg]; rw [hlen]; omega
      unfold hearL
      rw [e1, e2])
    have hk0 : (0 : Int) ≤ (k : Int) := by omega
    have hbd : ((L.eraseIdx k).length + 1) * 48 ≤ 140737488355328 := by rw [hlen]; omega
    clear hlen
    have HK := Lib.hid hk
    rw [hz] at HPL
    obtain ⟨L1, hL1⟩ : ∃ L1, L.eraseIdx k = L1 := ⟨_, rfl⟩
    have HWO : Hid (∀ W, St w0 W (RcSt.G ⟨p, B, c, E, A, now, L⟩ ++ (obB w.heap.size (aV a) 32 :: Δ)) → Calls Tryd.prog 45 #[.pointer (some ⟨p, 0, none⟩), .int .i64 (k : Int)] W fun e w' => ∃ B9 c', e = .returned (.slice B9 L1.length c') ∧ St w0 w' (obEn (.slice B9 L1.length c') L1 :: (RcSt.G ⟨p, B, c, E, A, now, L⟩ ++ (obB w.heap.size (aV a) 32 :: Δ)))) := Lib.hid fun W h => by
      rw [← hL1]
      exact rwithout_raw ⟨p, B, c, E, A, now, L⟩ h hl k hk
    rw [hL1] at hne HHL hbd
    clear hi hz hL1
    go_wp2_with (first | (go_at_call 44; refine (HMT.out _).mono ?_; rintro e w2 ⟨rfl, hb⟩; replace HS3 := Lib.hid (HS3.out.below hb); clear hb) | (go_at_call 29; refine HGT.out.mono ?_; rintro e w1 ⟨rfl, hb⟩; replace HS := Lib.hid (HS.out.below hb); have c3 := HS.out.cellB 0 rfl 3 rfl; have f3 := HS.out.freeB 0 rfl 3; have hs3 := HS.out.setB 0 rfl 3 (.int .i64 now); have HS3 : Hid (St w0 (w1.setCell ⟨p, 3, none⟩ (.int .i64 now)) (RcSt.G ⟨p, B, c, _, A, now, L⟩ ++ (obB w.heap.size (aV a) 32 :: Δ))) := Lib.hid hs3; clear hb hs3) | (go_at_call 43; refine (HPL.out _ HS3.out).mono ?_; rintro e w3 ⟨rfl, hb⟩; replace HS3 := Lib.hid (HS3.out.below hb); clear hb) | (go_at_call 45; refine (HWO.out _ HS3.out).mono ?_; rintro e w5 ⟨Bx, cx, rfl, hs⟩; have z2 := hs.cellB 1 rfl 2 rfl; have z3 := hs.freeB 1 rfl 2; have hs7 := rc_list hs; have HS7 : Hid (St w0 (w5.setCell ⟨p, 2, none⟩ (.slice Bx L1.length cx)) (RcSt.G ⟨p, Bx, cx, _, A, now, L1⟩ ++ (obB w.heap.size (aV a) 32 :: Δ))) := Lib.hid hs7; have z4 : (w5.setCell ⟨p, 2, none⟩ (.slice Bx L1.length cx)).cell? ⟨p, 2, none⟩ = some (.slice Bx L1.length cx) := HS7.out.cellB 0 rfl 2 rfl; have z5 := HS7.out.cellB 0 rfl 0 rfl; clear hs hs7) | (have _g := HS3; (refine gate_ (.load 32 (.tmp 7)) rfl ?_; go_must (refine ld_A (.tmp 7) rfl rfl (range_A (HS3.out.get 2 rfl)) rfl ?_))) | (refine gate_ (.load 32 (.tmp 7)) rfl ?_; go_must (refine ld_A (.tmp 7) rfl rfl (range_A (HS.out.get 2 rfl)) rfl ?_)))
    generalize w5.setCell ⟨p, 2, none⟩ (.slice Bx L1.length cx) = W7 at HS7 z4 z5 ⊢
    go_region
    go_wp2_with fail
    have HSx := Lib.hid HS7.out.drew
    generalize W7.drew = Wx at HSx ⊢
    have y2 := HSx.out.cellB 0 rfl 2 rfl
    have y2' := HSx.out.freeB 0 rfl 2
    have d2 : (Wx.alloc (.cells (enV (a, ⟨n, first, now, hrd⟩)) 87)).cell? ⟨p, 2, none⟩ = some (.slice Bx (L1).length cx) := by
      rw [World.cell?_of_block (w := Wx) (heap_alloc_old Wx _ (World.block_lt_of_cell? Wx _ y2))]; exact y2
    have H4 := Lib.hid HSx.out.drew
    have hLDb : (loadVar 32 ⟨w.heap.size, 0, none⟩).run Tryd.prog Wx.drew = .ok (.agg (aV a)) Wx.drew := lvA (range_A (H4.out.get 2 rfl))
    have hBLD : ∀ W, (Instr.build 87 #[(0, .agg (aV a)), (1, .int .i64 n), (2, .int .i64 first), (3, .int .i64 now)]).run Tryd.prog W = .ok (.agg (enV (a, ⟨n, first, now, hrd⟩))) W := fun W => run_build W _ _ _ (built_en a n first now hrd)
    go_region_law (refine step_append_St kE H4.out 1 rfl rfl (.tmp 85) (.tmp 91) 81 (.agg (enV (zA 0, zBel))) 48 rfl Tryd.underlying81 infoE (enV_size _) (by decide) (by decide) (a, ⟨n, first, now, hrd⟩) (enL (a, ⟨n, first, now, hrd⟩)) (by first | (go_simp; done) | (go_simp; rfl)) (by first | (go_simp; done) | (go_simp; rfl)) rfl hbd ?_; intro v1 w4 HG4 HS9; obtain ⟨X1, c4, rfl⟩ := HG4.out.slice; have e0 := HS9.out.cellB 0 rfl 2 rfl; have e1 := HS9.out.cellB 0 rfl 1 rfl; have e3 := HS9.out.freeB 0 rfl 2; clear HG4)
    all_goals
      go_wp2_with fail
      go_ret2
      exact ⟨rfl, _, _, by rw [HHL.out]; exact rc_more HS9.out⟩
  | none =>
    have hz : idxZ L a = -1 := by unfold idxZ; rw [hi]
    rw [hz] at HPL
    have e1 : delM L a = L := by unfold delM; rw [hi]
    by_cases hfull : (L.length : Int) = E
    · subst hfull
      have hne : ((L.length : Int) == (L.length : Int)) = true := by simp
      have h0l : 0 < L.length := by omega
      have HHL : Hid (hearL (L.length : Int) L a ⟨n, first, now, hrd⟩ = L.eraseIdx 0 ++ [(a, ⟨n, first, now, hrd⟩)]) := Lib.hid (by
        have e2 : roomL (L.length : Int) L = L.eraseIdx 0 := by unfold roomL; rw [if_pos rfl]
        unfold hearL
        rw [e1, e2])
      have hlen : (L.eraseIdx 0).length = L.length - 1 := List.length_eraseIdx_of_lt h0l
      have hbd : ((L.eraseIdx 0).length + 1) * 48 ≤ 140737488355328 := by rw [hlen]; omega
      clear hlen
      obtain ⟨L1, hL1⟩ : ∃ L1, L.eraseIdx 0 = L1 := ⟨_, rfl⟩
      have HWO : Hid (∀ W, St w0 W (RcSt.G ⟨p, B, c, (L.length : Int), A, now, L⟩ ++ (obB w.heap.size (aV a) 32 :: Δ)) → Calls Tryd.prog 45 #[.pointer (some ⟨p, 0, none⟩), .int .i64 0] W fun e w' => ∃ B9 c', e = .returned (.slice B9 L1.length c') ∧ St w0 w' (obEn (.slice B9 L1.length c') L1 :: (RcSt.G ⟨p, B, c, (L.length : Int), A, now, L⟩ ++ (obB w.heap.size (aV a) 32 :: Δ)))) := Lib.hid fun W h => by
        rw [← hL1]
        exact rwithout_raw ⟨p, B, c, _, A, now, L⟩ h hl 0 h0l
      rw [hL1] at HHL hbd
      clear hi hz e1 hL1
      go_wp2_with (first | (go_at_call 44; refine (HMT.out _).mono ?_; rintro e w2 ⟨rfl, hb⟩; replace HS3 := Lib.hid (HS3.out.below hb); clear hb) | (go_at_call 29; refine HGT.out.mono ?_; rintro e w1 ⟨rfl, hb⟩; replace HS := Lib.hid (HS.out.below hb); have c3 := HS.out.cellB 0 rfl 3 rfl; have f3 := HS.out.freeB 0 rfl 3; have hs3 := HS.out.setB 0 rfl 3 (.int .i64 now); have HS3 : Hid (St w0 (w1.setCell ⟨p, 3, none⟩ (.int .i64 now)) (RcSt.G ⟨p, B, c, _, A, now, L⟩ ++ (obB w.heap.size (aV a) 32 :: Δ))) := Lib.hid hs3; clear hb hs3) | (go_at_call 43; refine (HPL.out _ HS3.out).mono ?_; rintro e w3 ⟨rfl, hb⟩; replace HS3 := Lib.hid (HS3.out.below hb); have z4 : w3.cell? ⟨p, 2, none⟩ = some (.slice B L.length c) := HS3.out.cellB 0 rfl 2 rfl; have z5 := HS3.out.cellB 0 rfl 0 rfl; clear hb) | (have _g := HS3; (refine gate_ (.load 32 (.tmp 7)) rfl ?_; go_must (refine ld_A (.tmp 7) rfl rfl (range_A (HS3.out.get 2 rfl)) rfl ?_))) | (refine gate_ (.load 32 (.tmp 7)) rfl ?_; go_must (refine ld_A (.tmp 7) rfl rfl (range_A (HS.out.get 2 rfl)) rfl ?_)))
      go_region
      replace HS3 := Lib.hid HS3.out.drew
      go_wp2_with (first | (go_at_call 45; refine (HWO.out _ HS3.out).mono ?_; rintro e w5 ⟨Bx, cx, rfl, hs⟩; have z2 := hs.cellB 1 rfl 2 rfl; have z3 := hs.freeB 1 rfl 2; have hs7 := rc_list hs; have HS7 : Hid (St w0 (w5.setCell ⟨p, 2, none⟩ (.slice Bx L1.length cx)) (RcSt.G ⟨p, Bx, cx, _, A, now, L1⟩ ++ (obB w.heap.size (aV a) 32 :: Δ))) := Lib.hid hs7; have z4 : (w5.setCell ⟨p, 2, none⟩ (.slice Bx L1.length cx)).cell? ⟨p, 2, none⟩ = some (.slice Bx L1.length cx) := HS7.out.cellB 0 rfl 2 rfl; have z5 := HS7.out.cellB 0 rfl 0 rfl; clear hs hs7))
      have HSx := HS7
      generalize w5.setCell ⟨p, 2, none⟩ (.slice Bx L1.length cx) = Wx at HSx ⊢
      have y2 := HSx.out.cellB 0 rfl 2 rfl
      have y2' := HSx.out.freeB 0 rfl 2
      have d2 : (Wx.alloc (.cells (enV (a, ⟨n, first, now, hrd⟩)) 87)).cell? ⟨p, 2, none⟩ = some (.slice Bx (L1).length cx) := by
        rw [World.cell?_of_block (w := Wx) (heap_alloc_old Wx _ (World.block_lt_of_cell? Wx _ y2))]; exact y2
      have H4 := Lib.hid HSx.out.drew
      have hLDb : (loadVar 32 ⟨w.heap.size, 0, none⟩).run Tryd.prog Wx.drew = .ok (.agg (aV a)) Wx.drew := lvA (range_A (H4.out.get 2 rfl))
      have hBLD : ∀ W, (Instr.build 87 #[(0, .agg (aV a)), (1, .int .i64 n), (2, .int .i64 first), (3, .int .i64 now)]).run Tryd.prog W = .ok (.agg (enV (a, ⟨n, first, now, hrd⟩))) W := fun W => run_build W _ _ _ (built_en a n first now hrd)
      go_region_law (refine step_append_St kE H4.out 1 rfl rfl (.tmp 85) (.tmp 91) 81 (.agg (enV (zA 0, zBel))) 48 rfl Tryd.underlying81 infoE (enV_size _) (by decide) (by decide) (a, ⟨n, first, now, hrd⟩) (enL (a, ⟨n, first, now, hrd⟩)) (by first | (go_simp; done) | (go_simp; rfl)) (by first | (go_simp; done) | (go_simp; rfl)) rfl hbd ?_; intro v1 w4 HG4 HS9; obtain ⟨X1, c4, rfl⟩ := HG4.out.slice; have e0 := HS9.out.cellB 0 rfl 2 rfl; have e1 := HS9.out.cellB 0 rfl 1 rfl; have e3 := HS9.out.freeB 0 rfl 2; clear HG4)
      all_goals
        go_wp2_with fail
        go_ret2
        exact ⟨rfl, _, _, by rw [HHL.out]; exact rc_more HS9.out⟩
    · have hne : ((L.length : Int) == E) = false := by simpa using hfull
      have HHL : Hid (hearL E L a ⟨n, first, now, hrd⟩ = L ++ [(a, ⟨n, first, now, hrd⟩)]) := Lib.hid (by
        have e2 : roomL E L = L := by unfold roomL; rw [if_neg hfull]
        unfold hearL
        rw [e1, e2])
      have hbd : (L.length + 1) * 48 ≤ 140737488355328 := by omega
      clear hi hz e1 hfull
      go_wp2_with (first | (go_at_call 44; refine (HMT.out _).mono ?_; rintro e w2 ⟨rfl, hb⟩; replace HS3 := Lib.hid (HS3.out.below hb); clear hb) | (go_at_call 29; refine HGT.out.mono ?_; rintro e w1 ⟨rfl, hb⟩; replace HS := Lib.hid (HS.out.below hb); have c3 := HS.out.cellB 0 rfl 3 rfl; have f3 := HS.out.freeB 0 rfl 3; have hs3 := HS.out.setB 0 rfl 3 (.int .i64 now); have HS3 : Hid (St w0 (w1.setCell ⟨p, 3, none⟩ (.int .i64 now)) (RcSt.G ⟨p, B, c, _, A, now, L⟩ ++ (obB w.heap.size (aV a) 32 :: Δ))) := Lib.hid hs3; clear hb hs3) | (go_at_call 43; refine (HPL.out _ HS3.out).mono ?_; rintro e w3 ⟨rfl, hb⟩; replace HS3 := Lib.hid (HS3.out.below hb); have z4 : w3.cell? ⟨p, 2, none⟩ = some (.slice B L.length c) := HS3.out.cellB 0 rfl 2 rfl; have z5 := HS3.out.cellB 0 rfl 0 rfl; clear hb) | (have _g := HS3; (refine gate_ (.load 32 (.tmp 7)) rfl ?_; go_must (refine ld_A (.tmp 7) rfl rfl (range_A (HS3.out.get 2 rfl)) rfl ?_))) | (refine gate_ (.load 32 (.tmp 7)) rfl ?_; go_must (refine ld_A (.tmp 7) rfl rfl (range_A (HS.out.get 2 rfl)) rfl ?_)))
      go_region
      go_wp2_with fail
      have HSx := Lib.hid HS3.out.drew
      generalize w3.drew = Wx at HSx ⊢
      obtain ⟨Bx, hBx⟩ : ∃ Bx, Bx = B := ⟨_, rfl⟩
      obtain ⟨cx, hcx⟩ : ∃ cx, cx = c := ⟨_, rfl⟩
      subst hBx hcx
      have y2 := HSx.out.cellB 0 rfl 2 rfl
      have y2' := HSx.out.freeB 0 rfl 2
      have d2 : (Wx.alloc (.cells (enV (a, ⟨n, first, now, hrd⟩)) 87)).cell? ⟨p, 2, none⟩ = some (.slice Bx (L).length cx) := by
        rw [World.cell?_of_block (w := Wx) (heap_alloc_old Wx _ (World.block_lt_of_cell? Wx _ y2))]; exact y2
      have H4 := Lib.hid HSx.out.drew
      have hLDb : (loadVar 32 ⟨w.heap.size, 0, none⟩).run Tryd.prog Wx.drew = .ok (.agg (aV a)) Wx.drew := lvA (range_A (H4.out.get 2 rfl))
      have hBLD : ∀ W, (Instr.build 87 #[(0, .agg (aV a)), (1, .int .i64 n), (2, .int .i64 first), (3, .int .i64 now)]).run Tryd.prog W = .ok (.agg (enV (a, ⟨n, first, now, hrd⟩))) W := fun W => run_build W _ _ _ (built_en a n first now hrd)
      go_region_law (refine step_append_St kE H4.out 1 rfl rfl (.tmp 85) (.tmp 91) 81 (.agg (enV (zA 0, zBel))) 48 rfl Tryd.underlying81 infoE (enV_size _) (by decide) (by decide) (a, ⟨n, first, now, hrd⟩) (enL (a, ⟨n, first, now, hrd⟩)) (by first | (go_simp; done) | (go_simp; rfl)) (by first | (go_simp; done) | (go_simp; rfl)) rfl hbd ?_; intro v1 w4 HG4 HS9; obtain ⟨X1, c4, rfl⟩ := HG4.out.slice; have e0 := HS9.out.cellB 0 rfl 2 rfl; have e1 := HS9.out.cellB 0 rfl 1 rfl; have e3 := HS9.out.freeB 0 rfl 2; clear HG4)
      all_goals
        go_wp2_with fail
        go_ret2
        exact ⟨rfl, _, _, by rw [HHL.out]; exact rc_more HS9.out⟩
end
end Go.Proofs.YtdinkhhaomblcaaDoor.SL
