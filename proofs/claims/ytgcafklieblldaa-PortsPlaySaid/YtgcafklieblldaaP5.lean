/- The walks of the document's At, Find, New, All. No condition but sizes. -/
import Derived.Test.YtgcafklieblldaaP4
namespace Go.Proofs.Ytgcafklieblldaa.SL
open Go.RowKit Go.Proofs.YtgcafklieblldaaW.PrintWords Go.Proofs.YtgcafklieblldaaW.PrintLast Go.Proofs.YtgcafklieblldaaW.PrintMore
attribute [-go_sem] loadVar storeVar
attribute [local go_sem] lv3 lv69
set_option maxHeartbeats 2000000 in
theorem atR_calls (p : Nat) (v : Value) (most g : Int) (l : List Bd) (n : Int) (w : World) (h : UAt w p v most g l) (hl : (l.length : Int) ≤ 1000) :
    Calls Try.prog 27 #[.pointer (some ⟨p, 0, none⟩), .int .i64 n] w fun e w' => e = .returned (.tuple #[.agg (aV (atB l n).1), .int .i64 (atB l n).2.1, .int .i64 (atB l n).2.2]) ∧ Below w.heap.size w w' := by
  have hB0 : Below w.heap.size w (w.alloc (.cells z17 32)) := ((Touch.refl [] w).alloc _).below
  have hT := h.below hB0
  have hX := heap_alloc_new w (.cells z17 32)
  have hs := lt_of_block hX
  have HC : Hid (Calls Try.prog 35 #[.pointer (some ⟨p, 0, none⟩), .int .i64 n] (w.alloc (.cells z17 32)) fun e w' => e = .returned (.int .i64 (idxB l n)) ∧ Hid (Below w.heap.size w w') ∧ Hid (w'.heap[w.heap.size]? = some (.cells z17 32 (0, 0))) ∧ Hid (UAt w' p v most g l)) := Lib.hid ((place_calls p v most g l n _ hT hl).mono fun e w' hh =>
      ⟨hh.1, Lib.hid (hB0.trans (hh.2.mono hB0.size)), Lib.hid ((hh.2.block _ hs).trans hX), Lib.hid (hT.below hh.2)⟩)
  have HC0 : ∃ _ : True, ∀ k x, l[k]? = some x → ∃ g c, v = .slice (some ⟨g, 0, none⟩) l.length c ∧ p ≠ w.heap.size ∧ g ≠ w.heap.size := ⟨trivial, fun k x hk => by obtain ⟨g, c, e, _, hg⟩ := RS_at h.row k x hk; exact ⟨g, c, e, Nat.ne_of_lt (lt_of_block h.st), Nat.ne_of_lt hg⟩⟩
  obtain ⟨_, HC0⟩ := HC0
  clear h hT hX hs hB0
  go_enter Try.func27, Try.ntmps27
  by_cases hq : idxB l n < 0
  · have hd : decide (idxB l n < 0) = true := decide_eq_true hq
    have HA := Lib.hid (atB_no hq)
    generalize idxB l n = f at HC hd
    clear hq
    go_wp2_with (first | (go_at_call 35; refine HC.out.mono ?_; rintro e w' ⟨rfl, hb', hX', hT'⟩) | (refine gate_ (.store 32 (.tmp 4) (.tmp 13)) rfl ?_; go_must (refine st_Arow (.tmp 4) (.tmp 13) rfl rfl (z := zA 0) hX'.out rfl rfl rfl ?_)))
    refine bodyPost_ret (results_cell_row3 rfl _ _ w.heap.size _ (aV (zA 0)) _ _ rfl (setRow_heap _ _ _ _ _ _ hX'.out) Try.underlying32 rfl (by rw [aV_size]; exact sizA)) rfl ?_
    refine ⟨by rw [HA.out]; rfl, Below.setRow hb'.out (Nat.le_refl _) _⟩
  · obtain ⟨k, hk⟩ : ∃ k : Nat, idxB l n = k := ⟨(idxB l n).toNat, by omega⟩
    obtain ⟨x, hx, _, hA⟩ := atB_yes hk
    obtain ⟨gr, c, rfl, hn⟩ := (HC0 k x hx)
    have HN := Lib.hid hn
    clear hn
    rw [hk] at HC
    have hd : decide ((k : Int) < 0) = false := decide_eq_false (by omega)
    have HA := Lib.hid hA
    have HX := Lib.hid hx
    have hkl : (k : Int) < (l.length : Int) := by have := (List.getElem?_eq_some_iff.1 hx).1; omega
    have HC2 : Hid (Calls Try.prog 35 #[.pointer (some ⟨p, 0, none⟩), .int .i64 n] (w.alloc (.cells z17 32)) fun e w' => e = .returned (.int .i64 (k : Int)) ∧ w'.cell? ⟨p, 2, none⟩ = some (.slice (some ⟨gr, 0, none⟩) l.length c) ∧ w'.cell? ⟨gr, k * 19 + 18, none⟩ = some (.int .i64 x.p.port) ∧ Hid (w'.rangeAt gr (k * 19 + 1) (aL x.p.a)) ∧ Hid (w'.heap[w.heap.size]? = some (.cells z17 32 (0, 0))) ∧ Hid (Below w.heap.size w w')) := Lib.hid (HC.out.mono fun e w' hh => by
      obtain ⟨h1, h2, h3, h4⟩ := hh
      have h5 := cell_of_row _ _ 2 _ _ _ h4.out.st
      obtain ⟨g2, c2, e2, h6, _⟩ := RS_at h4.out.row k x hx
      injection e2 with e3 _ e4
      injection e3 with e3
      injection e3 with e3
      subst e3 e4
      exact ⟨h1, h5, cell_pB h6, Lib.hid (range_aB h6), h3, h2⟩)
    clear hq hk hx hA HC HC0
    go_wp2_with (first | (go_at_call 35; refine HC2.out.mono ?_; rintro e w' ⟨rfl, c2, cp, hR, hX', hb'⟩))
    have hLD : ∀ W : World, W.rangeAt gr (k * 19 + 1) (aL x.p.a) → (loadVar 32 ⟨gr, k * 19 + 1, none⟩).run Try.prog W = .ok (.agg (aV x.p.a)) W := fun W h => lvA h
    have hSV : (storeVar 32 ⟨w.heap.size, 0, none⟩ (.agg (aV x.p.a))).run Try.prog w'.drew = .ok () (w'.drew.setRow w.heap.size (aV x.p.a)) := svA hX'.out rfl
    go_region_held3 (fun W => W.cell? ⟨p, 2, none⟩ = some (.slice (some ⟨gr, 0, none⟩) l.length c) ∧ W.cell? ⟨gr, k * 19 + 18, none⟩ = some (.int .i64 x.p.port) ∧ W.rangeAt gr (k * 19 + 1) (aL x.p.a)) (first | exact ⟨c2, cp, hR.out⟩ | exact ⟨cell_setRow (w := w'.drew) c2 HN.out.1, cell_setRow (w := w'.drew) cp HN.out.2, range_setRow (w := w'.drew) hR.out HN.out.2⟩) (first | fail)
    go_wp2_with fail
    refine bodyPost_ret (results_cell_row3 rfl _ _ w.heap.size _ (aV x.p.a) _ _ rfl (setRow_heap w'.drew _ _ _ _ _ hX'.out) Try.underlying32 rfl (by rw [aV_size]; exact sizA)) rfl ?_
    refine ⟨by rw [HA.out]; rfl, Below.setRow (Below.drew hb'.out) (Nat.le_refl _) _⟩
/-- Behind a call that tells a place: the number there. -/
abbrev RNum (w w2 : World) (p gr c n k : Nat) (x : Int) : Prop := w2.cell? ⟨p, 2, none⟩ = some (.slice (some ⟨gr, 0, none⟩) n c) ∧ w2.cell? ⟨gr, k * 19, none⟩ = some (.int .i64 x) ∧ Hid (Below w.heap.size w w2)
theorem rnum {w w2 : World} {p gr c k : Nat} {most g : Int} {l : List Bd} {x : Bd} (h : UAt w2 p (.slice (some ⟨gr, 0, none⟩) l.length c) most g l) (hk : l[k]? = some x) (hb : Below w.heap.size w w2) : RNum w w2 p gr c l.length k x.n := by
  obtain ⟨g2, c2, e2, h6, _⟩ := RS_at h.row k x hk
  injection e2 with e3 _ e4
  injection e3 with e3
  injection e3 with e3
  subst e3 e4
  exact ⟨cell_of_row _ _ 2 _ _ _ h.st, h6 0 _ rfl, Lib.hid hb⟩
set_option maxHeartbeats 2000000 in
theorem findR_calls (p : Nat) (v : Value) (most g : Int) (l : List Bd) (a : Ad) (port : Int) (w : World) (h : UAt w p v most g l) (hl : (l.length : Int) ≤ 1000) (hwf : WF l g) :
    Calls Try.prog 26 #[.pointer (some ⟨p, 0, none⟩), .agg (aV a), .int .i64 port] w fun e w' => e = .returned (.int .i64 (findP l a port)) ∧ Below w.heap.size w w' := by
  have hB0 : Below w.heap.size w (w.alloc (.cells (aV a) 32)) := ((Touch.refl [] w).alloc _).below
  have HT := Lib.hid (h.below hB0)
  have HB := Lib.hid hB0
  clear h hB0
  go_enter Try.func26, Try.ntmps26
  have HR := Lib.hid (range_A (heap_alloc_new w (.cells (aV a) 32)))
  have hV := cell_of_row _ _ 0 _ _ _ (heap_alloc_new w (.cells (aV a) 32))
  replace hV : (w.alloc (.cells (aV a) 32)).cell? ⟨w.heap.size, 0, none⟩ = some (.int .i64 a.v) := hV
  have hs : w.heap.size < (w.alloc (.cells (aV a) 32)).heap.size := lt_of_block (heap_alloc_new w _)
  have HE : ∀ (x : Pl) (k : Nat), jx l x = (k : Int) → ∃ s, l[k]? = some s ∧ s.p = x ∧ findB l x = s.n := fun x k h => jx_pos h
  by_cases hq : jx l ⟨a, port⟩ < 0
  · have hf : findP l a port = findB l ⟨zA a.v, port⟩ := by
      unfold findP
      rw [if_neg (by rw [(jx_neg hq).2]; omega)]
    have hd : decide (jx l ⟨a, port⟩ < 0) = true := decide_eq_true hq
    have HC : Hid (Calls Try.prog 34 #[.pointer (some ⟨p, 0, none⟩), .agg (aV a), .int .i64 port] (w.alloc (.cells (aV a) 32)) fun e w' => e = .returned (.int .i64 (jx l ⟨a, port⟩)) ∧ w'.cell? ⟨w.heap.size, 0, none⟩ = some (.int .i64 a.v) ∧ Hid (Below (w.alloc (.cells (aV a) 32)).heap.size (w.alloc (.cells (aV a) 32)) w')) := Lib.hid ((just_calls p v most g l a port _ HT.out hl).mono fun e w' hh => ⟨hh.1, (World.cell?_of_block (hh.2.block w.heap.size hs)).trans hV, Lib.hid hh.2⟩)
    generalize jx l ⟨a, port⟩ = f at HC hd
    by_cases hq2 : jx l ⟨zA a.v, port⟩ < 0
    · have HF := Lib.hid (hf.trans (jx_neg hq2).2)
      have hd2 : decide (jx l ⟨zA a.v, port⟩ < 0) = true := decide_eq_true hq2
      have HC2 : Hid (∀ w' : World, Below (w.alloc (.cells (aV a) 32)).heap.size (w.alloc (.cells (aV a) 32)) w' → Calls Try.prog 34 #[.pointer (some ⟨p, 0, none⟩), .agg (aV (zA a.v)), .int .i64 port] w' fun e w2 => e = .returned (.int .i64 (jx l ⟨zA a.v, port⟩)) ∧ Below w'.heap.size w' w2) := Lib.hid fun w' hb => just_calls p v most g l (zA a.v) port w' (HT.out.below hb) hl
      generalize jx l ⟨zA a.v, port⟩ = f2 at HC2 hd2
      clear hq hq2 hf HE hV hs hl hwf
      go_wp2_with (first | (refine gate_ (.load 32 (.tmp 4)) rfl ?_; go_must (refine ld_A (.tmp 4) rfl rfl HR.out rfl ?_)) | (go_at_call 34; with_reducible refine HC.out.mono ?_; rintro e w' ⟨rfl, c0, hb'⟩) | (refine gate_ (.build 32 #[(0, .tmp 16)]) rfl ?_; go_must (refine wpList_buildA rfl 32 #[(0, .tmp 16)] rfl [(0, .int .i64 a.v)] rfl (built_z a.v) ?_)) | (go_at_call 34; refine (HC2.out _ hb'.out).mono ?_; rintro e w2 ⟨rfl, hb2⟩))
      go_ret
      exact ⟨by rw [HF.out]; rfl, HB.out.trans ((hb'.out.trans (hb2.mono hb'.out.size)).mono HB.out.size)⟩
    · obtain ⟨k, hk⟩ : ∃ k : Nat, jx l ⟨zA a.v, port⟩ = k := ⟨(jx l ⟨zA a.v, port⟩).toNat, by omega⟩
      obtain ⟨x, hx, _, hn⟩ := HE _ k hk
      have HF := Lib.hid (hf.trans hn)
      obtain ⟨gr, c, rfl, _, _⟩ := RS_at HT.out.row k x hx
      have hkl : (k : Int) < (l.length : Int) := by have := (List.getElem?_eq_some_iff.1 hx).1; omega
      have hd2 : decide ((k : Int) < 0) = false := decide_eq_false (by omega)
      have HC2 : Hid (∀ w' : World, Below (w.alloc (.cells (aV a) 32)).heap.size (w.alloc (.cells (aV a) 32)) w' → Calls Try.prog 34 #[.pointer (some ⟨p, 0, none⟩), .agg (aV (zA a.v)), .int .i64 port] w' fun e w2 => e = .returned (.int .i64 (k : Int)) ∧ RNum w' w2 p gr c l.length k x.n) := Lib.hid fun w' hb => (just_calls p _ most g l (zA a.v) port w' (HT.out.below hb) hl).mono fun e w2 hh => ⟨by rw [hh.1, hk], rnum ((HT.out.below hb).below hh.2) hx hh.2⟩
      clear hq hq2 hf HE hV hs hl hwf hk hx hn
      go_wp2_with (first | (refine gate_ (.load 32 (.tmp 4)) rfl ?_; go_must (refine ld_A (.tmp 4) rfl rfl HR.out rfl ?_)) | (go_at_call 34; with_reducible refine HC.out.mono ?_; rintro e w' ⟨rfl, c0, hb'⟩) | (refine gate_ (.build 32 #[(0, .tmp 16)]) rfl ?_; go_must (refine wpList_buildA rfl 32 #[(0, .tmp 16)] rfl [(0, .int .i64 a.v)] rfl (built_z a.v) ?_)) | (go_at_call 34; refine (HC2.out _ hb'.out).mono ?_; rintro e w2 ⟨rfl, c2, c3, hb2⟩))
      go_ret
      exact ⟨by rw [HF.out]; rfl, HB.out.trans ((hb'.out.trans (hb2.out.mono hb'.out.size)).mono HB.out.size)⟩
  · obtain ⟨k, hk⟩ : ∃ k : Nat, jx l ⟨a, port⟩ = k := ⟨(jx l ⟨a, port⟩).toNat, by omega⟩
    obtain ⟨x, hx, _, hn⟩ := HE _ k hk
    have hf : findP l a port = findB l ⟨a, port⟩ := if_pos ((jx_find hwf _).1 (by omega))
    have HF := Lib.hid (hf.trans hn)
    obtain ⟨gr, c, rfl, _, _⟩ := RS_at HT.out.row k x hx
    have hkl : (k : Int) < (l.length : Int) := by have := (List.getElem?_eq_some_iff.1 hx).1; omega
    have hd2 : decide ((k : Int) < 0) = false := decide_eq_false (by omega)
    have HC : Hid (Calls Try.prog 34 #[.pointer (some ⟨p, 0, none⟩), .agg (aV a), .int .i64 port] (w.alloc (.cells (aV a) 32)) fun e w2 => e = .returned (.int .i64 (k : Int)) ∧ RNum (w.alloc (.cells (aV a) 32)) w2 p gr c l.length k x.n) := Lib.hid ((just_calls p _ most g l a port _ HT.out hl).mono fun e w2 hh => ⟨by rw [hh.1, hk], rnum (HT.out.below hh.2) hx hh.2⟩)
    clear hq hf HE hV hs hl hwf hk hx hn
    go_wp2_with (first | (refine gate_ (.load 32 (.tmp 4)) rfl ?_; go_must (refine ld_A (.tmp 4) rfl rfl HR.out rfl ?_)) | (go_at_call 34; refine HC.out.mono ?_; rintro e w' ⟨rfl, c2, c3, hb2⟩) | (refine gate_ (.build 32 #[(0, .tmp 16)]) rfl ?_; go_must (refine wpList_buildA rfl 32 #[(0, .tmp 16)] rfl [(0, .int .i64 a.v)] rfl (built_z a.v) ?_)))
    go_ret
    exact ⟨by rw [HF.out]; rfl, HB.out.trans (hb2.out.mono HB.out.size)⟩
end Go.Proofs.Ytgcafklieblldaa.SL
