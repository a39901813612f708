/- span.Add: what it leaves: the join of the list and the span, or ErrArg. -/
import Derived.Test.YtmfckkgebdfhjaaQG1
import Derived.Test.YtmfckkgebdfhjaaQG3
namespace Go.Proofs.Ytmfckkgebdfhjaa.Q
open Go.RowKit Go.Proofs.YtmfckkgebdfhjaaW.PrintWords Go.Proofs.YtmfckkgebdfhjaaW.PrintLast Go.Proofs.YtmfckkgebdfhjaaW.PrintMore

theorem right_good : ∀ {l : List Sp} {a : Int}, rightFrom a l = true → ∀ s ∈ l, goodB s = true
  | [], _, _, s, hs => by cases hs
  | t :: l, a, h, s, hs => by
    rw [rightFrom_cons] at h
    rcases List.mem_cons.1 hs with rfl | hs
    · exact h.2.1
    · exact right_good h.2.2 s hs

set_option maxHeartbeats 4000000 in
theorem add_refused (A0 : Option Addr) (c0 : Nat) (l0 : List Sp) (a b : Int) (w : World) (hr0 : Kd.C k24 w A0 l0.length l0) (hc0 : l0.length ≤ c0) (hno : (rightB l0 && goodB ⟨a, b⟩) = false) :
    Calls Try.prog 17 #[.slice A0 l0.length c0, .agg #[.int .i64 a, .int .i64 b]] w fun e w' => e = .returned (.tuple #[.slice none 0 0, .int .i64 1]) ∧ Below w.heap.size w w' := by
  have hb1 : Below w.heap.size w (w.alloc (.cells #[.int .i64 a, .int .i64 b] 24)) := (Below.refl _ _).alloc (Nat.le_refl _) _
  have hk1 : (w.alloc (.cells #[.int .i64 a, .int .i64 b] 24)).heap[w.heap.size]? = some (.cells #[.int .i64 a, .int .i64 b] 24 (0, 0)) := heap_alloc_new w _
  have hr1 : Kd.C k24 (w.alloc (.cells #[.int .i64 a, .int .i64 b] 24)) A0 l0.length l0 := Kd.C_below hr0 hb1
  have HRC := Lib.hid (span_Right.calls (l0.length + 1) A0 c0 l0 (rightB l0) _ hr1 hc0 (right_eval l0 hr0.2.1 _ (by omega)))
  have HB := Lib.hid hb1
  have HK := Lib.hid hk1
  clear hr0 hc0 hr1 hb1 hk1
  cases hR : rightB l0 with
  | false =>
    rw [hR] at HRC
    clear hno
    go_enter Try.func17, Try.ntmps17
    go_wp2_with (go_at_call 13; refine HRC.out.mono ?_; rintro e w2 ⟨rfl, hb2⟩)
    go_ret2
    exact ⟨rfl, HB.out.trans (hb2.mono (by simp))⟩
  | true =>
    rw [hR] at HRC hno
    have hG : goodB ⟨a, b⟩ = false := by simpa using hno
    clear hno
    have HGC := Lib.hid (fun W => span_good.calls a b false W (by rw [good_eval, hG]))
    go_enter Try.func17, Try.ntmps17
    go_wp2_with fail
    refine HRC.out.mono ?_
    rintro e w2 ⟨rfl, hb2⟩
    have hk2 := (hb2.block w.heap.size (by simp)).trans HK.out
    have c0 : w2.cell? ⟨w.heap.size, 0, none⟩ = some (.int .i64 a) := cell_of_row w2 _ 0 _ _ _ hk2
    have c1 : w2.cell? ⟨w.heap.size, 1, none⟩ = some (.int .i64 b) := cell_of_row w2 _ 1 _ _ _ hk2
    have HB2 := Lib.hid (HB.out.trans (hb2.mono (by simp)))
    clear hb2 hk2
    go_wp2_with fail
    refine (HGC.out _).mono ?_
    rintro e w3 ⟨rfl, hb3⟩
    have HB3 := Lib.hid (HB2.out.trans (hb3.mono HB2.out.size))
    clear hb3
    go_wp2
    go_ret2
    exact ⟨rfl, HB3.out⟩

set_option maxHeartbeats 1000000 in
theorem add_taken (A0 : Option Addr) (c0 : Nat) (l0 : List Sp) (a b : Int) (w : World) (hr0 : Kd.C k24 w A0 l0.length l0) (hc0 : l0.length ≤ c0) (hR : rightB l0 = true) (hG : goodB ⟨a, b⟩ = true) (hlen : l0.length + 1 < 8796093022208) :
    Calls Try.prog 17 #[.slice A0 l0.length c0, .agg #[.int .i64 a, .int .i64 b]] w fun e w' => ∃ v0_ : Value, e = .returned (.tuple #[v0_, .int .i64 0]) ∧ Kd.R k24 24 w' w.heap.size (fun _ => True) v0_ (joinS (l0 ++ [⟨a, b⟩])) ∧ Below w.heap.size w w' := by
  have hb1 : Below w.heap.size w (w.alloc (.cells #[.int .i64 a, .int .i64 b] 24)) := (Below.refl _ _).alloc (Nat.le_refl _) _
  have hk1 : (w.alloc (.cells #[.int .i64 a, .int .i64 b] 24)).heap[w.heap.size]? = some (.cells #[.int .i64 a, .int .i64 b] 24 (0, 0)) := heap_alloc_new w _
  have hr1 : Kd.C k24 (w.alloc (.cells #[.int .i64 a, .int .i64 b] 24)) A0 l0.length l0 := Kd.C_below hr0 hb1
  have HRC := Lib.hid (span_Right.calls (l0.length + 1) A0 c0 l0 (rightB l0) _ hr1 hc0 (right_eval l0 hr0.2.1 _ (by omega)))
  have HR1 := Lib.hid hr1
  have HB := Lib.hid hb1
  have HK := Lib.hid hk1
  have HGA := Lib.hid (show ∀ s ∈ l0 ++ [⟨a, b⟩], goodB s = true from fun s hs => by
    rcases List.mem_append.1 hs with hs | hs
    · exact right_good hR s hs
    · rw [List.mem_singleton] at hs; subst hs; exact hG)
  have HGC := Lib.hid (fun W => span_good.calls a b true W (by rw [good_eval, hG]))
  have hmk := run_make_sp1 l0.length hlen
  rw [hR] at HRC
  clear hr0 hc0 hr1 hb1 hk1 hR hG
  go_enter Try.func17, Try.ntmps17
  go_wp2_with fail
  refine HRC.out.mono ?_
  rintro e w2 ⟨rfl, hb2⟩
  have hk2 := (hb2.block w.heap.size (by simp)).trans HK.out
  have e0 : w2.cell? ⟨w.heap.size, 0, none⟩ = some (.int .i64 a) := cell_of_row w2 _ 0 _ _ _ hk2
  have e1 : w2.cell? ⟨w.heap.size, 1, none⟩ = some (.int .i64 b) := cell_of_row w2 _ 1 _ _ _ hk2
  have HB2 := Lib.hid (HB.out.trans (hb2.mono (by simp)))
  have HR2 := Lib.hid (Kd.C_below HR1.out hb2)
  have HK2 := Lib.hid hk2
  clear hb2 hk2
  go_wp2_with fail
  refine (HGC.out _).mono ?_
  rintro e w3 ⟨rfl, hb3⟩
  have hlt : w.heap.size < w2.heap.size := (Array.getElem?_eq_some_iff.1 HK2.out).1
  have hk3 := (hb3.block w.heap.size hlt).trans HK2.out
  have HR3 := Lib.hid (Kd.C_below HR2.out hb3)
  have HB3 := Lib.hid (HB2.out.trans (hb3.mono HB2.out.size))
  have hlt3 : w.heap.size < w3.heap.size := (Array.getElem?_eq_some_iff.1 hk3).1
  have HK3 := Lib.hid hk3
  clear hb3 hk3 hlt e0 e1
  have hg4 := heap_alloc_new w3 (.cells (madeCells #[.int .i64 0, .int .i64 0] ((l0.length + 1) * 2)) 24)
  have hb4 : Below w3.heap.size w3 (w3.alloc (.cells (madeCells #[.int .i64 0, .int .i64 0] ((l0.length + 1) * 2)) 24)) := (Below.refl _ _).alloc (Nat.le_refl _) _
  have HG4 := Lib.hid hg4
  have HB4 := Lib.hid hb4
  clear hg4 hb4
  go_wp2_with ((with_reducible refine wpList_copy_all (o := ⟨some 23, _, _, _, _, _⟩) ?cg (.tmp 21) (.tmp 22) 22 22 ?co 24 Try.underlying22 2 info_size w3.heap.size l0.length (l0.length + 1) c0 A0 ?cd ?cs (madeCells #[.int .i64 0, .int .i64 0] ((l0.length + 1) * 2)) 24 HG4.out (flat l0) (by rw [size_madeCells]; omega) (flat_length _) ?c3 (flat_one _) ?c5))
  case cg => rfl
  case co => rfl
  case cd => rfl
  case cs => rfl
  case c3 =>
    intro h0
    exact C_flat (Kd.C_below HR3.out HB4.out) h0
  intro w5 hG5 hGR5
  have hg5 := hG5.out
  have hb5 : Below w3.heap.size w3 w5 := HB4.out.grown hGR5.out (by simp) (fun k h => by injection h with h; omega)
  clear hG5 hGR5
  have hk5 := (hb5.block w.heap.size hlt3).trans HK3.out
  have e0 : w5.cell? ⟨w.heap.size, 0, none⟩ = some (.int .i64 a) := cell_of_row w5 _ 0 _ _ _ hk5
  have e1 : w5.cell? ⟨w.heap.size, 1, none⟩ = some (.int .i64 b) := cell_of_row w5 _ 1 _ _ _ hk5
  have hsz5 : w3.heap.size ≤ w5.heap.size := hb5.size
  have hR5 : Kd.R k24 24 w5 w3.heap.size (fun _ => True) (.slice (some ⟨w3.heap.size, 0, none⟩) l0.length (l0.length + 1)) l0 := by
    rw [R_iff]
    refine ⟨fun _ _ => trivial, flat_length _, .inr ⟨w3.heap.size, l0.length + 1, _, rfl, Nat.le_refl _, hg5, by omega, by unfold maxLen; omega, ?_, ?_⟩⟩
    · simp [flat_length, size_madeCells]; omega
    · simp [flat_length]
  have HR5 := Lib.hid hR5
  have HB5 := Lib.hid hb5
  clear hR5 hb5 hg5 hk5
  go_wp2_with (at_builtin; refine Kd.R_append k24 (w0 := w3) w3.heap.size rfl (.tmp 24) (.tmp 26) 22 24 _ 16 rfl Try.underlying22 info24 rfl (by decide) (by decide) _ l0 ⟨a, b⟩ [.int .i64 a, .int .i64 b] (fun _ => True) (fun _ => False) rfl rfl (k24_mkM _ _ _ ⟨a, b⟩) (fun _ h => h.elim) (fun _ _ => trivial) HR5.out HB5.out hsz5 (by omega) ?_)
  intro v1 w6 hR6 hB6 _ _
  obtain ⟨A1, c1, rfl⟩ := own_slice (R_iff.1 hR6).2
  have HR6 := Lib.hid (Kd.R_reads' hR6).2.2
  have HB6 := Lib.hid (HB3.out.trans (hB6.mono HB3.out.size))
  have hlen6 : (l0 ++ [(⟨a, b⟩ : Sp)]).length < 8796093022208 := by simp; omega
  clear hR6 hB6 e0 e1
  have hl6 : (l0 ++ [(⟨a, b⟩ : Sp)]).length = l0.length + 1 := by simp
  have hj := joined_calls A1 c1 (l0 ++ [⟨a, b⟩]) w6 HR6.out hlen6 HGA.out
  rw [hl6] at hj ⊢
  have HJ := Lib.hid hj
  clear hj hl6 hlen6
  go_wp2_with fail
  refine HJ.out.mono ?_
  rintro e w7 ⟨v0, rfl, hR7, hB7⟩
  have HR7 := Lib.hid (Kd.R_lower hR7 HB6.out.size)
  have HB7 := Lib.hid (HB6.out.trans (hB7.mono HB6.out.size))
  clear hR7 hB7
  go_wp2
  go_ret2
  exact ⟨_, rfl, HR7.out, HB7.out⟩
end Go.Proofs.Ytmfckkgebdfhjaa.Q
