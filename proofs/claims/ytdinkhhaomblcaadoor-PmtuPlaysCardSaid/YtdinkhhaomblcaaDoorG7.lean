/- The walks of New and meant; the table of plateaus as an object. No condition but that the table stands in its variable. -/
import Derived.Test.YtdinkhhaomblcaaDoorG6
import Derived.Test.YtdinkhhaomblcaaDoorW1
import Derived.Carry
namespace Go.Proofs.YtdinkhhaomblcaaDoor.SL
open Go.RowKit Go.Proofs.YtdinkhhaomblcaaDoorW.PrintWords Go.Proofs.YtdinkhhaomblcaaDoorW.PrintLast Go.Proofs.YtdinkhhaomblcaaDoorW.PrintMore
theorem tab_lt {w : World} (h : Tab w) : 0 < w.heap.size := World.block_lt_of_cell? w _ h.1
theorem tab_same {w w' : World} (h : Tab w) (hb : w'.heap[0]? = w.heap[0]?) : Tab w' := by
  have hc : ∀ i, w'.cell? ⟨0, i, none⟩ = w.cell? ⟨0, i, none⟩ := fun i => World.cell?_of_block (w := w) hb
  unfold Tab at *
  simp only [hc]
  exact h
def obG : Ob where
  own := []
  all := [0]
  holds := Tab
  sub := fun _ h => by cases h
  lt := fun w h b hb => by obtain rfl := List.mem_singleton.1 hb; exact tab_lt h
  stab := fun w w' h hs => tab_same h (hs _ List.mem_cons_self)
/-- What a message means: the estimate, whether any. -/
def meantS (a : Ad) (mtu length : Int) : Int × Bool := if a.v = 6 then (mtu, decide (1280 ≤ mtu)) else if mtu = 0 then (below length, true) else (max mtu 68, true)
set_option maxHeartbeats 2000000 in
theorem meant_calls (a : Ad) (mtu length : Int) (w : World) (hT : Tab w) :
    Calls Tryd.prog 39 #[.agg (aV a), .int .i64 mtu, .int .i64 length] w fun e w' => e = .returned (.tuple #[.int .i64 (meantS a mtu length).1, .bool (meantS a mtu length).2]) ∧ Below w.heap.size w w' := by
  have HB : Hid (Below w.heap.size w (w.alloc (.cells (aV a) 32))) := Lib.hid ((Touch.refl [] w).alloc _).below
  have cV := cell_V (heap_alloc_new w (.cells (aV a) 32))
  have HT : Hid (Tab (w.alloc (.cells (aV a) 32))) := Lib.hid (tab_same hT (heap_alloc_old w _ (tab_lt hT)))
  clear hT
  go_enter Tryd.func39, Tryd.ntmps39
  by_cases h6 : a.v = 6
  · have b6 : (a.v == 6) = true := by simpa using h6
    have HM := Lib.hid (show meantS a mtu length = (mtu, decide (1280 ≤ mtu)) from if_pos h6)
    clear h6
    go_wp2_with fail
    go_ret2
    exact ⟨by rw [HM.out]; rfl, HB.out⟩
  · have b6 : (a.v == 6) = false := by simpa using h6
    by_cases h0 : mtu = 0
    · subst h0
      have HM := Lib.hid (show meantS a 0 length = (below length, true) by unfold meantS; rw [if_neg h6, if_pos rfl])
      clear h6
      go_wp2_with (go_at_call 52; refine (below_any _ _ HT.out).mono ?_; rintro e w1 ⟨rfl, rfl⟩)
      go_ret2
      exact ⟨by rw [HM.out]; rfl, HB.out⟩
    · have b0 : (mtu == 0) = false := by simpa using h0
      have HM := Lib.hid (show meantS a mtu length = (max mtu 68, true) by unfold meantS; rw [if_neg h6, if_neg h0])
      clear h6 h0
      go_wp2_with fail
      go_ret2
      exact ⟨by rw [HM.out]; rfl, HB.out⟩
theorem built_ca (E A : Int) (m : Nat) : Tryd.prog.built 80 [(0, .agg #[.int .i64 E, .int .i64 A]), (1, .map (some m))] = some (caV m ⟨E, A, [], 0, 0⟩) := by kernel_rfl
abbrev paV (E A : Int) : Value := .agg #[.int .i64 E, .int .i64 A]
set_option maxHeartbeats 2000000 in
theorem new_no (E A : Int) (w : World) (h : E < 1 ∨ 64 < E ∨ A < 1 ∨ 1099511627776 < A) :
    Calls Tryd.prog 10 #[paV E A] w fun e w' => e = .returned (.tuple #[.pointer none, .int .i64 1]) ∧ Below w.heap.size w w' := by
  have HB : Hid (Below w.heap.size w (w.alloc (.cells #[.int .i64 E, .int .i64 A] 29))) := Lib.hid ((Touch.refl [] w).alloc _).below
  go_enter Tryd.func10, Tryd.ntmps10
  by_cases h1 : E < 1
  · clear h
    go_wp2_with fail
    go_ret2
    exact ⟨rfl, HB.out⟩
  by_cases h2 : E > 64
  · clear h
    go_wp2_with fail
    go_ret2
    exact ⟨rfl, HB.out⟩
  by_cases h3 : A < 1
  · clear h
    go_wp2_with fail
    go_ret2
    exact ⟨rfl, HB.out⟩
  have h4 : A > 1099511627776 := by omega
  clear h
  go_wp2_with fail
  go_ret2
  exact ⟨rfl, HB.out⟩
set_option maxHeartbeats 2000000 in
theorem new_yes (E A : Int) (w : World) (h1 : ¬ E < 1) (h2 : ¬ E > 64) (h3 : ¬ A < 1) (h4 : ¬ A > 1099511627776) :
    Calls Tryd.prog 10 #[paV E A] w fun e w' => ∃ p b, e = .returned (.tuple #[.pointer (some ⟨p, 0, none⟩), .int .i64 0]) ∧ CaAt w' p b ⟨E, A, [], 0, 0⟩ ∧ Below w.heap.size w w' ∧ w.heap.size ≤ p ∧ w.heap.size ≤ b := by
  have HB : Hid (Below w.heap.size w (w.alloc (.cells #[.int .i64 E, .int .i64 A] 29))) := Lib.hid ((Touch.refl [] w).alloc _).below
  have hmm := @run_makeMap Tryd.prog
  go_enter Tryd.func10, Tryd.ntmps10
  go_wp2_with fail
  go_ret2
  have q1 := (Touch.refl [] w).alloc (.cells #[.int .i64 E, .int .i64 A] 29)
  have q2 := q1.alloc (.map #[] 0)
  have q3 := q2.alloc (.cells (caV (w.heap.size + 1) ⟨E, A, [], 0, 0⟩) 80)
  have hs1 : (w.alloc (.cells #[.int .i64 E, .int .i64 A] 29)).heap.size = w.heap.size + 1 := by simp
  have hs2 : ((w.alloc (.cells #[.int .i64 E, .int .i64 A] 29)).alloc (.map #[] 0)).heap.size = w.heap.size + 1 + 1 := by simp
  have g2 := heap_alloc_new ((w.alloc (.cells #[.int .i64 E, .int .i64 A] 29)).alloc (.map #[] 0)) (.cells (caV (w.heap.size + 1) ⟨E, A, [], 0, 0⟩) 80)
  rw [hs2] at g2
  have g1 := MpAt.made (w.alloc (.cells #[.int .i64 E, .int .i64 A] 29))
  rw [hs1] at g1
  exact ⟨_, rfl, _, ⟨g2, g1.same (heap_alloc_old _ _ (by rw [hs2]; omega)), by omega⟩, q3.below, by omega, by omega⟩
section
variable {w0 w : World} {Γ : List Ob}
theorem c_new_no (h : St w0 w Γ) (E A : Int) (hb : E < 1 ∨ 64 < E ∨ A < 1 ∨ 1099511627776 < A) :
    Calls Tryd.prog 10 #[paV E A] w fun e w' => e = .returned (.tuple #[.pointer none, .int .i64 1]) ∧ St w0 w' Γ :=
  (new_no E A w hb).mono fun _ _ ⟨he, hb⟩ => ⟨he, h.below hb⟩
theorem c_new_yes (h : St w0 w Γ) (E A : Int) (hb : ¬ (E < 1 ∨ 64 < E ∨ A < 1 ∨ 1099511627776 < A)) :
    Calls Tryd.prog 10 #[paV E A] w fun e w' => ∃ p b, e = .returned (.tuple #[.pointer (some ⟨p, 0, none⟩), .int .i64 0]) ∧ St w0 w' (Γ ++ [obC p b ⟨E, A, [], 0, 0⟩]) :=
  (new_yes E A w (fun h => hb (.inl h)) (fun h => hb (.inr (.inl h))) (fun h => hb (.inr (.inr (.inl h)))) (fun h => hb (.inr (.inr (.inr h))))).mono fun _ _ ⟨p, b, he, hc, hbl, hp, hb⟩ => ⟨p, b, he,
    h.add hbl [obC p b ⟨E, A, [], 0, 0⟩] (fun o ho => by obtain rfl := List.mem_singleton.1 ho; exact hc) (fun o ho x hx => by
      obtain rfl := List.mem_singleton.1 ho
      rcases List.mem_cons.1 (show x ∈ [p, b] from hx) with rfl | hx
      · exact hp
      · obtain rfl := List.mem_singleton.1 hx
        exact hb) (List.pairwise_singleton _ _)⟩
end
end Go.Proofs.YtdinkhhaomblcaaDoor.SL
