/- What PmtuBounds asks, in plain Lean; the statements' floor. No condition. -/
import Derived.Test.YtdinkhhaomblcaaDoorGF
namespace Go.Proofs.YtdinkhhaomblcaaDoor.SL
open Go.RowKit Go.Proofs.YtdinkhhaomblcaaDoorW.PrintWords Go.Proofs.YtdinkhhaomblcaaDoorW.PrintLast Go.Proofs.YtdinkhhaomblcaaDoorW.PrintMore
theorem floor2_calls (a : Ad) (w : World) : Calls Tryd.prog 25 #[.agg (aV a)] w fun e w' => e = .returned (.int .i64 (floorA a)) ∧ Below w.heap.size w w' := by
  have HB : Hid (Below w.heap.size w (w.alloc (.cells (aV a) 32))) := Lib.hid ((Touch.refl [] w).alloc _).below
  have cV := cell_V (heap_alloc_new w (.cells (aV a) 32))
  go_enter Tryd.func25, Tryd.ntmps25
  by_cases h6 : a.v = 6
  · have b6 : (a.v == 6) = true := by simpa using h6
    have HF := Lib.hid (show floorA a = 1280 from if_pos h6)
    clear h6
    go_wp2_with fail
    go_ret
    exact ⟨by rw [HF.out]; rfl, HB.out⟩
  · have b6 : (a.v == 6) = false := by simpa using h6
    have HF := Lib.hid (show floorA a = 68 from if_neg h6)
    clear h6
    go_wp2_with fail
    go_ret
    exact ⟨by rw [HF.out]; rfl, HB.out⟩
/-- Behind Hear, of a cache that has heard nothing: what its two Ticks tell. -/
structure BndC (A now : Int) (c : Ca) : Prop where
  ok : OkC c
  ab : AllB c
  nn : c.now = 0 ∨ c.now = now
  hr : c.hrd < 2
  du : ∀ x ∈ c.M, x.2.clk = now
  a : c.A = A
theorem bnd_hear {E A : Int} (hb : ¬ (E < 1 ∨ 64 < E ∨ A < 1 ∨ 1099511627776 < A)) {a : Ad} (ha : BOk a) (first mtu length now : Int) : BndC A now (hearS ⟨E, A, [], 0, 0⟩ a first (meantS a mtu length).1 (meantS a mtu length).2 now).2.2 := by
  have hok := hear_ok (okNew hb) (a := a) (first := first) (now := now) (meant_68 a mtu length)
  refine ⟨hok, ?_, ?_, ?_, ?_, ?_⟩ <;> unfold hearS <;> split <;> try split
  all_goals first
    | exact fun x hx => by cases hx
    | exact .inl rfl
    | exact .inr rfl
    | exact rfl
    | (show (0 : Int) < 2; decide)
    | (show (0 : Int) + 1 < 2; decide)
    | (intro x hx
       have e : forgetS ⟨E, A, [], 0, 0⟩ = [] := by unfold forgetS delM idxM; rfl
       have e2 : (if (lookM ([] : Mp) a).isNone = true ∧ E ≤ (([] : Mp).length : Int) then forgetS ⟨E, A, [], 0, 0⟩ else []) = [] := by rw [e]; split <;> rfl
       simp only [e2] at hx
       obtain rfl := List.mem_singleton.1 (show x ∈ [(a, (⟨_, first, now, 0 + 1⟩ : Bel))] from hx)
       first | exact ha | rfl)
theorem bnd_err {E A : Int} {a : Ad} {first n : Int} {is : Bool} {now : Int} : (hearS ⟨E, A, [], 0, 0⟩ a first n is now).2.1 = if (getS [] a first).2 = 0 ∧ (0 ≤ now ∧ now ≤ 1099511627776) then 0 else 1 := by
  have hm : mayS ⟨E, A, [], 0, 0⟩ now = decide (0 ≤ now ∧ now ≤ 1099511627776) := rfl
  unfold hearS
  by_cases h1 : (getS [] a first).2 ≠ 0 ∨ mayS ⟨E, A, [], 0, 0⟩ now = false
  · rw [if_pos h1, if_neg]
    rintro ⟨q1, q2⟩
    rcases h1 with h1 | h1
    · exact h1 q1
    · rw [hm] at h1
      exact of_decide_eq_false h1 q2
  · rw [if_neg h1]
    have q1 : (getS [] a first).2 = 0 := Classical.byContradiction fun e => h1 (.inl e)
    have q2 : 0 ≤ now ∧ now ≤ 1099511627776 := Classical.byContradiction fun e => h1 (.inr (by rw [hm]; exact decide_eq_false e))
    have e : (if (getS [] a first).2 = 0 ∧ (0 ≤ now ∧ now ≤ 1099511627776) then (0 : Int) else 1) = 0 := if_pos ⟨q1, q2⟩
    rw [e]
    split <;> rfl
theorem bnd_fell {E A : Int} {a : Ad} {first n : Int} {is : Bool} {now : Int} (h : (hearS ⟨E, A, [], 0, 0⟩ a first n is now).2.1 ≠ 0) : (hearS ⟨E, A, [], 0, 0⟩ a first n is now).1 = false := by
  unfold hearS at *
  split at h
  · rename_i h1
    rw [if_pos h1]
  · split at h
    · exact absurd rfl h
    · exact absurd rfl h
theorem BndC.tick1 {A now : Int} {c : Ca} (h : BndC A now c) (hc : 0 ≤ now ∧ now ≤ 1099511627776) : tickS c above now = (0, { c with now := now, M := c.M.filterMap (rise c.A now above) }) ∧ tickL c now = [] := by
  have hm : mayS c now = true := decide_eq_true ⟨by rcases h.nn with e | e <;> omega, hc.2⟩
  have hd : dueS c.A now c.M = [] := by
    have h1 := h.ok.a1
    unfold dueS
    rw [List.map_eq_nil_iff, List.filter_eq_nil_iff]
    intro x hx
    rw [h.du x hx]
    simp
    omega
  constructor
  · unfold tickS; rw [if_neg (by rw [hm]; decide)]
  · unfold tickL; rw [if_neg (by rw [hm]; decide), hd]; rfl
theorem BndC.tick0 {A now : Int} {c : Ca} (h : BndC A now c) (hc : ¬ (0 ≤ now ∧ now ≤ 1099511627776)) : tickS c above now = (1, c) ∧ tickL c now = [] := by
  have hm : mayS c now = false := decide_eq_false (fun e => hc ⟨by rcases h.nn with q | q <;> rcases e with ⟨e1, e2⟩ <;> have := h.ok.n0 <;> omega, e.2⟩)
  exact ⟨if_pos hm, if_pos hm⟩
/-- Are the bytes from 4 on, ahead of k, all zero? -/
def zq (a : Ad) (k : Nat) : Bool := ((a.b.drop 4).take (k - 4)).all (· == 0)
theorem zq_step (a : Ad) {k : Nat} (h4 : 4 ≤ k) (h16 : k < 16) : zq a (k + 1) = (zq a k && (a.b.getD k 0 == 0)) := by
  have hl : k - 4 < (a.b.drop 4).length := by rw [List.length_drop, a.hb]; omega
  unfold zq
  rw [show k + 1 - 4 = (k - 4) + 1 by omega, List.take_succ_eq_append_getElem hl, List.all_append, List.getElem_drop]
  have : a.b[4 + (k - 4)]'(by rw [a.hb]; omega) = a.b.getD k 0 := by
    rw [List.getD_eq_getElem?_getD, List.getElem?_eq_getElem (by rw [a.hb]; exact h16)]
    simp only [Option.getD_some]
    congr 1
    omega
  rw [this]
  simp
theorem zq_end {a : Ad} (h : a.v = 4) : validA a = zq a 16 := by
  unfold validA bitsA zq
  rw [if_pos h, List.take_of_length_le (by rw [List.length_drop, a.hb]; decide)]
  cases (a.b.drop 4).all (· == 0) <;> rfl
end Go.Proofs.YtdinkhhaomblcaaDoor.SL
