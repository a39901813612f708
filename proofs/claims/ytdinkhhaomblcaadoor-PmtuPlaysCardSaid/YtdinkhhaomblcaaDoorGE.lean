/- The walk of alive. No condition but that the table stands in its variable. -/
import Derived.Test.YtdinkhhaomblcaaDoorGD
namespace Go.Proofs.YtdinkhhaomblcaaDoor.SL
open Go.RowKit Go.Proofs.YtdinkhhaomblcaaDoorW.PrintWords Go.Proofs.YtdinkhhaomblcaaDoorW.PrintLast Go.Proofs.YtdinkhhaomblcaaDoorW.PrintMore
theorem okNew {E A : Int} (hb : ¬ (E < 1 ∨ 64 < E ∨ A < 1 ∨ 1099511627776 < A)) : OkC ⟨E, A, [], 0, 0⟩ :=
  ⟨by show 1 ≤ E; omega, by show E ≤ 64; omega, by show 1 ≤ A; omega, by show A ≤ 1099511627776; omega, Int.le_refl _, by show (0 : Int) ≤ 1099511627776; decide, Int.le_refl _, by show (0 : Int) ≤ E; omega, List.nodup_nil, by simp, by simp⟩
def AllB (c : Ca) : Prop := ∀ x ∈ c.M, BOk x.1
section
variable {w0 w : World} {Γ : List Ob} {p b : Nat} {c : Ca}
theorem c_hearK (h : St w0 w Γ) (i : Nat) (hi : Γ[i]? = some (obC p b c)) (g : Nat) (hg : Γ[g]? = some obG) (hk : OkC c) (hh : c.hrd < 4000000000000000000) (a : Ad) (first mtu length now : Int) {f : Bool} {e : Int} {c' : Ca} (hr : hearS c a first (meantS a mtu length).1 (meantS a mtu length).2 now = (f, e, c')) :
    Calls Tryd.prog 27 (hrA p a first mtu length now) w fun r w' => r = .returned (.tuple #[.bool f, .int .i64 e]) ∧ St w0 w' (Γ.set i (obC p b c')) := by
  have := c_hear h i hi g hg hk hh a first mtu length now
  rwa [hr] at this
theorem c_getK (h : St w0 w Γ) (i : Nat) (hi : Γ[i]? = some (obC p b c)) (a : Ad) (first : Int) {n e : Int} (hr : getS c.M a first = (n, e)) :
    Calls Tryd.prog 26 #[.pointer (some ⟨p, 0, none⟩), .agg (aV a), .int .i64 first] w fun r w' => r = .returned (.tuple #[.int .i64 n, .int .i64 e]) ∧ St w0 w' Γ := by
  have := c_get h i hi a first
  rwa [hr] at this
theorem c_tickK (h : St w0 w Γ) (i : Nat) (hi : Γ[i]? = some (obC p b c)) (g : Nat) (hg : Γ[g]? = some obG) (hk : OkC c) (hok : AllB c) (now : Int) {e : Int} {c' : Ca} (hr : tickS c above now = (e, c')) {l : List Ad} (hl : tickL c now = l) :
    Calls Tryd.prog 19 #[.pointer (some ⟨p, 0, none⟩), .int .i64 now] w fun r w' => ∃ A cp, r = .returned (.tuple #[.slice A l.length cp, .int .i64 e]) ∧ St w0 w' (Γ.set i (obC p b c') ++ [obAd (.slice A l.length cp) l]) := by
  have := c_tick h i hi g hg hk hok now
  rw [hr, hl] at this
  refine this.mono fun r w' ⟨v, he, hS⟩ => ?_
  obtain ⟨A, cp, hv, _⟩ := hS.rd (Γ.set i (obC p b c')).length (v := v) (xs := l) (by rw [List.getElem?_append_right (Nat.le_refl _), Nat.sub_self]; rfl)
  subst hv
  exact ⟨A, cp, he, hS⟩
theorem c_allK (h : St w0 w Γ) (i : Nat) (hi : Γ[i]? = some (obC p b c)) (hk : OkC c) (hok : AllB c) {l : List Ad} (hl : ordS (c.M.map (·.1)) = l) :
    Calls Tryd.prog 14 #[.pointer (some ⟨p, 0, none⟩)] w fun r w' => ∃ A cp, r = .returned (.slice A l.length cp) ∧ St w0 w' (Γ ++ [obAd (.slice A l.length cp) l]) := by
  subst hl
  refine (c_all h i hi hk hok).mono fun r w' ⟨v, he, hS⟩ => ?_
  obtain ⟨A, cp, hv, _⟩ := hS.rd Γ.length (v := v) (xs := ordS (c.M.map (·.1))) (by rw [List.getElem?_append_right (Nat.le_refl _), Nat.sub_self]; rfl)
  subst hv
  exact ⟨A, cp, he, hS⟩
end
def l0 : Ca := ⟨2, 100, [], 0, 0⟩
def l1 : Ca := ⟨2, 100, [(fA 1, ⟨576, 1500, 0, 1⟩)], 0, 1⟩
def l2 : Ca := ⟨2, 100, [(fA 1, ⟨576, 1500, 0, 1⟩)], 99, 1⟩
def l3 : Ca := ⟨2, 100, [(fA 1, ⟨1006, 1500, 100, 1⟩)], 100, 1⟩
theorem r1 : hearS l0 (fA 1) 1500 (meantS (fA 1) 576 1500).1 (meantS (fA 1) 576 1500).2 0 = (true, 0, l1) := by kernel_rfl
theorem r2 : hearS l1 (fA 1) 1500 (meantS (fA 1) 576 1500).1 (meantS (fA 1) 576 1500).2 0 = (false, 0, l1) := by kernel_rfl
theorem r3 : getS l1.M (fA 1) 1500 = (576, 0) := by kernel_rfl
theorem r4 : ordS (l1.M.map (·.1)) = [fA 1] := by kernel_rfl
theorem r5 : tickS l1 above 99 = (0, l2) := by kernel_rfl
theorem r6 : tickL l1 99 = [] := by kernel_rfl
theorem r7 : tickS l2 above 100 = (0, l3) := by kernel_rfl
theorem r8 : tickL l2 100 = [fA 1] := by kernel_rfl
theorem r9 : getS l3.M (fA 1) 1500 = (1006, 0) := by kernel_rfl
theorem r10 : tickS l3 above 99 = (1, l3) := by kernel_rfl
theorem r11 : tickL l3 99 = [] := by kernel_rfl
theorem above_68 (n : Int) : 68 ≤ above n := by
  have h := (above_spec n).2.1
  rw [isP_iff] at h
  omega
theorem o0 : OkC l0 := okNew (by omega)
theorem meant_68 (a : Ad) (mtu length : Int) : (meantS a mtu length).2 = true → 68 ≤ (meantS a mtu length).1 := by
  intro h
  unfold meantS at *
  split at h
  · rename_i h6
    rw [if_pos h6]
    have := of_decide_eq_true h
    show 68 ≤ mtu
    omega
  · rename_i h6
    rw [if_neg h6]
    split
    · exact (below_spec length).1
    · show 68 ≤ max mtu 68
      omega
theorem o1 : OkC l1 := by
  have := hear_ok o0 (a := fA 1) (first := 1500) (now := 0) (meant_68 (fA 1) 576 1500)
  rwa [r1] at this
theorem o2 : OkC l2 := by
  have := tick_ok o1 (above := above) above_68 (now := 99)
  rwa [r5] at this
theorem o3 : OkC l3 := by
  have := tick_ok o2 (above := above) above_68 (now := 100)
  rwa [r7] at this
theorem a1 : AllB l1 := fun x hx => by obtain rfl := List.mem_singleton.1 hx; exact four_ok 1 (by decide)
theorem a2 : AllB l2 := fun x hx => by obtain rfl := List.mem_singleton.1 hx; exact four_ok 1 (by decide)
theorem a3 : AllB l3 := fun x hx => by obtain rfl := List.mem_singleton.1 hx; exact four_ok 1 (by decide)
end Go.Proofs.YtdinkhhaomblcaaDoor.SL
