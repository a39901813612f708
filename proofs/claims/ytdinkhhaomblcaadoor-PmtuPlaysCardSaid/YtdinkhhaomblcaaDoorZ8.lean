/- The document's cache beside the program's: the calls as the law meets them. No condition but sizes. -/
import Derived.Test.YtdinkhhaomblcaaDoorZ7
namespace Go.Proofs.YtdinkhhaomblcaaDoor.SL
open Go.RowKit Go.Proofs.YtdinkhhaomblcaaDoorW.PrintWords Go.Proofs.YtdinkhhaomblcaaDoorW.PrintLast Go.Proofs.YtdinkhhaomblcaaDoorW.PrintMore
def obRc (y : RcSt) : Ob := obGrp y.G
/-- y is the document's cache at q that stands as c does. -/
structure RcSt.Is (y : RcSt) (q : Nat) (c : Ca) : Prop where
  hp : y.p = q
  hE : y.E = c.E
  hA : y.A = c.A
  hn : y.last = c.now
  rel : RelL c.M y.L
theorem RelL.len {c : Ca} (hk : OkC c) {L : Mp} (h : RelL c.M L) : L.length ≤ 100 := by
  have := h.perm.length_eq
  have := hk.len
  have := hk.e64
  omega
theorem allB_hear {c : Ca} (hk : OkC c) (h : AllB c) {a : Ad} (ha : BOk a) (first n : Int) (is : Bool) (now : Int) : AllB (hearS c a first n is now).2.2 := by
  unfold hearS
  split
  · exact h
  · split
    · exact h
    · intro x hx
      have hr := room_ok (v := ⟨n, first, now, c.hrd + 1⟩) hk a
      rcases (mem_put (show NdM (roomM c a) from hr.1) (a := a) (v := ⟨n, first, now, c.hrd + 1⟩) x).1 hx with rfl | ⟨hx, _⟩
      · exact ha
      · exact h x (hr.2.1 x hx)
theorem hear_hrd (c : Ca) (a : Ad) (first n : Int) (is : Bool) (now : Int) : (hearS c a first n is now).2.2.hrd ≤ c.hrd + 1 := by
  unfold hearS
  split
  · show c.hrd ≤ _; omega
  · split
    · show c.hrd ≤ _; omega
    · exact Int.le_refl _
theorem allB_tick {c : Ca} (h : AllB c) (now : Int) : AllB (tickS c above now).2 := by
  unfold tickS
  split
  · exact h
  · intro x hx
    obtain ⟨z, hz, hr⟩ := List.mem_filterMap.1 hx
    rw [(rise_key hr).1]
    exact h z hz
theorem tick_hrd (c : Ca) (now : Int) : (tickS c above now).2.hrd = c.hrd := by
  unfold tickS
  split <;> rfl
section
variable {w0 w : World} {Γ : List Ob} {q p b : Nat} {c : Ca} {y : RcSt}
theorem set_samey {j : Nat} (hj : Γ[j]? = some (obRc y)) : Γ.set j (obRc y) = Γ := by
  apply List.ext_getElem?
  intro k
  rw [List.getElem?_set]
  split
  · rename_i e
    subst e
    rw [if_pos (List.getElem?_eq_some_iff.1 hj).1, hj]
  · rfl
theorem r_new_no (h : St w0 w Γ) (E A : Int) (hb : E < 1 ∨ 64 < E ∨ A < 1 ∨ 1099511627776 < A) :
    Calls Tryd.prog 11 #[paV E A] w fun e w' => e = .returned (.tuple #[.pointer none, .int .i64 1]) ∧ St w0 w' Γ :=
  (rnew_no E A w hb).mono fun _ _ ⟨he, hb⟩ => ⟨he, h.below hb⟩
theorem r_new_yes (h : St w0 w Γ) (E A : Int) (hb : ¬ (E < 1 ∨ 64 < E ∨ A < 1 ∨ 1099511627776 < A)) :
    Calls Tryd.prog 11 #[paV E A] w fun e w' => ∃ q y, e = .returned (.tuple #[.pointer (some ⟨q, 0, none⟩), .int .i64 0]) ∧ RcSt.Is y q ⟨E, A, [], 0, 0⟩ ∧ St w0 w' (obRc y :: Γ) :=
  (rnew_yes h E A (fun h => hb (.inl h)) (fun h => hb (.inr (.inl h))) (fun h => hb (.inr (.inr (.inl h)))) (fun h => hb (.inr (.inr (.inr h))))).mono fun _ _ ⟨q, he, hs⟩ =>
    ⟨q, ⟨q, none, 0, E, A, 0, []⟩, he, ⟨rfl, rfl, rfl, rfl, ⟨List.Perm.refl _, List.Pairwise.nil⟩⟩, hs.grp⟩
theorem r_get (h : St w0 w Γ) (j : Nat) (hj : Γ[j]? = some (obRc y)) (hy : y.Is q c) (hk : OkC c) (a : Ad) (first : Int) {n e : Int} (hr : getS c.M a first = (n, e)) :
    Calls Tryd.prog 29 #[.pointer (some ⟨q, 0, none⟩), .agg (aV a), .int .i64 first] w fun r w' => r = .returned (.tuple #[.int .i64 n, .int .i64 e]) ∧ St w0 w' Γ := by
  obtain ⟨rfl, hE, hA, hn, rel⟩ := hy
  refine (rget_raw y (h.focus hj) (rel.len hk) a first).mono fun r w' ⟨he, hb⟩ => ⟨?_, h.below hb⟩
  rw [he, get_perm rel.perm hk.nd, hr]
theorem r_all (h : St w0 w Γ) (j : Nat) (hj : Γ[j]? = some (obRc y)) (hy : y.Is q c) (hk : OkC c) {l : List Ad} (hl : ordS (c.M.map (·.1)) = l) :
    Calls Tryd.prog 15 #[.pointer (some ⟨q, 0, none⟩)] w fun r w' => ∃ A cp, r = .returned (.slice A l.length cp) ∧ St w0 w' (obAd (.slice A l.length cp) l :: Γ) := by
  obtain ⟨rfl, hE, hA, hn, rel⟩ := hy
  refine (rall_raw y (h.focus hj) (rel.len hk)).mono fun r w' ⟨A, cp, he, hs⟩ => ?_
  rw [all_rel rel hk.nd, hl] at he hs
  refine ⟨A, cp, he, ?_⟩
  have h1 : St w0 w' (y.G ++ (obAd (.slice A l.length cp) l :: Γ.eraseIdx j)) := hs.perm (List.perm_middle (l₁ := y.G))
  have h2 : St w0 w' (obRc y :: obAd (.slice A l.length cp) l :: Γ.eraseIdx j) := h1.grp
  have h3 : St w0 w' (obAd (.slice A l.length cp) l :: obRc y :: Γ.eraseIdx j) := h2.perm (List.Perm.swap _ _ _)
  exact h3.perm ((perm_out hj).symm.cons _)
theorem r_hear (h : St w0 w Γ) (j : Nat) (hj : Γ[j]? = some (obRc y)) (hy : y.Is q c) (hk : OkC c) (a : Ad) (first mtu length now : Int) {f : Bool} {e : Int} {c' : Ca} (hr : hearS c a first (meantS a mtu length).1 (meantS a mtu length).2 now = (f, e, c')) :
    Calls Tryd.prog 30 (hrA q a first mtu length now) w fun r w' => ∃ y', r = .returned (.tuple #[.bool f, .int .i64 e]) ∧ RcSt.Is y' q c' ∧ St w0 w' (Γ.set j (obRc y')) := by
  obtain ⟨rfl, hE, hA, hn, rel⟩ := hy
  have hg := get_perm rel.perm hk.nd a first
  by_cases hb : (getS c.M a first).2 ≠ 0 ∨ mayS c now = false
  · have e1 : hearS c a first (meantS a mtu length).1 (meantS a mtu length).2 now = (false, 1, c) := if_pos hb
    rw [hr] at e1
    obtain ⟨rfl, rfl, rfl⟩ : f = false ∧ e = 1 ∧ c' = c := by injection e1 with q1 q2; injection q2 with q2 q3; exact ⟨q1, q2, q3⟩
    refine (rhear_bad y (h.focus hj) (rel.len hk) a first mtu length now ?_).mono fun r w' ⟨he, hs⟩ => ⟨y, he, ⟨rfl, hE, hA, hn, rel⟩, St.unfocus hj hs⟩
    rw [hg, hn]
    rcases hb with hb | hb
    · exact .inl hb
    · unfold mayS at hb
      have := of_decide_eq_false hb
      exact .inr (by omega)
  · have h0 : (getS c.M a first).2 = 0 := Classical.byContradiction fun e => hb (.inl e)
    have hm : mayS c now = true := by
      cases hq : mayS c now
      · exact absurd (.inr hq) hb
      · rfl
    have hm2 := of_decide_eq_true hm
    by_cases hno : (meantS a mtu length).2 = false ∨ (getS c.M a first).1 ≤ (meantS a mtu length).1
    · have e1 : hearS c a first (meantS a mtu length).1 (meantS a mtu length).2 now = (false, 0, { c with now := now }) := by unfold hearS; rw [if_neg hb, if_pos hno]
      rw [hr] at e1
      obtain ⟨rfl, rfl, rfl⟩ : f = false ∧ e = 0 ∧ c' = { c with now := now } := by injection e1 with q1 q2; injection q2 with q2 q3; exact ⟨q1, q2, q3⟩
      refine (rhear_no y (h.focus hj) (rel.len hk) a first mtu length now (by rw [hg]; exact h0) (by rw [hn]; exact hm2.1) hm2.2 ?_).mono fun r w' ⟨he, hs⟩ => ⟨{ y with last := now }, he, ⟨rfl, hE, hA, rfl, rel⟩, St.unfocus hj hs⟩
      rw [hg]
      cases hq : (meantS a mtu length).2 with
      | false => exact .inl (meantR_no hq)
      | true =>
        rcases hno with hno | hno
        · rw [hq] at hno; cases hno
        · exact .inr (by rw [meantR_yes hq]; exact hno)
    · have hy2 : (meantS a mtu length).2 = true := by
        cases hq : (meantS a mtu length).2
        · exact absurd (.inl hq) hno
        · rfl
      have hlt : (meantS a mtu length).1 < (getS c.M a first).1 := by
        have := fun e => hno (.inr e)
        omega
      have hmr := meantR_yes hy2
      have h68 := meant_68 a mtu length hy2
      have e1 : hearS c a first (meantS a mtu length).1 (meantS a mtu length).2 now = (true, 0, { c with now := now, hrd := c.hrd + 1, M := putM (roomM c a) a ⟨(meantS a mtu length).1, first, now, c.hrd + 1⟩ }) := by unfold hearS; rw [if_neg hb, if_neg hno]; rfl
      rw [hr] at e1
      obtain ⟨rfl, rfl, rfl⟩ : f = true ∧ e = 0 ∧ c' = { c with now := now, hrd := c.hrd + 1, M := putM (roomM c a) a ⟨(meantS a mtu length).1, first, now, c.hrd + 1⟩ } := by injection e1 with q1 q2; injection q2 with q2 q3; exact ⟨q1, q2, q3⟩
      have hle : (y.L.length : Int) ≤ y.E := by rw [rel.perm.length_eq, hE]; exact hk.len
      refine (rhear_yes y (h.focus hj) (rel.len hk) hle (by rw [hE]; exact hk.e1) a first mtu length now (c.hrd + 1) (by rw [hg]; exact h0) (by rw [hn]; exact hm2.1) hm2.2 (by rw [hmr]; omega) (by rw [hmr, hg]; exact hlt)).mono fun r w' ⟨B', cc, he, hs⟩ => ⟨⟨y.p, B', cc, y.E, y.A, now, hearL y.E y.L a ⟨meantR a mtu length, first, now, c.hrd + 1⟩⟩, he, ⟨rfl, hE, hA, rfl, ?_⟩, St.unfocus hj hs⟩
      show RelL (putM (roomM c a) a ⟨(meantS a mtu length).1, first, now, c.hrd + 1⟩) (hearL y.E y.L a ⟨meantR a mtu length, first, now, c.hrd + 1⟩)
      rw [hE, hmr]
      exact hear_rel hk rel a _ rfl
theorem r_tick (h : St w0 w Γ) (j : Nat) (hj : Γ[j]? = some (obRc y)) (hy : y.Is q c) (hk : OkC c) (now : Int) {e : Int} {c' : Ca} (hr : tickS c above now = (e, c')) {l : List Ad} (hl : tickL c now = l) :
    Calls Tryd.prog 31 #[.pointer (some ⟨q, 0, none⟩), .int .i64 now] w fun r w' => ∃ A cp y', r = .returned (.tuple #[.slice A l.length cp, .int .i64 e]) ∧ RcSt.Is y' q c' ∧ St w0 w' (obAd (.slice A l.length cp) l :: Γ.set j (obRc y')) := by
  obtain ⟨rfl, hE, hA, hn, rel⟩ := hy
  by_cases hm : mayS c now = false
  · have e1 : tickS c above now = (1, c) := if_pos hm
    have e2 : tickL c now = [] := if_pos hm
    rw [hr] at e1
    obtain ⟨rfl, rfl⟩ := Prod.mk.inj e1
    rw [e2] at hl
    subst hl
    refine (rtick_bad y (h.focus hj) now ?_).mono fun r w' ⟨he, hw⟩ => ⟨none, 0, y, he, ⟨rfl, hE, hA, hn, rel⟩, ?_⟩
    · rw [hn]
      have := of_decide_eq_false hm
      omega
    · rw [hw, set_samey hj]
      exact (h.newW (d := kA) (e := 32) flA).front1
  · have hm' : mayS c now = true := by simpa using hm
    have hm2 := of_decide_eq_true hm'
    have e1 : tickS c above now = (0, { c with now := now, M := c.M.filterMap (rise c.A now above) }) := if_neg hm
    have e2 : tickL c now = ordS (dueS c.A now c.M) := if_neg hm
    rw [hr] at e1
    obtain ⟨rfl, rfl⟩ := Prod.mk.inj e1
    have e3 : outL y.A now y.L y.L.length = l := by
      unfold outL
      rw [List.take_length, ← hl, e2, hA]
      exact ord_perm rel.perm hk.nd _
    have e4 : leftL y.A now y.L y.L.length = y.L.filterMap (rise c.A now above) := by unfold leftL; rw [List.take_length, hA]
    refine (rtick_yes y (h.focus hj) (rel.len hk) (fun z hz => ?_) now (by rw [hn]; exact hm2.1) hm2.2).mono fun r w' ⟨A, cp, B', cc, he, hs⟩ => ?_
    · have := hk.ent z (rel.perm.mem_iff.1 hz)
      rw [hn]
      exact ⟨this.1, this.2.1, this.2.2.2.2.2.1⟩
    · rw [e3] at he hs
      rw [e4] at hs
      refine ⟨A, cp, ⟨y.p, B', cc, y.E, y.A, now, y.L.filterMap (rise c.A now above)⟩, he, ⟨rfl, hE, hA, rfl, tick_rel rel c.A now⟩, ?_⟩
      have h1 := hs.perm (List.perm_middle (l₁ := RcSt.G ⟨y.p, B', cc, y.E, y.A, now, y.L.filterMap (rise c.A now above)⟩))
      have h2 : St w0 w' (obRc ⟨y.p, B', cc, y.E, y.A, now, y.L.filterMap (rise c.A now above)⟩ :: obAd (.slice A l.length cp) l :: Γ.eraseIdx j) := h1.grp
      have h3 := h2.perm (List.Perm.swap _ _ _)
      exact h3.perm ((perm_in hj).cons _)
theorem c_tickG (h : St w0 w Γ) (i : Nat) (hi : Γ[i]? = some (obC p b c)) (g : Nat) (hg : Γ[g]? = some obG) (hk : OkC c) (hok : AllB c) (now : Int) {e : Int} {c' : Ca} (hr : tickS c above now = (e, c')) {l : List Ad} (hl : tickL c now = l) :
    Calls Tryd.prog 19 #[.pointer (some ⟨p, 0, none⟩), .int .i64 now] w fun r w' => ∃ A cp, r = .returned (.tuple #[.slice A l.length cp, .int .i64 e]) ∧ St w0 w' (obAd (.slice A l.length cp) l :: Γ.set i (obC p b c')) :=
  (c_tickK h i hi g hg hk hok now hr hl).mono fun _ _ ⟨A, cp, he, hs⟩ => ⟨A, cp, he, hs.front1⟩
theorem c_allG (h : St w0 w Γ) (i : Nat) (hi : Γ[i]? = some (obC p b c)) (hk : OkC c) (hok : AllB c) {l : List Ad} (hl : ordS (c.M.map (·.1)) = l) :
    Calls Tryd.prog 14 #[.pointer (some ⟨p, 0, none⟩)] w fun r w' => ∃ A cp, r = .returned (.slice A l.length cp) ∧ St w0 w' (obAd (.slice A l.length cp) l :: Γ) :=
  (c_allK h i hi hk hok hl).mono fun _ _ ⟨A, cp, he, hs⟩ => ⟨A, cp, he, hs.front1⟩
theorem c_sameG (h : St w0 w Γ) (i j : Nat) {A B : Option Addr} {l : List Ad} {c1 c2 : Nat} (hi : Γ[i]? = some (obAd (.slice A l.length c1) l)) (hj : Γ[j]? = some (obAd (.slice B l.length c2) l)) (hl : l.length ≤ 1000) :
    Calls Tryd.prog 13 #[.slice A l.length c1, .slice B l.length c2] w fun r w' => r = .returned (.bool true) ∧ St w0 w' Γ := by
  refine (same_calls _ _ l l w (RdA.of_R (show kA.R _ _ _ _ _ _ from h.get i hi)) (RdA.of_R (show kA.R _ _ _ _ _ _ from h.get j hj)) (by omega)).mono fun r w' ⟨he, hb⟩ => ⟨?_, h.below hb⟩
  rw [he, decide_eq_true rfl]
end
end Go.Proofs.YtdinkhhaomblcaaDoor.SL
