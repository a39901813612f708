/- The cache's methods over objects. No condition but sizes. -/
import Derived.Test.YtdinkhhaomblcaaDoorG9
import Derived.Test.YtdinkhhaomblcaaDoorGB
namespace Go.Proofs.YtdinkhhaomblcaaDoor.SL
open Go.RowKit Go.Proofs.YtdinkhhaomblcaaDoorW.PrintWords Go.Proofs.YtdinkhhaomblcaaDoorW.PrintLast Go.Proofs.YtdinkhhaomblcaaDoorW.PrintMore
/-- An address into a list in order. -/
def insA (a : Ad) : List Ad → List Ad
  | [] => [a]
  | x :: l => if ltA x a then x :: insA a l else a :: x :: l
def ordS (xs : List Ad) : List Ad := xs.foldl (fun l a => insA a l) []
theorem insA_perm (a : Ad) : ∀ l, (insA a l).Perm (a :: l)
  | [] => List.Perm.refl _
  | x :: l => by
    unfold insA
    split
    · exact ((insA_perm a l).cons x).trans (List.Perm.swap a x l)
    · exact List.Perm.refl _
theorem insA_ord {a : Ad} : ∀ {l : List Ad}, OrdA l → a ∉ l → OrdA (insA a l)
  | [], _, _ => List.pairwise_singleton _ _
  | x :: l, h, hn => by
    unfold OrdA at h
    rw [List.pairwise_cons] at h
    unfold insA
    by_cases hx : ltA x a = true
    · rw [if_pos hx]
      refine List.pairwise_cons.2 ⟨fun y hy => ?_, insA_ord h.2 (fun hm => hn (List.mem_cons_of_mem _ hm))⟩
      rcases List.mem_cons.1 ((insA_perm a l).mem_iff.1 hy) with rfl | hy
      · exact hx
      · exact h.1 y hy
    · rw [if_neg hx]
      have hax : ltA a x = true := by
        cases hq : ltA a x
        · exact absurd (ltA_tri hq (by simpa using hx)) (fun e => hn (by rw [e]; exact List.mem_cons_self))
        · rfl
      refine List.pairwise_cons.2 ⟨fun y hy => ?_, List.pairwise_cons.2 h⟩
      rcases List.mem_cons.1 hy with rfl | hy
      · exact hax
      · exact ltA_trans hax (h.1 y hy)
theorem foldl_ins : ∀ (xs l : List Ad), OrdA l → (∀ x ∈ xs, x ∉ l) → xs.Nodup → OrdA (xs.foldl (fun l a => insA a l) l) ∧ (xs.foldl (fun l a => insA a l) l).Perm (xs ++ l)
  | [], l, h, _, _ => ⟨h, List.Perm.refl _⟩
  | a :: xs, l, h, hn, hd => by
    rw [List.nodup_cons] at hd
    rw [List.foldl_cons]
    obtain ⟨h1, h2⟩ := foldl_ins xs (insA a l) (insA_ord h (hn a List.mem_cons_self)) (fun x hx hm => by
      rcases List.mem_cons.1 ((insA_perm a l).mem_iff.1 hm) with rfl | hm
      · exact hd.1 hx
      · exact hn x (List.mem_cons_of_mem _ hx) hm) hd.2
    refine ⟨h1, h2.trans ?_⟩
    exact ((insA_perm a l).append_left xs).trans (List.perm_middle)
theorem ordS_spec {xs : List Ad} (hn : xs.Nodup) : OrdA (ordS xs) ∧ (ordS xs).Perm xs := by
  have h := foldl_ins xs [] List.Pairwise.nil (by simp) hn
  rw [List.append_nil] at h
  exact h
theorem sortOf_eq {xs ys : List Ad} (h : SortOf xs ys) (hn : xs.Nodup) : ys = ordS xs :=
  ordA_unique (sortOf_ord h hn) (ordS_spec hn).1 (h.1.trans (ordS_spec hn).2.symm)
/-- What Tick tells. -/
def tickL (c : Ca) (now : Int) : List Ad := if mayS c now = false then [] else ordS (dueS c.A now c.M)
section
variable {w0 w : World} {Γ : List Ob} {p b : Nat} {c : Ca}
theorem c_get (h : St w0 w Γ) (i : Nat) (hi : Γ[i]? = some (obC p b c)) (a : Ad) (first : Int) :
    Calls Tryd.prog 26 #[.pointer (some ⟨p, 0, none⟩), .agg (aV a), .int .i64 first] w fun e w' => e = .returned (.tuple #[.int .i64 (getS c.M a first).1, .int .i64 (getS c.M a first).2]) ∧ St w0 w' Γ :=
  (get_calls p b c a first w (h.get i hi)).mono fun _ _ ⟨he, hb⟩ => ⟨he, h.below hb⟩
theorem St.sameC (h : St w0 w Γ) (i : Nat) (hi : Γ[i]? = some (obC p b c)) {w' : World} (hb : Below w.heap.size w w') : St w0 w' (Γ.set i (obC p b c)) := by
  have e : Γ.set i (obC p b c) = Γ := by
    obtain ⟨h1, h2⟩ := List.getElem?_eq_some_iff.1 hi
    rw [← h2, List.set_getElem_self]
  rw [e]; exact h.below hb
theorem St.tabC (h : St w0 w Γ) (i : Nat) (hi : Γ[i]? = some (obC p b c)) (g : Nat) (hg : Γ[g]? = some obG) : Tab w ∧ 0 ∉ [p, b] := by
  refine ⟨h.get g hg, fun hm => ?_⟩
  have hne : i ≠ g := fun e => by
    subst e
    rw [hi] at hg
    have := congrArg Ob.own (Option.some.inj hg)
    simp [obC, obG] at this
  exact (h.sep i g _ _ hne hi hg).1 _ hm List.mem_cons_self
theorem c_hear (h : St w0 w Γ) (i : Nat) (hi : Γ[i]? = some (obC p b c)) (g : Nat) (hg : Γ[g]? = some obG) (hk : OkC c) (hh : c.hrd < 4000000000000000000) (a : Ad) (first mtu length now : Int) :
    Calls Tryd.prog 27 (hrA p a first mtu length now) w fun e w' =>
      e = .returned (.tuple #[.bool (hearS c a first (meantS a mtu length).1 (meantS a mtu length).2 now).1, .int .i64 (hearS c a first (meantS a mtu length).1 (meantS a mtu length).2 now).2.1]) ∧
      St w0 w' (Γ.set i (obC p b (hearS c a first (meantS a mtu length).1 (meantS a mtu length).2 now).2.2)) := by
  obtain ⟨hT, hg0⟩ := h.tabC i hi g hg
  have hC : CaAt w p b c := h.get i hi
  by_cases hb : (getS c.M a first).2 ≠ 0 ∨ mayS c now = false
  · have e : hearS c a first (meantS a mtu length).1 (meantS a mtu length).2 now = (false, 1, c) := if_pos hb
    rw [e]
    exact (hear_bad p b c a first mtu length now w hC hb).mono fun _ _ ⟨he, hbl⟩ => ⟨he, h.sameC i hi hbl⟩
  · have h0 : (getS c.M a first).2 = 0 := Classical.byContradiction fun e => hb (.inl e)
    have hm : mayS c now = true := by
      cases hq : mayS c now
      · exact absurd (.inr hq) hb
      · rfl
    by_cases hno : (meantS a mtu length).2 = false ∨ (getS c.M a first).1 ≤ (meantS a mtu length).1
    · have e : hearS c a first (meantS a mtu length).1 (meantS a mtu length).2 now = (false, 0, { c with now := now }) := by unfold hearS; rw [if_neg hb, if_pos hno]
      rw [e]
      exact (hear_no p b c a first mtu length now w hC hT hg0 h0 hm hno).mono fun _ _ ⟨he, hc, ht⟩ => ⟨he, h.putC i hi hc ht⟩
    · have hy : (meantS a mtu length).2 = true ∧ (meantS a mtu length).1 < (getS c.M a first).1 := by
        constructor
        · cases hq : (meantS a mtu length).2
          · exact absurd (.inl hq) hno
          · rfl
        · have := fun e => hno (.inr e)
          omega
      have e1 : (hearS c a first (meantS a mtu length).1 (meantS a mtu length).2 now).1 = true := by unfold hearS; rw [if_neg hb, if_neg hno]
      have e2 : (hearS c a first (meantS a mtu length).1 (meantS a mtu length).2 now).2.1 = 0 := by unfold hearS; rw [if_neg hb, if_neg hno]
      rw [e1, e2]
      exact (hear_yes p b c a first mtu length now w hC hk hh hT hg0 h0 hm hy).mono fun _ _ ⟨he, hc, ht⟩ => ⟨he, h.putC i hi hc ht⟩
theorem c_tick (h : St w0 w Γ) (i : Nat) (hi : Γ[i]? = some (obC p b c)) (g : Nat) (hg : Γ[g]? = some obG) (hk : OkC c) (hok : ∀ x ∈ c.M, BOk x.1) (now : Int) :
    Calls Tryd.prog 19 #[.pointer (some ⟨p, 0, none⟩), .int .i64 now] w fun e w' => ∃ v, e = .returned (.tuple #[v, .int .i64 (tickS c above now).1]) ∧ St w0 w' (Γ.set i (obC p b (tickS c above now).2) ++ [obAd v (tickL c now)]) := by
  obtain ⟨hT, hg0⟩ := h.tabC i hi g hg
  have hC : CaAt w p b c := h.get i hi
  by_cases hm : mayS c now = false
  · have e : tickS c above now = (1, c) := if_pos hm
    have e2 : tickL c now = [] := if_pos hm
    rw [e, e2]
    exact (tick_bad p b c now w hC hm).mono fun _ _ ⟨he, hbl⟩ => ⟨_, he, (h.sameC i hi hbl).newW flA⟩
  · have hm' : mayS c now = true := by simpa using hm
    have e1 : (tickS c above now).1 = 0 := by unfold tickS; rw [if_neg hm]
    have e2 : tickL c now = ordS (dueS c.A now c.M) := if_neg hm
    rw [e1, e2]
    refine (tick_yes p b c now w hC hk hT hg0 hok hm').mono fun _ w' ⟨v, ys, he, hs, hS⟩ => ⟨v, he, ?_⟩
    have hys := sortOf_eq hs (due_nd hk.nd)
    subst hys
    have ht : Touch [p, b] w w' := (hear_end hS).2
    have hbase : ∀ x ∈ (obAd v (ordS (dueS c.A now c.M))).own, w.heap.size ≤ x := fun x hx => by
      refine Nat.le_of_not_lt fun hlt => ?_
      by_cases hpb : x ∈ [p, b]
      · exact (hS.sep 2 0 _ _ (by decide) rfl rfl).1 x hx hpb
      · exact (hS.sep 2 1 _ _ (by decide) rfl rfl).1 x hx (List.mem_filter.2 ⟨List.mem_range.2 hlt, by simpa using hpb⟩)
    refine h.upd i hi ht (obC p b (tickS c above now).2) [obAd v (ordS (dueS c.A now c.M))] (fun o ho => ?_) (fun o ho x hx => ?_) (fun o ho x hx => ?_) ?_
    · rcases List.mem_cons.1 ho with rfl | ho
      · exact hS.get 0 rfl
      · obtain rfl := List.mem_singleton.1 ho
        exact hS.get 2 rfl
    · rcases List.mem_cons.1 ho with rfl | ho
      · exact .inl hx
      · obtain rfl := List.mem_singleton.1 ho
        exact .inr (hbase x hx)
    · rcases List.mem_cons.1 ho with rfl | ho
      · exact .inl hx
      · obtain rfl := List.mem_singleton.1 ho
        exact .inr (hbase x hx)
    · refine List.pairwise_cons.2 ⟨fun o ho => ?_, List.pairwise_singleton _ _⟩
      obtain rfl := List.mem_singleton.1 ho
      exact hS.sep 0 2 _ _ (by decide) rfl rfl
theorem c_all (h : St w0 w Γ) (i : Nat) (hi : Γ[i]? = some (obC p b c)) (hk : OkC c) (hok : ∀ x ∈ c.M, BOk x.1) :
    Calls Tryd.prog 14 #[.pointer (some ⟨p, 0, none⟩)] w fun e w' => ∃ v, e = .returned v ∧ St w0 w' (Γ ++ [obAd v (ordS (c.M.map (·.1)))]) :=
  (all_raw p b c w (h.get i hi) hk.nd hok (by have := hk.len; have := hk.e64; omega)).mono fun _ _ ⟨v, ys, he, hs, hR, hb⟩ => ⟨v, he, by
    rw [← sortOf_eq hs hk.nd]
    exact h.addW flA hb hR⟩
end
end Go.Proofs.YtdinkhhaomblcaaDoor.SL
