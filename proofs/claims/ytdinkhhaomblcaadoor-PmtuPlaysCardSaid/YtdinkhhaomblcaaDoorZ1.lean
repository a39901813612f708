/- The document's cache, in plain Lean: its entries in the order of hearing. No program in sight. -/
import Derived.Test.YtdinkhhaomblcaaDoorGE
namespace Go.Proofs.YtdinkhhaomblcaaDoor.SL
open Go.RowKit Go.Proofs.YtdinkhhaomblcaaDoorW.PrintWords Go.Proofs.YtdinkhhaomblcaaDoorW.PrintLast Go.Proofs.YtdinkhhaomblcaaDoorW.PrintMore
/-- L tells M's entries in the order of hearing. -/
structure RelL (M L : Mp) : Prop where
  perm : L.Perm M
  ord : L.Pairwise fun x y => x.2.hrd < y.2.hrd
theorem nd_list {M : Mp} (h : NdM M) : M.Nodup := by
  unfold NdM at h
  rw [List.nodup_iff_pairwise_ne, List.pairwise_map] at h
  exact List.nodup_iff_pairwise_ne.2 (h.imp fun {x y} hne e => hne (by rw [e]))
theorem RelL.nd {M L : Mp} (h : RelL M L) (hn : NdM M) : NdM L := (h.perm.map (fun y : Ad × Bel => y.1)).nodup_iff.2 hn
theorem look_perm {M L : Mp} (h : L.Perm M) (hM : NdM M) (a : Ad) : lookM L a = lookM M a := by
  have hL : NdM L := (h.map (fun y : Ad × Bel => y.1)).nodup_iff.2 hM
  refine Option.ext fun v => ?_
  rw [look_mem hL, look_mem hM, h.mem_iff]
theorem get_perm {M L : Mp} (h : L.Perm M) (hM : NdM M) (a : Ad) (first : Int) : getS L a first = getS M a first := by
  unfold getS
  rw [look_perm h hM]
def roomL (E : Int) (L : Mp) : Mp := if (L.length : Int) = E then L.eraseIdx 0 else L
def hearL (E : Int) (L : Mp) (a : Ad) (v : Bel) : Mp := roomL E (delM L a) ++ [(a, v)]
theorem del_sub {L : Mp} (h : NdM L) (a : Ad) : (delM L a).Sublist L := by
  rw [del_filter h]; exact List.filter_sublist
theorem room_sub (E : Int) (L : Mp) : (roomL E L).Sublist L := by
  unfold roomL
  split
  · exact List.eraseIdx_sublist _ _
  · exact List.Sublist.refl _
theorem del_none {L : Mp} {a : Ad} (h : lookM L a = none) : delM L a = L := by
  rw [look_idx] at h
  unfold delM
  cases hi : idxM L a with
  | none => rfl
  | some i => rw [hi] at h; cases h
theorem hear_rel {c : Ca} (hk : OkC c) {L : Mp} (h : RelL c.M L) (a : Ad) (v : Bel) (hv : v.hrd = c.hrd + 1) : RelL (putM (roomM c a) a v) (hearL c.E L a v) := by
  have hM : NdM c.M := hk.nd
  have hL := h.nd hM
  have hsub : (roomL c.E (delM L a)).Sublist L := (room_sub _ _).trans (del_sub hL a)
  have hR := (room_ok (v := v) hk a).1
  have hlen := h.perm.length_eq
  have hle := hk.len
  have h1 := hk.e1
  -- what is left, by members
  have hmem : ∀ x, x ∈ roomL c.E (delM L a) ↔ x ∈ roomM c a ∧ x.1 ≠ a := by
    intro x
    cases hl : lookM c.M a with
    | some u =>
      have hl2 : lookM L a = some u := (look_perm h.perm hM a).trans hl
      have e1 : roomM c a = c.M := by unfold roomM; rw [if_neg]; rw [hl]; simp
      have e2 : roomL c.E (delM L a) = delM L a := by
        unfold roomL
        rw [if_neg]
        rw [len_del, hl2]
        simp only [Option.isNone_some, Bool.false_eq_true, if_false]
        have : (a, u) ∈ L := (look_mem hL).1 hl2
        have := List.length_pos_of_mem this
        omega
      rw [e1, e2, mem_del hL, h.perm.mem_iff]
    | none =>
      have hl2 : lookM L a = none := (look_perm h.perm hM a).trans hl
      have hno := look_none.1 hl2
      rw [del_none hl2]
      by_cases hfull : c.E ≤ (c.M.length : Int)
      · have e1 : roomM c a = forgetS c := by unfold roomM; rw [if_pos]; exact ⟨by rw [hl]; rfl, hfull⟩
        have e2 : roomL c.E L = L.eraseIdx 0 := by unfold roomL; rw [if_pos (by omega)]
        rw [e1, e2]
        unfold forgetS
        rw [mem_del hM]
        cases L with
        | nil => simp at hlen; omega
        | cons z T =>
          have hz : z ∈ c.M := h.perm.mem_iff.1 List.mem_cons_self
          have hold : (oldest (c.hrd + 1) (zA 0) c.M).2 = z.1 := by
            rcases oldest_spec c.M (c.hrd + 1) (zA 0) with ⟨_, h2⟩ | ⟨y, hy, h2, h3, h4⟩
            · have := h2 z hz
              have := (hk.ent z hz).2.2.2.1
              omega
            · rw [h2]
              have hyL : y ∈ z :: T := h.perm.mem_iff.2 hy
              rcases List.mem_cons.1 hyL with rfl | hyT
              · rfl
              · have := (List.pairwise_cons.1 h.ord).1 y hyT
                have := h4 z hz
                omega
          rw [hold]
          show x ∈ T ↔ _
          constructor
          · intro hx
            refine ⟨⟨h.perm.mem_iff.1 (List.mem_cons_of_mem _ hx), fun e => ?_⟩, hno x (List.mem_cons_of_mem _ hx)⟩
            have := (List.pairwise_cons.1 h.ord).1 x hx
            have := hM.one (h.perm.mem_iff.1 (List.mem_cons_of_mem _ hx)) hz e
            subst this
            omega
          · rintro ⟨⟨hx, hne⟩, _⟩
            rcases List.mem_cons.1 (h.perm.mem_iff.2 hx) with rfl | hx
            · exact absurd rfl hne
            · exact hx
      · have e1 : roomM c a = c.M := by unfold roomM; rw [if_neg]; exact fun e => hfull e.2
        have e2 : roomL c.E L = L := by unfold roomL; rw [if_neg (by omega)]
        rw [e1, e2, h.perm.mem_iff]
        exact ⟨fun hx => ⟨hx, hno x (h.perm.mem_iff.2 hx)⟩, fun hx => hx.1⟩
  have hord : (hearL c.E L a v).Pairwise fun x y => x.2.hrd < y.2.hrd := by
    unfold hearL
    rw [List.pairwise_append]
    refine ⟨h.ord.sublist hsub, List.pairwise_singleton _ _, fun x hx y hy => ?_⟩
    obtain rfl := List.mem_singleton.1 hy
    have := (hk.ent x (h.perm.mem_iff.1 (hsub.subset hx))).2.2.2.1
    show x.2.hrd < v.hrd
    omega
  refine ⟨?_, hord⟩
  have hnd : (hearL c.E L a v).Nodup := List.nodup_iff_pairwise_ne.2 (hord.imp fun {x y} hlt e => by rw [e] at hlt; exact absurd hlt (Int.lt_irrefl _))
  refine (List.perm_ext_iff_of_nodup hnd (nd_list (nd_put hR a v))).2 fun x => ?_
  unfold hearL
  rw [List.mem_append, List.mem_singleton, hmem x, mem_put hR]
  constructor
  · rintro (hx | hx)
    · exact .inr hx
    · exact .inl hx
  · rintro (hx | hx)
    · exact .inr hx
    · exact .inl hx
theorem ord_perm {M L : Mp} (h : L.Perm M) (hn : NdM M) (p : Ad × Bel → Bool) : ordS ((L.filter p).map (·.1)) = ordS ((M.filter p).map (·.1)) := by
  have hL : NdM L := (h.map (fun y : Ad × Bel => y.1)).nodup_iff.2 hn
  have h1 := ordS_spec (left_nd hL p)
  have h2 := ordS_spec (left_nd hn p)
  exact ordA_unique h1.1 h2.1 (h1.2.trans (((h.filter p).map _).trans h2.2.symm))
theorem tick_rel {M L : Mp} (h : RelL M L) (A now : Int) : RelL (M.filterMap (rise A now above)) (L.filterMap (rise A now above)) := by
  refine ⟨h.perm.filterMap _, ?_⟩
  rw [List.pairwise_filterMap]
  refine h.ord.imp fun {x y} hlt b hb b' hb' => ?_
  rw [(rise_key hb).2, (rise_key hb').2]
  exact hlt
/-- While Tick goes through its list: what is told, what is left. -/
def outL (A now : Int) (L : Mp) (k : Nat) : List Ad := ordS (((L.take k).filter fun x => decide (A ≤ now - x.2.clk)).map (·.1))
def leftL (A now : Int) (L : Mp) (k : Nat) : Mp := (L.take k).filterMap (rise A now above)
theorem ordS_snoc (l : List Ad) (a : Ad) : ordS (l ++ [a]) = insA a (ordS l) := by
  unfold ordS
  rw [List.foldl_append]
  rfl
theorem insA_len (a : Ad) (l : List Ad) : (insA a l).length = l.length + 1 := (insA_perm a l).length_eq
theorem foldl_len : ∀ (xs l : List Ad), (xs.foldl (fun l a => insA a l) l).length = xs.length + l.length
  | [], l => by simp
  | a :: xs, l => by
    rw [List.foldl_cons, foldl_len xs, insA_len, List.length_cons]
    omega
theorem ordS_len (l : List Ad) : (ordS l).length = l.length := by
  have := foldl_len l []
  simpa [ordS] using this
theorem out_len (A now : Int) (L : Mp) {k : Nat} (hk : k ≤ L.length) : (outL A now L k).length ≤ k := by
  unfold outL
  rw [ordS_len, List.length_map]
  refine Nat.le_trans (List.length_filter_le _ _) ?_
  rw [List.length_take]
  omega
theorem left_le (A now : Int) (L : Mp) {k : Nat} (hk : k ≤ L.length) : (leftL A now L k).length ≤ k := by
  unfold leftL
  refine Nat.le_trans (List.length_filterMap_le _ _) ?_
  rw [List.length_take]
  omega
theorem out_yes {A now : Int} {L : Mp} {k : Nat} (hk : k < L.length) (hd : A ≤ now - L[k].2.clk) : outL A now L (k + 1) = insA L[k].1 (outL A now L k) := by
  unfold outL
  rw [List.take_succ_eq_append_getElem hk, List.filter_append, List.filter_cons_of_pos (p := fun x : Ad × Bel => decide (A ≤ now - x.2.clk)) (decide_eq_true hd), List.filter_nil, List.map_append, List.map_singleton, ordS_snoc]
theorem out_no {A now : Int} {L : Mp} {k : Nat} (hk : k < L.length) (hd : ¬ A ≤ now - L[k].2.clk) : outL A now L (k + 1) = outL A now L k := by
  unfold outL
  rw [List.take_succ_eq_append_getElem hk, List.filter_append, List.filter_cons_of_neg (p := fun x : Ad × Bel => decide (A ≤ now - x.2.clk)) (by rw [decide_eq_true_eq]; exact hd), List.filter_nil, List.append_nil]
theorem left_some {A now : Int} {L : Mp} {k : Nat} (hk : k < L.length) {y : Ad × Bel} (hr : rise A now above L[k] = some y) : leftL A now L (k + 1) = leftL A now L k ++ [y] := by
  unfold leftL
  rw [List.take_succ_eq_append_getElem hk, List.filterMap_append, List.filterMap_cons, hr]
  rfl
theorem left_none {A now : Int} {L : Mp} {k : Nat} (hk : k < L.length) (hr : rise A now above L[k] = none) : leftL A now L (k + 1) = leftL A now L k := by
  unfold leftL
  rw [List.take_succ_eq_append_getElem hk, List.filterMap_append, List.filterMap_cons, hr, List.filterMap_nil, List.append_nil]
/-- All, while its list is gone through. -/
def allL (L : Mp) (k : Nat) : List Ad := ordS ((L.take k).map (·.1))
theorem all_step {L : Mp} {k : Nat} (hk : k < L.length) : allL L (k + 1) = insA L[k].1 (allL L k) := by
  unfold allL
  rw [List.take_succ_eq_append_getElem hk, List.map_append, List.map_singleton, ordS_snoc]
theorem all_len (L : Mp) {k : Nat} (hk : k ≤ L.length) : (allL L k).length = k := by
  unfold allL
  rw [ordS_len, List.length_map, List.length_take]
  omega
theorem all_rel {M L : Mp} (h : RelL M L) (hn : NdM M) : allL L L.length = ordS (M.map (·.1)) := by
  unfold allL
  rw [List.take_length]
  have hL := h.nd hn
  have h1 := ordS_spec (show (L.map (·.1)).Nodup from hL)
  have h2 := ordS_spec (show (M.map (·.1)).Nodup from hn)
  exact ordA_unique h1.1 h2.1 (h1.2.trans ((h.perm.map _).trans h2.2.symm))
/-- What a message means, as the document says it. -/
def meantR (a : Ad) (mtu length : Int) : Int := if a.v = 6 then (if mtu < 1280 then 0 else mtu) else if mtu = 0 then below length else max mtu 68
theorem meantR_no {a : Ad} {mtu length : Int} (h : (meantS a mtu length).2 = false) : meantR a mtu length = 0 := by
  unfold meantS at h
  unfold meantR
  by_cases h6 : a.v = 6
  · rw [if_pos h6] at h ⊢
    have : ¬ 1280 ≤ mtu := of_decide_eq_false h
    rw [if_pos (by omega)]
  · rw [if_neg h6] at h
    split at h <;> cases h
theorem meantR_yes {a : Ad} {mtu length : Int} (h : (meantS a mtu length).2 = true) : meantR a mtu length = (meantS a mtu length).1 := by
  unfold meantS at h ⊢
  unfold meantR
  by_cases h6 : a.v = 6
  · rw [if_pos h6] at h ⊢
    have : 1280 ≤ mtu := of_decide_eq_true h
    rw [if_pos h6, if_neg (by omega)]
  · rw [if_neg h6, if_neg h6]
    by_cases h0 : mtu = 0
    · rw [if_pos h0, if_pos h0]
    · rw [if_neg h0, if_neg h0]
end Go.Proofs.YtdinkhhaomblcaaDoor.SL
