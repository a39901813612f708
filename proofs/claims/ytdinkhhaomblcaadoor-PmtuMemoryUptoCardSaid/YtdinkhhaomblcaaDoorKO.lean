/- Who goes when there is no room, in plain Lean. No program in sight. -/
import Derived.Test.YtdinkhhaomblcaaDoorKN
namespace Go.Proofs.YtdinkhhaomblcaaDoor.SL
open Go.RowKit Go.Proofs.YtdinkhhaomblcaaDoorW.PrintWords Go.Proofs.YtdinkhhaomblcaaDoorW.PrintLast Go.Proofs.YtdinkhhaomblcaaDoorW.PrintMore
/-- When a destination was heard. -/
def stm (c : Ca) (n : Int) : Int := match lookM c.M (dstA n) with | some x => x.hrd | none => 0
/-- The destinations in the order in which they were heard. -/
structure RoomI (E A first : Int) (c : Ca) (k : Int) (o : List Int) (mtu : Int) : Prop where
  i : WI E A first 0 c k
  ke : (o.map dstA).Perm (c.M.map (·.1))
  rg : ∀ a ∈ o, 0 ≤ a ∧ a < E
  e8 : E ≤ 8
  so : o.Pairwise fun a b => stm c a < stm c b
  lo : ∀ x ∈ c.M, mtu ≤ x.2.est
  m1 : 1300 < mtu
  m2 : mtu ≤ 60000
  f : first = 65280
section
variable {E A first k mtu : Int} {c : Ca} {o : List Int}
theorem WI.above_gt' {now : Int} (h : WI E A first now c k) {x : Ad × Bel} (hx : x ∈ c.M) : x.2.est < first := by
  have h1 := h.ok.ent x hx
  have h2 := h.fr x hx
  omega
theorem RoomI.nd (h : RoomI E A first c k o mtu) : o.Nodup := by
  have h1 : (o.map dstA).Nodup := h.ke.nodup_iff.2 h.i.ok.nd
  exact List.Pairwise.of_map dstA (fun a b hh e => hh (congrArg dstA e)) h1
theorem RoomI.len (h : RoomI E A first c k o mtu) : o.length = c.M.length := by
  have := h.ke.length_eq
  simpa using this
theorem RoomI.mem (h : RoomI E A first c k o mtu) {n : Int} (hn : 0 ≤ n ∧ n < 12) : n ∈ o ↔ (lookM c.M (dstA n)).isSome = true := by
  constructor
  · intro hm
    have : dstA n ∈ c.M.map (·.1) := h.ke.mem_iff.1 (List.mem_map.2 ⟨n, hm, rfl⟩)
    obtain ⟨x, hx, e⟩ := List.mem_map.1 this
    cases hl : lookM c.M (dstA n) with
    | none => exact absurd e (look_none.1 hl x hx)
    | some y => rfl
  · intro hs
    cases hl : lookM c.M (dstA n) with
    | none => rw [hl] at hs; cases hs
    | some y =>
      have hm := (look_mem h.i.ok.nd).1 hl
      have : dstA n ∈ o.map dstA := h.ke.mem_iff.2 (List.mem_map.2 ⟨_, hm, rfl⟩)
      obtain ⟨a, ha, e⟩ := List.mem_map.1 this
      have hr := h.rg a ha
      have h8 := h.e8
      rw [← dst_inj ⟨hr.1, by omega⟩ hn e]; exact ha
theorem meant_room {n m : Int} (hm : 1280 ≤ m) : meantS (dstA n) m 0 = (m, true) := by
  unfold meantS
  by_cases h6 : (dstA n).v = 6
  · rw [if_pos h6, decide_eq_true hm]
  · rw [if_neg h6, if_neg (by omega)]
    congr 1
    omega
/-- One is heard, for which there is room. -/
theorem RoomI.hear (h : RoomI E A first c k o mtu) {n m : Int} (hn : 0 ≤ n ∧ n < E) (hroom : n ∈ o ∨ (o.length : Int) < E) (hm1 : 1300 < m) (hm2 : m ≤ mtu) (hlt : n ∈ o → m < mtu) :
    ∃ c', hearS c (dstA n) first (meantS (dstA n) m 0).1 (meantS (dstA n) m 0).2 (nxt 0 0) = (true, 0, c') ∧ RoomI E A first c' (k + 1) (o.filter (fun a => !decide (a = n)) ++ [n]) m := by
  have h8 := h.e8
  have hn12 : 0 ≤ n ∧ n < 12 := by omega
  have hnx : nxt 0 0 = 0 := by decide
  rw [hnx, meant_room (n := n) (m := m) (by omega)]
  obtain ⟨c', hr, hw, hM⟩ := h.i.hear (nw := 0) (by decide) (by decide) hn12 m 0
  rw [meant_room (n := n) (m := m) (by omega)] at hr hM
  have hlow : m < estS c.M first n := by
    rw [h.i.est]
    cases hl : lookM c.M (dstA n) with
    | none => show m < first; have := h.f; have := h.m2; omega
    | some x =>
      have hx := h.lo _ ((look_mem h.i.ok.nd).1 hl)
      replace hx : mtu ≤ x.est := hx
      have hin := (h.mem hn12).2 (by rw [hl]; rfl)
      have := hlt hin
      show m < x.est
      omega
  rw [if_pos ⟨rfl, hlow⟩] at hM
  rw [decide_eq_true ⟨rfl, hlow⟩] at hr
  obtain ⟨hM, hh⟩ := hM
  have hrm : roomM c (dstA n) = c.M := by
    unfold roomM
    refine if_neg fun e => ?_
    rcases hroom with hroom | hroom
    · have := (h.mem hn12).1 hroom
      rw [Option.isNone_iff_eq_none.1 e.1] at this
      cases this
    · have h1 := e.2
      have h2 := h.len
      have h3 := h.i.e
      omega
  rw [hrm] at hM
  have hlk : ∀ a, 0 ≤ a → a < 12 → lookM c'.M (dstA a) = if a = n then some ⟨m, first, 0, c.hrd + 1⟩ else lookM c.M (dstA a) := fun a a0 a1 => by
    rw [hM, look_put h.i.ok.nd]
    by_cases e : a = n
    · subst e; rw [if_pos rfl, if_pos rfl]
    · rw [if_neg e, if_neg (fun q => e (dst_inj ⟨a0, a1⟩ hn12 q.symm))]
  have hst : ∀ a ∈ o, a ≠ n → stm c' a = stm c a := fun a ha hne => by
    have := h.rg a ha
    unfold stm
    rw [hlk a (by omega) (by omega), if_neg hne]
  have hsn : stm c' n = c.hrd + 1 := by
    unfold stm
    rw [hlk n hn12.1 hn12.2, if_pos rfl]
  have hle : ∀ a, stm c a ≤ c.hrd := fun a => by
    unfold stm
    cases hl : lookM c.M (dstA a) with
    | none => exact h.i.ok.h0
    | some x => exact (h.i.ok.ent _ ((look_mem h.i.ok.nd).1 hl)).2.2.2.1
  refine ⟨c', hr, ⟨hw, ?_, ?_, h.e8, ?_, ?_, hm1, by have := h.m2; omega, h.f⟩⟩
  · refine (List.perm_ext_iff_of_nodup ?_ hw.ok.nd).2 fun a => ?_
    · have hnd2 : (o.filter (fun a => !decide (a = n)) ++ [n]).Nodup := by
        rw [List.nodup_append]
        exact ⟨h.nd.sublist List.filter_sublist, by simp, fun a ha b hb => by
          obtain rfl := List.mem_singleton.1 hb
          have := (List.mem_filter.1 ha).2
          simpa using this⟩
      refine List.Pairwise.map _ (fun a b (hab : a ∈ (o.filter (fun a => !decide (a = n)) ++ [n]) ∧ b ∈ (o.filter (fun a => !decide (a = n)) ++ [n]) ∧ a ≠ b) => ?_) (List.pairwise_iff_getElem.2 fun i j hi hj hij => ⟨List.getElem_mem hi, List.getElem_mem hj, fun e => by have := (List.getElem_inj hnd2).1 e; omega⟩)
      have hin : ∀ z ∈ (o.filter (fun a => !decide (a = n)) ++ [n]), 0 ≤ z ∧ z < 12 := fun z hz => by
        rcases List.mem_append.1 hz with hz | hz
        · have := h.rg z (List.mem_filter.1 hz).1; omega
        · obtain rfl := List.mem_singleton.1 hz; exact hn12
      exact fun e => hab.2.2 (dst_inj (hin a hab.1) (hin b hab.2.1) e)
    · rw [hM]
      constructor
      · intro ha
        obtain ⟨z, hz, rfl⟩ := List.mem_map.1 ha
        rcases List.mem_append.1 hz with hz | hz
        · have hz1 := (List.mem_filter.1 hz).1
          have hzn : z ≠ n := by have := (List.mem_filter.1 hz).2; simpa using this
          have : dstA z ∈ c.M.map (·.1) := h.ke.mem_iff.1 (List.mem_map.2 ⟨z, hz1, rfl⟩)
          obtain ⟨x, hx, e⟩ := List.mem_map.1 this
          refine List.mem_map.2 ⟨x, (mem_put h.i.ok.nd x).2 (.inr ⟨hx, fun e2 => hzn ?_⟩), e⟩
          have hr := h.rg z hz1
          exact dst_inj ⟨hr.1, by omega⟩ hn12 (e.symm.trans e2)
        · obtain rfl := List.mem_singleton.1 hz
          exact List.mem_map.2 ⟨_, (mem_put h.i.ok.nd _).2 (.inl rfl), rfl⟩
      · intro ha
        obtain ⟨x, hx, rfl⟩ := List.mem_map.1 ha
        rcases (mem_put h.i.ok.nd x).1 hx with rfl | ⟨hx, hxn⟩
        · exact List.mem_map.2 ⟨n, List.mem_append_right _ (List.mem_singleton.2 rfl), rfl⟩
        · have : x.1 ∈ o.map dstA := h.ke.mem_iff.2 (List.mem_map.2 ⟨x, hx, rfl⟩)
          obtain ⟨z, hz, e⟩ := List.mem_map.1 this
          refine List.mem_map.2 ⟨z, List.mem_append_left _ (List.mem_filter.2 ⟨hz, ?_⟩), e⟩
          have : z ≠ n := fun e2 => hxn (by rw [← e, e2])
          simpa using this
  · intro a ha
    rcases List.mem_append.1 ha with ha | ha
    · exact h.rg a (List.mem_filter.1 ha).1
    · obtain rfl := List.mem_singleton.1 ha; exact hn
  · rw [List.pairwise_append]
    refine ⟨?_, List.pairwise_singleton _ _, fun a ha b hb => ?_⟩
    · refine List.Pairwise.imp_of_mem (fun {a b} ha hb hab => ?_) (h.so.sublist List.filter_sublist)
      have ha2 := (List.mem_filter.1 ha).2
      have hb2 := (List.mem_filter.1 hb).2
      rw [hst a (List.mem_filter.1 ha).1 (by simpa using ha2), hst b (List.mem_filter.1 hb).1 (by simpa using hb2)]
      exact hab
    · obtain rfl := List.mem_singleton.1 hb
      have ha2 := (List.mem_filter.1 ha).2
      rw [hst a (List.mem_filter.1 ha).1 (by simpa using ha2), hsn]
      have := hle a
      omega
  · intro x hx
    rw [hM] at hx
    rcases (mem_put h.i.ok.nd x).1 hx with rfl | ⟨hx, _⟩
    · exact Int.le_refl _
    · have := h.lo x hx
      omega
/-- One more. -/
theorem RoomI.full (h : RoomI E A first c k o mtu) (hf : (o.length : Int) = E) :
    ∃ c', hearS c (dstA 11) first (meantS (dstA 11) 1300 0).1 (meantS (dstA 11) 1300 0).2 (nxt 0 0) = (true, 0, c') ∧ WI E A first 0 c' (k + 1) ∧ (c'.M.length : Int) = E ∧ estS c'.M first 11 = 1300 ∧ ∀ i a, o[i]? = some a → (estS c'.M first a = first ↔ i = 0) := by
  have h8 := h.e8
  have hnx : nxt 0 0 = 0 := by decide
  have h11 : ¬ (11 : Int) ∈ o := fun hm => by have := h.rg 11 hm; omega
  have hl11 : lookM c.M (dstA 11) = none := by
    cases hl : lookM c.M (dstA 11) with
    | none => rfl
    | some x => exact absurd ((h.mem (by decide)).2 (by rw [hl]; rfl)) h11
  rw [hnx, meant_room (n := 11) (m := 1300) (by decide)]
  obtain ⟨c', hr, hw, hM⟩ := h.i.hear (nw := 0) (by decide) (by decide) (n := 11) (by decide) 1300 0
  rw [meant_room (n := 11) (m := 1300) (by decide)] at hr hM
  have hlow : (1300 : Int) < estS c.M first 11 := by
    rw [h.i.est, hl11]
    show 1300 < first
    have := h.f; omega
  rw [if_pos ⟨rfl, hlow⟩] at hM
  rw [decide_eq_true ⟨rfl, hlow⟩] at hr
  obtain ⟨hM, _⟩ := hM
  have hlen := h.len
  have hE := h.i.e
  have hE1 := h.i.ok.e1
  have hrm : roomM c (dstA 11) = delM c.M (oldK c) := if_pos ⟨by rw [hl11]; rfl, by omega⟩
  rw [hrm] at hM
  have hnd := nd_del h.i.ok.nd (oldK c)
  -- the oldest
  obtain ⟨a0, r, ho⟩ : ∃ a0 r, o = a0 :: r := by
    cases o with
    | nil => simp at hf; omega
    | cons a r => exact ⟨a, r, rfl⟩
  have hold : oldK c = dstA a0 := by
    have ha0 : a0 ∈ o := by rw [ho]; exact List.mem_cons_self
    have hr0 := h.rg a0 ha0
    have hs0 := (h.mem ⟨hr0.1, by omega⟩).1 ha0
    cases hl : lookM c.M (dstA a0) with
    | none => rw [hl] at hs0; cases hs0
    | some x0 =>
      have hx0 := (look_mem h.i.ok.nd).1 hl
      have hst0 : stm c a0 = x0.hrd := by unfold stm; rw [hl]
      unfold oldK
      rcases oldest_spec c.M (c.hrd + 1) (zA 0) with ⟨_, h2⟩ | ⟨x, hx, e, _, h3⟩
      · have h4 := h2 _ hx0
        have h5 := (h.i.ok.ent _ hx0).2.2.2.1
        omega
      · rw [e]
        show x.1 = dstA a0
        have h4 := h3 _ hx0
        obtain ⟨i, hi, hix⟩ := h.i.ky x hx
        have hio : i ∈ o := (h.mem hi).2 (by
          have : lookM c.M (dstA i) = some x.2 := (look_mem h.i.ok.nd).2 (by rw [← hix]; exact hx)
          rw [this]; rfl)
        have hsi : stm c i = x.2.hrd := by
          have : lookM c.M (dstA i) = some x.2 := (look_mem h.i.ok.nd).2 (by rw [← hix]; exact hx)
          unfold stm; rw [this]
        rw [ho] at hio
        rcases List.mem_cons.1 hio with e2 | hir
        · rw [hix, e2]
        · have hso := h.so
          rw [ho, List.pairwise_cons] at hso
          have := hso.1 i hir
          rw [hst0, hsi] at this
          replace h4 : x.2.hrd ≤ x0.hrd := h4
          omega
  have hlk : ∀ a, 0 ≤ a → a < 12 → lookM c'.M (dstA a) = if a = 11 then some ⟨1300, first, 0, c.hrd + 1⟩ else if a = a0 then none else lookM c.M (dstA a) := fun a q0 q1 => by
    rw [hM, look_put hnd]
    have hr0 := h.rg a0 (by rw [ho]; exact List.mem_cons_self)
    by_cases e : a = 11
    · subst e; rw [if_pos rfl, if_pos rfl]
    · rw [if_neg e, if_neg (fun q => e (dst_inj ⟨q0, q1⟩ (by decide) q.symm)), look_del h.i.ok.nd, hold]
      by_cases e2 : a = a0
      · subst e2; rw [if_pos rfl, if_pos rfl]
      · rw [if_neg e2, if_neg (fun q => e2 (dst_inj ⟨q0, q1⟩ ⟨hr0.1, by omega⟩ q.symm))]
  refine ⟨c', hr, hw, ?_, ?_, fun i a hi => ?_⟩
  · have hdl : (delM c.M (oldK c)).length + 1 = c.M.length := by
      rw [len_del, if_neg]
      · have : 1 ≤ c.M.length := by omega
        omega
      · rw [hold]
        have ha0 : a0 ∈ o := by rw [ho]; exact List.mem_cons_self
        have hr0 := h.rg a0 ha0
        have hs0 := (h.mem ⟨hr0.1, by omega⟩).1 ha0
        cases hl : lookM c.M (dstA a0) with
        | none => rw [hl] at hs0; cases hs0
        | some x0 => simp
    have hn11 : lookM (delM c.M (oldK c)) (dstA 11) = none := by rw [look_del h.i.ok.nd, hl11]; split <;> rfl
    rw [hM, len_put, if_pos (by rw [hn11]; rfl)]
    omega
  · rw [hw.est, hlk 11 (by decide) (by decide), if_pos rfl]
  · have hao := List.mem_of_getElem? hi
    have hra := h.rg a hao
    rw [hw.est, hlk a hra.1 (by omega), if_neg (by omega)]
    by_cases e : a = a0
    · rw [if_pos e]
      refine ⟨fun _ => ?_, fun _ => rfl⟩
      have hi0 : o[0]? = some a := by rw [ho, e]; rfl
      obtain ⟨h1, h2⟩ := List.getElem?_eq_some_iff.1 hi
      obtain ⟨h3, h4⟩ := List.getElem?_eq_some_iff.1 hi0
      exact (List.getElem_inj h.nd).1 (h2.trans h4.symm)
    · rw [if_neg e]
      have hs := (h.mem ⟨hra.1, by omega⟩).1 hao
      cases hl : lookM c.M (dstA a) with
      | none => rw [hl] at hs; cases hs
      | some x =>
        have hgt := h.i.above_gt' ((look_mem h.i.ok.nd).1 hl)
        replace hgt : x.est < first := hgt
        constructor
        · intro (e2 : x.est = first); omega
        · intro e2
          subst e2
          rw [ho] at hi
          exact absurd (by simpa using hi.symm) e
end
end Go.Proofs.YtdinkhhaomblcaaDoor.SL
