/- What a watch keeps, in plain Lean. No program in sight. -/
import Derived.Test.YtdinkhhaomblcaaDoorKE
import Derived.Test.YtdinkhhaomblcaaDoorKD
import Derived.Deep.QuietTactic
namespace Go.Proofs.YtdinkhhaomblcaaDoor.SL
open Go.RowKit Go.Proofs.YtdinkhhaomblcaaDoorW.PrintWords Go.Proofs.YtdinkhhaomblcaaDoorW.PrintLast Go.Proofs.YtdinkhhaomblcaaDoorW.PrintMore
theorem above_ge (n : Int) (h : n ≤ 65535) : n ≤ above n := by
  by_cases hn : n < 65535
  · have := (above_spec n).1 hn; omega
  · have : n = 65535 := by omega
    subst this
    decide
theorem above_top (n : Int) : above n ≤ 65535 := by
  have h := (above_spec n).2.1
  rw [isP_iff] at h
  omega
/-- The numbers of destinations. -/
theorem dstA_lit {k : Int} (h : 0 ≤ k ∧ k < 12) : dstA k = if k % 2 = 0 then fA k else sA k := by
  have := dN_id h
  unfold dN at this
  unfold dstA
  rw [this]
theorem dst_inj {i j : Int} (hi : 0 ≤ i ∧ i < 12) (hj : 0 ≤ j ∧ j < 12) (h : dstA i = dstA j) : i = j := by
  rw [dstA_lit hi, dstA_lit hj] at h
  split at h
  · split at h
    · have h2 := congrArg Ad.b h
      simpa [fA] using h2
    · have h2 := congrArg Ad.v h
      simp [fA, sA] at h2
  · split at h
    · have h2 := congrArg Ad.v h
      simp [fA, sA] at h2
    · have h2 := congrArg Ad.b h
      simpa [sA] using h2
/-- What holds of a watch's cache: k: an upper bound of what was heard. -/
structure WI (E A first now : Int) (c : Ca) (k : Int) : Prop where
  ok : OkC c
  ab : AllB c
  fl : FlC c
  fr : ∀ x ∈ c.M, x.2.fst = first
  ky : ∀ x ∈ c.M, ∃ i : Int, (0 ≤ i ∧ i < 12) ∧ x.1 = dstA i
  e : c.E = E
  a : c.A = A
  nn : c.now ≤ now
  n0 : 0 ≤ now
  hr : c.hrd ≤ k
  f1 : 1280 ≤ first
  f2 : first ≤ 65535
theorem WI.start (entries age first : Int) : WI (wE entries) (wA age) (wF first) 0 ⟨wE entries, wA age, [], 0, 0⟩ 0 := by
  obtain ⟨h1, h2, h3⟩ := w_rng entries age first
  exact ⟨okNew (w_ok entries age), by simp [AllB], by simp [FlC], by simp, by simp, rfl, rfl, Int.le_refl _, Int.le_refl _, Int.le_refl _, h3.1, h3.2⟩
section
variable {E A first now nw k : Int} {c : Ca}
theorem WI.may (h : WI E A first now c k) (h1 : now ≤ nw) (h2 : nw ≤ 1099511627776) : mayS c nw = true := decide_eq_true ⟨by have := h.nn; omega, h2⟩
theorem WI.get (h : WI E A first now c k) (n : Int) : getS c.M (dstA n) first = (estS c.M first n, 0) := (get_dst h.ok h.fl h.f1 h.f2 n).1
theorem meant_floor (a : Ad) (mtu length : Int) (h : (meantS a mtu length).2 = true) : floorA a ≤ (meantS a mtu length).1 := by
  have h68 := meant_68 a mtu length h
  unfold floorA
  by_cases h6 : a.v = 6
  · rw [if_pos h6]
    unfold meantS at *
    rw [if_pos h6] at h ⊢
    exact of_decide_eq_true h
  · rw [if_neg h6]; exact h68
/-- A Hear: it falls, or it changes no estimate. -/
theorem WI.hear (h : WI E A first now c k) (h1 : now ≤ nw) (h2 : nw ≤ 1099511627776) {n : Int} (hn : 0 ≤ n ∧ n < 12) (m l : Int) :
    ∃ c', hearS c (dstA n) first (meantS (dstA n) m l).1 (meantS (dstA n) m l).2 nw = (decide ((meantS (dstA n) m l).2 = true ∧ (meantS (dstA n) m l).1 < estS c.M first n), 0, c') ∧ WI E A first nw c' (k + 1) ∧
      (if (meantS (dstA n) m l).2 = true ∧ (meantS (dstA n) m l).1 < estS c.M first n then c'.M = putM (roomM c (dstA n)) (dstA n) ⟨(meantS (dstA n) m l).1, first, nw, c.hrd + 1⟩ ∧ c'.hrd = c.hrd + 1 else c'.M = c.M ∧ c'.hrd = c.hrd) := by
  have hm := h.may h1 h2
  have hg := h.get n
  have hok := hear_ok h.ok (a := dstA n) (first := first) (now := nw) (meant_68 (dstA n) m l)
  have hfl := meant_floor (dstA n) m l
  generalize meantS (dstA n) m l = mm at *
  obtain ⟨q, is⟩ := mm
  simp only at *
  have hnb : ¬ ((getS c.M (dstA n) first).2 ≠ 0 ∨ mayS c nw = false) := by rw [hg, hm]; simp
  have hg1 : (getS c.M (dstA n) first).1 = estS c.M first n := by rw [hg]
  by_cases hc : is = true ∧ q < estS c.M first n
  · have hnn : ¬ (is = false ∨ (getS c.M (dstA n) first).1 ≤ q) := by
      rw [hg1]
      rintro (e | e)
      · rw [hc.1] at e; cases e
      · omega
    have e : hearS c (dstA n) first q is nw = (true, 0, { c with now := nw, hrd := c.hrd + 1, M := putM (roomM c (dstA n)) (dstA n) ⟨q, first, nw, c.hrd + 1⟩ }) := by unfold hearS; rw [if_neg hnb, if_neg hnn]; rfl
    rw [e] at hok ⊢
    obtain ⟨r1, r2, _⟩ := room_ok (v := ⟨q, first, nw, c.hrd + 1⟩) h.ok (dstA n)
    have mem : ∀ x ∈ putM (roomM c (dstA n)) (dstA n) ⟨q, first, nw, c.hrd + 1⟩, x = (dstA n, ⟨q, first, nw, c.hrd + 1⟩) ∨ x ∈ c.M := fun x hx => ((mem_put r1 x).1 hx).elim .inl (fun h => .inr (r2 x h.1))
    refine ⟨_, by rw [decide_eq_true hc], ⟨hok, fun x hx => ?_, fun x hx => ?_, fun x hx => ?_, fun x hx => ?_, h.e, h.a, Int.le_refl _, by have := h.n0; omega, by have := h.hr; show c.hrd + 1 ≤ k + 1; omega, h.f1, h.f2⟩, by rw [if_pos hc]; exact ⟨rfl, rfl⟩⟩
    · rcases mem x hx with rfl | hx
      · exact dst_ok n
      · exact h.ab x hx
    · rcases mem x hx with rfl | hx
      · exact hfl hc.1
      · exact h.fl x hx
    · rcases mem x hx with rfl | hx
      · rfl
      · exact h.fr x hx
    · rcases mem x hx with rfl | hx
      · exact ⟨n, hn, rfl⟩
      · exact h.ky x hx
  · have hnn : is = false ∨ (getS c.M (dstA n) first).1 ≤ q := by
      rw [hg1]
      cases is
      · exact .inl rfl
      · exact .inr (Classical.byContradiction fun e => hc ⟨rfl, by omega⟩)
    have e : hearS c (dstA n) first q is nw = (false, 0, { c with now := nw }) := by unfold hearS; rw [if_neg hnb, if_pos hnn]
    rw [e] at hok ⊢
    exact ⟨_, by rw [decide_eq_false hc], ⟨hok, h.ab, h.fl, h.fr, h.ky, h.e, h.a, Int.le_refl _, by have := h.n0; omega, by have := h.hr; show c.hrd ≤ k + 1; omega, h.f1, h.f2⟩, by rw [if_neg hc]; exact ⟨rfl, rfl⟩⟩
/-- A Tick. -/
theorem WI.tick (h : WI E A first now c k) (h1 : now ≤ nw) (h2 : nw ≤ 1099511627776) :
    ∃ c', tickS c above nw = (0, c') ∧ c'.M = c.M.filterMap (rise c.A nw above) ∧ tickL c nw = ordS (dueS c.A nw c.M) ∧ WI E A first nw c' k ∧ c'.hrd = c.hrd := by
  have hm := h.may h1 h2
  have hnm : ¬ mayS c nw = false := by rw [hm]; simp
  have hok := tick_ok h.ok (above := above) above_68 (now := nw)
  have e : tickS c above nw = (0, { c with now := nw, M := c.M.filterMap (rise c.A nw above) }) := by unfold tickS; rw [if_neg hnm]
  rw [e] at hok ⊢
  have key : ∀ x ∈ c.M.filterMap (rise c.A nw above), ∃ u ∈ c.M, x.1 = u.1 ∧ x.2.fst = u.2.fst ∧ u.2.est ≤ x.2.est := fun x hx => by
    obtain ⟨u, hu, hr⟩ := List.mem_filterMap.1 hx
    have hent := h.ok.ent u hu
    refine ⟨u, hu, (rise_key hr).1, ?_⟩
    unfold rise at hr
    split at hr
    · split at hr
      · cases hr
      · rw [← Option.some.inj hr]
        exact ⟨rfl, above_ge _ (by omega)⟩
    · rw [← Option.some.inj hr]; exact ⟨rfl, Int.le_refl _⟩
  refine ⟨_, rfl, rfl, if_neg hnm, ⟨hok, fun x hx => ?_, fun x hx => ?_, fun x hx => ?_, fun x hx => ?_, h.e, h.a, Int.le_refl _, by have := h.n0; omega, h.hr, h.f1, h.f2⟩, rfl⟩
  · obtain ⟨u, hu, e1, _⟩ := key x hx
    rw [e1]; exact h.ab u hu
  · obtain ⟨u, hu, e1, _, e3⟩ := key x hx
    rw [e1]
    have := h.fl u hu
    omega
  · obtain ⟨u, hu, _, e2, _⟩ := key x hx
    rw [e2]; exact h.fr u hu
  · obtain ⟨u, hu, e1, _⟩ := key x hx
    rw [e1]; exact h.ky u hu
/-- An estimate, by the map. -/
theorem WI.est (h : WI E A first now c k) (n : Int) : estS c.M first n = match lookM c.M (dstA n) with | some x => x.est | none => first := by
  have hg := h.get n
  have hfl := floor_le (dstA n)
  have hf1 := h.f1
  have hf2 := h.f2
  have hgg : getS c.M (dstA n) first = match lookM c.M (dstA n) with | some x => (if x.est < first then x.est else first, 0) | none => (first, 0) := if_neg (fun h => h.elim (fun h => by rw [dst_valid] at h; cases h) (fun h => by omega))
  unfold estS
  rw [hgg]
  cases hl : lookM c.M (dstA n) with
  | none => rfl
  | some x =>
    have hm := (look_mem h.ok.nd).1 hl
    have h1 := h.ok.ent _ hm
    have h2 := h.fr _ hm
    show (if x.est < first then x.est else first) = x.est
    rw [if_pos (by have h3 : x.est < x.fst := h1.2.2.2.2.2.1; have h4 : x.fst = first := h2; omega)]
end
end Go.Proofs.YtdinkhhaomblcaaDoor.SL
namespace Go.Proofs.YtdinkhhaomblcaaDoor.SL
open Go.RowKit Go.Proofs.YtdinkhhaomblcaaDoorW.PrintWords Go.Proofs.YtdinkhhaomblcaaDoorW.PrintLast Go.Proofs.YtdinkhhaomblcaaDoorW.PrintMore
theorem look_put {M : Mp} (h : NdM M) {a b : Ad} {v : Bel} : lookM (putM M a v) b = if a = b then some v else lookM M b := by
  have hn := nd_put h a v
  apply Option.ext
  intro u
  rw [look_mem hn, mem_put h]
  by_cases e : a = b
  · subst e
    rw [if_pos rfl]
    constructor
    · rintro (h1 | ⟨_, h1⟩)
      · injection h1 with h1 h2
        rw [h2]
      · exact absurd rfl h1
    · intro h1
      injection h1 with h1
      exact .inl (by rw [h1])
  · rw [if_neg e, look_mem h]
    constructor
    · rintro (h1 | ⟨h1, _⟩)
      · injection h1 with h1 _
        exact absurd h1.symm e
      · exact h1
    · exact fun h1 => .inr ⟨h1, fun h2 => e h2.symm⟩
theorem look_del {M : Mp} (h : NdM M) {o b : Ad} : lookM (delM M o) b = if o = b then none else lookM M b := by
  have hn := nd_del h o
  apply Option.ext
  intro u
  rw [look_mem hn, mem_del h]
  by_cases e : o = b
  · subst e
    rw [if_pos rfl]
    exact ⟨fun h1 => absurd rfl h1.2, fun h1 => by cases h1⟩
  · rw [if_neg e, look_mem h]
    exact ⟨fun h1 => h1.1, fun h1 => ⟨h1, fun h2 => e h2.symm⟩⟩
/-- What PmtuFalls asks of a Hear: was, is: the estimates ahead of it and behind. -/
structure FallF (E first : Int) (fell : Bool) (n : Int) (len : Nat) (was is : Int → Int) : Prop where
  p0 : ∀ j, 0 ≤ j → j < 12 → 0 ≤ was j ∧ 0 ≤ is j
  p1 : decide (is n < was n) = fell ∧ is n ≤ was n
  p2 : ∀ j, 0 ≤ j → j < 12 → j ≠ n → was j ≤ is j
  p3 : ∀ j, 0 ≤ j → j < 12 → j ≠ n → is j ≠ was j → fell = true ∧ is j = first ∧ (len : Int) = E ∧ was n = first
  p4 : ∀ i j, 0 ≤ i → i < 12 → 0 ≤ j → j < 12 → i ≠ n → j ≠ n → is i ≠ was i → is j ≠ was j → i = j
section
variable {E A first now nw k k' : Int} {c c' : Ca}
theorem WI.est_rng (h : WI E A first now c k) (n : Int) : 68 ≤ estS c.M first n ∧ estS c.M first n ≤ first := by
  have h1 := get_dst h.ok h.fl h.f1 h.f2 n
  have h2 := floor_le (dstA n)
  omega
/-- The oldest key. -/
def oldK (c : Ca) : Ad := (oldest (c.hrd + 1) (zA 0) c.M).2
theorem fall_spec (h : WI E A first now c k) (h' : WI E A first nw c' k') {n : Int} (hn : 0 ≤ n ∧ n < 12) {q : Int} {is : Bool}
    (hM : if is = true ∧ q < estS c.M first n then c'.M = putM (roomM c (dstA n)) (dstA n) ⟨q, first, nw, c.hrd + 1⟩ ∧ c'.hrd = c.hrd + 1 else c'.M = c.M ∧ c'.hrd = c.hrd) :
    FallF E first (decide (is = true ∧ q < estS c.M first n)) n c.M.length (estS c.M first) (estS c'.M first) ∧ (is = true ∧ q < estS c.M first n → estS c'.M first n = q) := by
  have p0 : ∀ j, 0 ≤ j → j < 12 → 0 ≤ estS c.M first j ∧ 0 ≤ estS c'.M first j := fun j _ _ => by
    have h1 := h.est_rng j
    have h2 := h'.est_rng j
    omega
  by_cases hc : is = true ∧ q < estS c.M first n
  · rw [if_pos hc] at hM
    rw [decide_eq_true hc]
    obtain ⟨hM, _⟩ := hM
    have hr := (room_ok (v := ⟨q, first, nw, c.hrd + 1⟩) h.ok (dstA n)).1
    have hself : estS c'.M first n = q := by
      rw [h'.est, hM, look_put hr, if_pos rfl]
    have hoth : ∀ j, 0 ≤ j → j < 12 → j ≠ n → estS c'.M first j = estS c.M first j ∨ (estS c'.M first j = first ∧ (c.M.length : Int) = E ∧ estS c.M first n = first ∧ dstA j = oldK c) := fun j j0 j1 hj => by
      have hne : dstA n ≠ dstA j := fun e => hj (dst_inj ⟨j0, j1⟩ hn e.symm)
      rw [h'.est j, hM, look_put hr, if_neg hne]
      unfold roomM
      by_cases hroom : (lookM c.M (dstA n)).isNone = true ∧ c.E ≤ (c.M.length : Int)
      · rw [if_pos hroom]
        unfold forgetS
        rw [look_del h.ok.nd]
        by_cases ho : (oldest (c.hrd + 1) (zA 0) c.M).2 = dstA j
        · rw [if_pos ho]
          refine .inr ⟨rfl, ?_, ?_, ho.symm⟩
          · have := h.ok.len
            have := h.e
            omega
          · rw [h.est n, Option.isNone_iff_eq_none.1 hroom.1]
        · rw [if_neg ho, ← h.est j]; exact .inl rfl
      · rw [if_neg hroom, ← h.est j]; exact .inl rfl
    refine ⟨⟨p0, ⟨decide_eq_true (by rw [hself]; exact hc.2), by rw [hself]; omega⟩, fun j j0 j1 hj => ?_, fun j j0 j1 hj hd => ?_, fun i j i0 i1 j0 j1 hi hj di dj => ?_⟩, fun _ => hself⟩
    · rcases hoth j j0 j1 hj with e | ⟨e, _⟩
      · omega
      · rw [e]; exact (h.est_rng j).2
    · rcases hoth j j0 j1 hj with e | ⟨e1, e2, e3, _⟩
      · exact absurd e hd
      · exact ⟨rfl, e1, e2, e3⟩
    · rcases hoth i i0 i1 hi with e | ⟨_, _, _, e1⟩
      · exact absurd e di
      · rcases hoth j j0 j1 hj with e | ⟨_, _, _, e2⟩
        · exact absurd e dj
        · exact dst_inj ⟨i0, i1⟩ ⟨j0, j1⟩ (e1.trans e2.symm)
  · rw [if_neg hc] at hM
    rw [decide_eq_false hc]
    have e : ∀ j, estS c'.M first j = estS c.M first j := fun j => by rw [hM.1]
    exact ⟨⟨p0, ⟨decide_eq_false (by rw [e]; omega), by rw [e]; omega⟩, fun j _ _ _ => by rw [e]; omega, fun j _ _ _ hd => absurd (e j) hd, fun i j _ _ _ _ _ _ hd => absurd (e i) hd⟩, fun h => absurd h hc⟩
/-- Ticks lower none. -/
theorem tick_est (h : WI E A first now c k) (h' : WI E A first nw c' k') (hM : c'.M = c.M.filterMap (rise c.A nw above)) (j : Int) : estS c.M first j ≤ estS c'.M first j := by
  rw [h.est, h'.est]
  cases hl : lookM c.M (dstA j) with
  | none =>
    have : lookM c'.M (dstA j) = none := by
      rw [look_none]
      intro x hx e
      rw [hM] at hx
      obtain ⟨u, hu, hr⟩ := List.mem_filterMap.1 hx
      exact look_none.1 hl u hu ((rise_key hr).1.symm.trans e)
    rw [this]
    exact Int.le_refl _
  | some x =>
    have hm := (look_mem h.ok.nd).1 hl
    have hent := h.ok.ent _ hm
    have hfr := h.fr _ hm
    cases hl' : lookM c'.M (dstA j) with
    | none => show x.est ≤ first; have h3 : x.est < x.fst := hent.2.2.2.2.2.1; have h4 : x.fst = first := hfr; omega
    | some y =>
      show x.est ≤ y.est
      have hm' := (look_mem h'.ok.nd).1 hl'
      rw [hM] at hm'
      obtain ⟨u, hu, hr⟩ := List.mem_filterMap.1 hm'
      have hk := (rise_key hr).1
      have : u = (dstA j, x) := NdM.one h.ok.nd hu hm hk.symm
      subst this
      unfold rise at hr
      split at hr
      · split at hr
        · cases hr
        · injection hr with hr
          injection hr with _ hr
          rw [← hr]
          have h3 : x.est < x.fst := hent.2.2.2.2.2.1
          have h5 : x.fst ≤ 65535 := hent.2.2.2.2.2.2
          exact above_ge _ (by omega)
      · injection hr with hr
        injection hr with _ hr
        rw [← hr]
        exact Int.le_refl _
end
/-- How many others changed. -/
def pz (n : Int) (was is : Int → Int) : Nat → Int
  | 0 => 0
  | k + 1 => pz n was is k + if (k : Int) ≠ n ∧ is k ≠ was k then 1 else 0
theorem pz_zero {n : Int} {was is : Int → Int} : ∀ k, (∀ j : Nat, j < k → ¬ ((j : Int) ≠ n ∧ is j ≠ was j)) → pz n was is k = 0
  | 0, _ => rfl
  | k + 1, h => by rw [pz, pz_zero k (fun j hj => h j (by omega)), if_neg (h k (by omega))]; rfl
theorem pz_le {n : Int} {was is : Int → Int} : ∀ k, (∀ i j : Nat, i < k → j < k → ((i : Int) ≠ n ∧ is i ≠ was i) → ((j : Int) ≠ n ∧ is j ≠ was j) → i = j) → 0 ≤ pz n was is k ∧ pz n was is k ≤ 1
  | 0, _ => by simp [pz]
  | k + 1, h => by
    obtain ⟨h0, h1⟩ := pz_le k (fun i j hi hj => h i j (by omega) (by omega))
    rw [pz]
    by_cases hk : (k : Int) ≠ n ∧ is k ≠ was k
    · rw [if_pos hk, pz_zero k (fun j hj hd => by have := h k j (by omega) (by omega) hk hd; omega)]
      decide
    · rw [if_neg hk]; omega
/-- Is that the estimate that the message means? -/
def meant2S (a : Ad) (m l is : Int) : Bool := if a.v = 6 then is == m else if m = 0 then decide (is < max l 69) else is == max m 68
theorem meant2_true (a : Ad) (m l : Int) : meant2S a m l (meantS a m l).1 = true := by
  unfold meant2S meantS
  by_cases h6 : a.v = 6
  · rw [if_pos h6, if_pos h6]; simp
  · rw [if_neg h6, if_neg h6]
    by_cases h0 : m = 0
    · rw [if_pos h0, if_pos h0]
      have hs := below_spec l
      refine decide_eq_true ?_
      show below l < max l 69
      by_cases hl : 68 < l
      · have := hs.2.2.2 hl; omega
      · have : below l = 68 := below_12 l (by omega)
        omega
    · rw [if_neg h0, if_neg h0]; simp
end Go.Proofs.YtdinkhhaomblcaaDoor.SL
namespace Go.Proofs.YtdinkhhaomblcaaDoor.SL
open Go.RowKit Go.Proofs.YtdinkhhaomblcaaDoorW.PrintWords Go.Proofs.YtdinkhhaomblcaaDoorW.PrintLast Go.Proofs.YtdinkhhaomblcaaDoorW.PrintMore
set_option maxHeartbeats 4000000 in
theorem meant2_calls (a : Ad) (x : Nw) (is : Int) (w : World) : Calls Tryd.prog 21 #[.agg (aV a), .agg (nL x).toArray, .int .i64 is] w fun e w' => e = .returned (.bool (meant2S a x.m x.l is)) ∧ Below w.heap.size w w' := by
  have HS : Hid (St w ((w.alloc (.cells (aV a) 32)).alloc (.cells (nL x).toArray 55)) [obB (w.alloc (.cells (aV a) 32)).heap.size (nL x).toArray 55, obB w.heap.size (aV a) 32]) := Lib.hid (((St.nil w).boxF (aV a) 32).boxF (nL x).toArray 55)
  have hsz : (w.alloc (.cells (aV a) 32)).heap.size = w.heap.size + 1 := by simp
  rw [hsz] at HS
  have cV := cell_V (show ((w.alloc (.cells (aV a) 32)).alloc (.cells (nL x).toArray 55)).heap[w.heap.size]? = some (.cells (aV a) 32 (0, 0)) from HS.out.get 1 rfl)
  have q2 : ((w.alloc (.cells (aV a) 32)).alloc (.cells (nL x).toArray 55)).cell? ⟨w.heap.size + 1, 2, none⟩ = some (.int .i64 x.m) := HS.out.cellB 0 rfl 2 rfl
  have q3 : ((w.alloc (.cells (aV a) 32)).alloc (.cells (nL x).toArray 55)).cell? ⟨w.heap.size + 1, 3, none⟩ = some (.int .i64 x.l) := HS.out.cellB 0 rfl 3 rfl
  clear hsz
  go_enter Tryd.func21, Tryd.ntmps21
  by_cases h6 : a.v = 6
  · have b6 : (a.v == 6) = true := by simpa using h6
    have HM := Lib.hid (show meant2S a x.m x.l is = (is == x.m) from if_pos h6)
    clear h6
    go_wp2_with fail
    go_ret
    exact ⟨by rw [HM.out]; rfl, HS.out.bl⟩
  · have b6 : (a.v == 6) = false := by simpa using h6
    by_cases h0 : x.m = 0
    · have b0 : (x.m == 0) = true := by simpa using h0
      have HM := Lib.hid (show meant2S a x.m x.l is = decide (is < max x.l 69) by unfold meant2S; rw [if_neg h6, if_pos h0])
      clear h6 h0
      go_wp2_with fail
      go_ret
      exact ⟨by rw [HM.out]; rfl, HS.out.bl⟩
    · have b0 : (x.m == 0) = false := by simpa using h0
      have HM := Lib.hid (show meant2S a x.m x.l is = (is == max x.m 68) by unfold meant2S; rw [if_neg h6, if_neg h0])
      clear h6 h0
      go_wp2_with fail
      go_ret
      exact ⟨by rw [HM.out]; rfl, HS.out.bl⟩
theorem c_meant2 {w0 w : World} {Γ : List Ob} (h : St w0 w Γ) (a : Ad) (x : Nw) (is : Int) {r : Bool} (hr : meant2S a x.m x.l is = r) : Calls Tryd.prog 21 #[.agg (aV a), .agg (nL x).toArray, .int .i64 is] w fun e w' => e = .returned (.bool r) ∧ St w0 w' Γ := by
  subst hr
  exact (meant2_calls a x is w).mono fun _ _ ⟨he, hb⟩ => ⟨he, h.below hb⟩
/-- Twelve estimates. -/
def estQ (f : Int → Int) : Array Value := ((List.range 12).map fun (j : Nat) => Value.int .i64 (f (j : Int))).toArray
theorem estP_Q (M : Mp) (first : Int) : estP M first 12 = estQ (estS M first) := by
  exact congrArg List.toArray (List.map_congr_left fun j hj => if_pos (List.mem_range.1 hj))
theorem estQ_size (f : Int → Int) : (estQ f).size = 12 := by simp [estQ]
theorem estQ_get (f : Int → Int) (j : Nat) (hj : j < 12) : (estQ f)[j]? = some (.int .i64 (f (j : Int))) := by
  unfold estQ
  rw [List.getElem?_toArray, List.getElem?_map, List.getElem?_range hj]
  rfl
theorem estQ_one (f : Int → Int) : (estQ f).all (·.oneCell') = true := by
  refine Array.all_eq_true_iff_forall_mem.2 fun u hu => ?_
  simp only [estQ, List.mem_toArray, List.mem_map] at hu
  obtain ⟨j, _, rfl⟩ := hu
  rfl
theorem c_wallK {w0 w : World} {Δ : List Ob} {wp p b : Nat} {E A first now : Int} {hv : Value} {hd : List Int} {c : Ca} (h : St w0 w (Wat wp p b E A first now hv hd c Δ)) {k : Int} (hi : WI E A first now c k) {f : Int → Int} (hf : estS c.M first = f) :
    Calls Tryd.prog 17 #[.pointer (some ⟨wp, 0, none⟩)] w fun e w' => e = .returned (.agg (estQ f)) ∧ St w0 w' (Wat wp p b E A first now hv hd c Δ) := by
  subst hf
  rw [← estP_Q]
  exact c_wall h hi.ok hi.fl hi.f1 hi.f2
theorem wpList_alloc12 {ops : Array Oper} {rest : List Oper} {o : Oper} {a : Act} {Q : Exit → Act → World → Prop} {w0 W : World} {Γ : List Ob} (h : St w0 W Γ) (hgd : o.guard = none) (ho : o.op = .alloc 49)
    (K : ∀ W', St w0 W' (obB W.heap.size #[.int .i64 0, .int .i64 0, .int .i64 0, .int .i64 0, .int .i64 0, .int .i64 0, .int .i64 0, .int .i64 0, .int .i64 0, .int .i64 0, .int .i64 0, .int .i64 0] 49 :: Γ) → wpList Tryd.prog ops Q rest (a.put o.dst (.pointer (some ⟨W.heap.size, 0, none⟩))) W') : wpList Tryd.prog ops Q (o :: rest) a W :=
  wpList_alloc_B hgd 49 ho _ zero12 _ rfl h fun W' _ hs => K W' hs.front1
/-- The k-th piece of news' cells. -/
structure NwAt (w : World) (ad : Addr) (k : Nat) (x : Nw) : Prop where
  n0 : w.cell? (ad.add (k * 5)) = some (.int .i64 x.k)
  n1 : w.cell? ⟨(ad.add (k * 5)).block, (ad.add (k * 5)).off + 1, none⟩ = some (.int .i64 x.d)
  n2 : w.cell? ⟨(ad.add (k * 5)).block, (ad.add (k * 5)).off + 2, none⟩ = some (.int .i64 x.m)
  n3 : w.cell? ⟨(ad.add (k * 5)).block, (ad.add (k * 5)).off + 3, none⟩ = some (.int .i64 x.l)
  n4 : w.cell? ⟨(ad.add (k * 5)).block, (ad.add (k * 5)).off + 4, none⟩ = some (.int .i64 x.t)
theorem nw_at {w : World} {A : Option Addr} {s : List Nw} (h : kN.C w A s.length s) (k : Nat) (hk : k < s.length) : ∃ ad, A = some ad ∧ NwAt w ad k (s.getD k zN) := by
  obtain ⟨ad, c, hA, _, hK, hc⟩ := Kd.C_get h zN (k : Int) (by omega) (by omega)
  obtain rfl : c = nL (s.getD (k : Int).toNat zN) := hK
  rw [Int.toNat_natCast] at hc
  have hc' : ∀ j u, (nL (s.getD k zN))[j]? = some u → w.cell? (ad.add (k * 5 + j)) = some u := hc
  refine ⟨ad, hA, ⟨hc' 0 _ rfl, ?_, ?_, ?_, ?_⟩⟩
  · rw [← add_field _ _ 1 (by omega)]; exact hc' 1 _ rfl
  · rw [← add_field _ _ 2 (by omega)]; exact hc' 2 _ rfl
  · rw [← add_field _ _ 3 (by omega)]; exact hc' 3 _ rfl
  · rw [← add_field _ _ 4 (by omega)]; exact hc' 4 _ rfl
theorem NwAt.below {w w' : World} {ad : Addr} {k : Nat} {x : Nw} (h : NwAt w ad k x) (hb : Below w.heap.size w w') : NwAt w' ad k x := by
  have hlt : ad.block < w.heap.size := by
    have := World.block_lt_of_cell? w _ h.n0
    rwa [add_block'] at this
  have hbl : (ad.add (k * 5)).block = ad.block := add_block' _ _
  have key : ∀ q : Addr, q.block = ad.block → w'.cell? q = w.cell? q := fun q hq => World.cell?_of_block (w := w) (by rw [hq]; exact hb.block _ hlt)
  exact ⟨(key _ hbl).trans h.n0, (key ⟨(ad.add (k * 5)).block, _, none⟩ hbl).trans h.n1, (key ⟨(ad.add (k * 5)).block, _, none⟩ hbl).trans h.n2, (key ⟨(ad.add (k * 5)).block, _, none⟩ hbl).trans h.n3, (key ⟨(ad.add (k * 5)).block, _, none⟩ hbl).trans h.n4⟩
end Go.Proofs.YtdinkhhaomblcaaDoor.SL
