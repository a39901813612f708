/- Plain: a wheel's timers, where they stand, what is told. No condition. -/
import Derived.Test.YtadhceoaoopcjaaWA
namespace Go.Proofs.Ytadhceoaoopcjaa.SL
theorem pl_due {t now to : Nat} (ht : t < 2 ^ 42) (hn : now < 2 ^ 42) (ho : to < 2 ^ 42) (h : now ≤ to) (hp : plN t now < plN to now) : t < to := by
  have h1 := dig_lt t (ringN t now)
  have h2 := dig_lt to (ringN to now)
  unfold plN at hp
  rcases Nat.lt_trichotomy (ringN t now) (ringN to now) with hr | hr | hr
  · exact due_low ht hn ho h hr
  · rw [hr] at hp; exact due_dig ht hn ho hr (by omega)
  · omega
theorem pl_stay {t now to : Nat} (ht : t < 2 ^ 42) (hn : now < 2 ^ 42) (ho : to < 2 ^ 42) (h : now ≤ t) (hp : plN to now < plN t now) : to < t ∧ plN t to = plN t now := by
  have h1 := dig_lt t (ringN t now)
  have h2 := dig_lt to (ringN to now)
  unfold plN at hp
  rcases Nat.lt_trichotomy (ringN to now) (ringN t now) with hr | hr | hr
  · exact stay_ring ht hn ho h hr
  · rw [← hr] at hp; exact stay_dig ht hn ho hr.symm (by omega)
  · omega
/-- A timer. -/
structure Du where
  id : Int
  t : Int
  x : Int
deriving DecidableEq
def plD (now : Int) (d : Du) : Nat := plN d.t.toNat now.toNat
def isAt (now : Int) (j : Nat) (d : Du) : Bool := decide (plD now d = j)
/-- The wheel as the document has it: the now, the latest id, those that wait in the order in which they were added. -/
structure Wh where
  now : Int
  last : Int
  L : List Du
structure WOk (s : Wh) : Prop where
  n0 : 0 ≤ s.now
  n1 : s.now ≤ 1099511627776
  ids : s.L.Pairwise fun a b => a.id < b.id
  i1 : ∀ d ∈ s.L, 1 ≤ d.id ∧ d.id ≤ s.last
  t1 : ∀ d ∈ s.L, s.now ≤ d.t ∧ d.t ≤ 1099511627776
  l0 : 0 ≤ s.last
  len : s.L.length ≤ 4096
/-- Where they stand. -/
def Stand (s : Wh) (ct : Nat → List Du) : Prop := ∀ j, j < 448 → (ct j).Perm (s.L.filter (isAt s.now j))
theorem nat42 {n : Int} (h : n ≤ 1099511627776) : n.toNat < 2 ^ 42 := by
  have : (2 : Nat) ^ 42 = 4398046511104 := rfl
  omega
theorem plD_lt {now : Int} {d : Du} (h1 : d.t ≤ 1099511627776) (h2 : now ≤ 1099511627776) : plD now d < 448 := pl_lt (nat42 h1) (nat42 h2)
section
variable {s : Wh} {ct : Nat → List Du}
theorem WOk.nodup (h : WOk s) : (s.L.map (·.id)).Nodup := by
  rw [List.nodup_iff_pairwise_ne, List.pairwise_map]
  exact h.ids.imp fun h => Int.ne_of_lt h
theorem WOk.one (h : WOk s) {a b : Du} (ha : a ∈ s.L) (hb : b ∈ s.L) (e : a.id = b.id) : a = b := by
  obtain ⟨i, hi, rfl⟩ := List.getElem_of_mem ha
  obtain ⟨j, hj, rfl⟩ := List.getElem_of_mem hb
  have hp := List.pairwise_iff_getElem.1 h.ids
  rcases Nat.lt_trichotomy i j with hlt | rfl | hlt
  · have := hp i j hi hj hlt; omega
  · rfl
  · have := hp j i hj hi hlt; omega
theorem Stand.mem (h : Stand s ct) {j : Nat} (hj : j < 448) {d : Du} : d ∈ ct j ↔ d ∈ s.L ∧ plD s.now d = j := by
  rw [(h j hj).mem_iff, List.mem_filter]
  unfold isAt
  rw [decide_eq_true_eq]
/-! ### Add -/
def addW (s : Wh) (t x : Int) : Wh := { s with last := s.last + 1, L := s.L ++ [⟨s.last + 1, t, x⟩] }
def addE (s : Wh) (t : Int) : Int := if t < s.now ∨ 1099511627776 < t then 1 else if 4096 ≤ (s.L.length : Int) then 270 else 0
theorem add_ok (h : WOk s) {t : Int} (x : Int) (he : addE s t = 0) : WOk (addW s t x) := by
  unfold addE at he
  have h1 : ¬ (t < s.now ∨ 1099511627776 < t) := fun e => by rw [if_pos e] at he; cases he
  rw [if_neg h1] at he
  have h2 : ¬ 4096 ≤ (s.L.length : Int) := fun e => by rw [if_pos e] at he; cases he
  refine ⟨h.n0, h.n1, ?_, ?_, ?_, ?_, ?_⟩
  · show (s.L ++ [_]).Pairwise _
    rw [List.pairwise_append]
    refine ⟨h.ids, List.pairwise_singleton _ _, fun a ha b hb => ?_⟩
    obtain rfl := List.mem_singleton.1 hb
    have := h.i1 a ha
    show a.id < s.last + 1
    omega
  · intro d hd
    have h0 := h.l0
    rcases List.mem_append.1 hd with hd | hd
    · have := h.i1 d hd
      show _ ∧ _ ≤ s.last + 1
      omega
    · obtain rfl := List.mem_singleton.1 hd
      show 1 ≤ s.last + 1 ∧ s.last + 1 ≤ s.last + 1
      omega
  · intro d hd
    rcases List.mem_append.1 hd with hd | hd
    · exact h.t1 d hd
    · obtain rfl := List.mem_singleton.1 hd
      show s.now ≤ t ∧ t ≤ _
      omega
  · have := h.l0
    show 0 ≤ s.last + 1
    omega
  · show (s.L ++ [_]).length ≤ _
    rw [List.length_append, List.length_singleton]
    omega
theorem add_stand (h : Stand s ct) (t x : Int) {k : Nat} (hk : plD s.now ⟨s.last + 1, t, x⟩ = k) : Stand (addW s t x) (fun j => if j = k then ct k ++ [⟨s.last + 1, t, x⟩] else ct j) := by
  intro j hj
  show (if j = k then _ else _ : List Du).Perm ((s.L ++ [_]).filter _)
  rw [List.filter_append]
  by_cases e : j = k
  · subst e
    rw [if_pos rfl, List.filter_cons_of_pos (by unfold isAt; rw [decide_eq_true_eq]; exact hk), List.filter_nil]
    exact List.Perm.append_right _ (h j hj)
  · rw [if_neg e, List.filter_cons_of_neg (by unfold isAt; rw [decide_eq_true_eq]; exact fun e2 => e (e2.symm.trans hk)), List.filter_nil, List.append_nil]
    exact h j hj
/-! ### At, Cancel -/
def findW (s : Wh) (id : Int) : Option Du := s.L.find? fun d => d.id == id
theorem findW_some {id : Int} {d : Du} (h : findW s id = some d) : d ∈ s.L ∧ d.id = id := by
  have := List.find?_some h
  exact ⟨List.mem_of_find?_eq_some h, by simpa using this⟩
theorem findW_none {id : Int} (h : findW s id = none) : ∀ d ∈ s.L, d.id ≠ id := by
  intro d hd e
  have := List.find?_eq_none.1 h d hd
  simp [e] at this
def notId (id : Int) (d : Du) : Bool := !(d.id == id)
def cutW (s : Wh) (id : Int) : Wh := { s with L := s.L.filter (notId id) }
theorem filter_ok (h : WOk s) (p : Du → Bool) : WOk { s with L := s.L.filter p } :=
  ⟨h.n0, h.n1, h.ids.sublist List.filter_sublist, fun d hd => h.i1 d ((List.mem_filter.1 hd).1), fun d hd => h.t1 d ((List.mem_filter.1 hd).1), h.l0, Nat.le_trans (List.length_filter_le _ _) h.len⟩
theorem cut_ok (h : WOk s) (id : Int) : WOk (cutW s id) := filter_ok h _
theorem cut_stand (hk : WOk s) (h : Stand s ct) {id : Int} {d : Du} (hd : findW s id = some d) {k : Nat} (hkk : plD s.now d = k) : Stand (cutW s id) (fun j => if j = k then (ct k).filter (notId id) else ct j) := by
  intro j hj
  show (if j = k then _ else _ : List Du).Perm ((s.L.filter _).filter _)
  obtain ⟨hm, hid⟩ := findW_some hd
  rw [List.filter_filter]
  by_cases e : j = k
  · subst e
    rw [if_pos rfl]
    have := (h j hj).filter (notId id)
    rw [List.filter_filter] at this
    refine this.trans (List.Perm.of_eq (List.filter_congr fun x _ => Bool.and_comm _ _))
  · rw [if_neg e]
    refine (h j hj).trans (List.Perm.of_eq (List.filter_congr fun x hx => ?_))
    cases hx2 : isAt s.now j x
    · simp [show isAt (cutW s id).now j x = false from hx2]
    · have hne : notId id x = true := by
        unfold notId
        by_cases hxe : x.id = id
        · have := hk.one hx hm (hxe.trans hid.symm)
          subst this
          unfold isAt at hx2
          rw [decide_eq_true_eq] at hx2
          exact absurd (hx2.symm.trans hkk) e
        · simpa using hxe
      simp [show isAt (cutW s id).now j x = true from hx2, hne]
/-! ### Next -/
theorem stand_first (hk : WOk s) (h : Stand s ct) {j : Nat} (hj : j < 448) (he : ∀ i, i < j → ct i = []) {d : Du} (hd : d ∈ ct j) {u : Du} (hu : u ∈ s.L) (hmin : ∀ y ∈ ct j, d.t ≤ y.t) : d.t ≤ u.t := by
  obtain ⟨hdm, hdp⟩ := (h.mem hj).1 hd
  have hul := plD_lt (hk.t1 u hu).2 hk.n1
  have humem : u ∈ ct (plD s.now u) := (h.mem hul).2 ⟨hu, rfl⟩
  rcases Nat.lt_trichotomy (plD s.now u) j with hlt | heq | hlt
  · rw [he _ hlt] at humem; cases humem
  · rw [heq] at humem; exact hmin u humem
  · have h1 := hk.t1 d hdm
    have h2 := hk.t1 u hu
    have h0 := hk.n0
    have := pl_due (t := d.t.toNat) (now := s.now.toNat) (to := u.t.toNat) (nat42 h1.2) (nat42 hk.n1) (nat42 h2.2) (by omega) (by unfold plD at hdp hlt; omega)
    omega
theorem stand_low (hk : WOk s) (h : Stand s ct) {r i : Nat} (hr : r < 7) (hi : i < digN s.now.toNat r) : ct (64 * r + i) = [] := by
  have hd := dig_lt s.now.toNat r
  have hj : 64 * r + i < 448 := by omega
  refine List.eq_nil_iff_forall_not_mem.2 fun d hm => ?_
  obtain ⟨hdm, hdp⟩ := (h.mem hj).1 hm
  have h1 := hk.t1 d hdm
  have h0 := hk.n0
  obtain ⟨e1, e2⟩ := pl_eq (by omega) hdp
  have := dig_ge (t := d.t.toNat) (now := s.now.toNat) (nat42 h1.2) (nat42 hk.n1) (by omega)
  rw [e1] at this
  omega
/-- The least tick. -/
def minT : List Du → Option Int
  | [] => none
  | d :: l => some (match minT l with | none => d.t | some m => if m < d.t then m else d.t)
theorem minT_spec : ∀ {l : List Du}, (minT l = none ↔ l = []) ∧ ∀ m, minT l = some m → (∃ d ∈ l, d.t = m) ∧ ∀ d ∈ l, m ≤ d.t
  | [] => ⟨⟨fun _ => rfl, fun _ => rfl⟩, fun m h => by cases h⟩
  | d :: l => by
    obtain ⟨h1, h2⟩ := @minT_spec l
    refine ⟨⟨fun h => (by cases h), fun h => (by cases h)⟩, fun m hm => ?_⟩
    unfold minT at hm
    injection hm with hm
    cases hl : minT l with
    | none =>
      rw [hl] at hm
      have := h1.1 hl
      subst this
      simp only at hm
      exact ⟨⟨d, List.mem_cons_self, hm⟩, fun x hx => by obtain rfl := List.mem_singleton.1 hx; omega⟩
    | some q =>
      rw [hl] at hm
      obtain ⟨⟨y, hy, hyq⟩, hq⟩ := h2 q hl
      simp only at hm
      by_cases hc : q < d.t
      · rw [if_pos hc] at hm
        subst hm
        refine ⟨⟨y, List.mem_cons_of_mem _ hy, hyq⟩, fun x hx => ?_⟩
        rcases List.mem_cons.1 hx with rfl | hx
        · omega
        · exact hq x hx
      · rw [if_neg hc] at hm
        subst hm
        refine ⟨⟨d, List.mem_cons_self, rfl⟩, fun x hx => ?_⟩
        rcases List.mem_cons.1 hx with rfl | hx
        · omega
        · have := hq x hx; omega
theorem minT_of {l : List Du} {d : Du} (hd : d ∈ l) (h : ∀ u ∈ l, d.t ≤ u.t) : minT l = some d.t := by
  cases hm : minT l with
  | none => have := minT_spec.1.1 hm; subst this; cases hd
  | some m =>
    obtain ⟨⟨y, hy, e⟩, hq⟩ := (minT_spec (l := l)).2 m hm
    have h1 := hq d hd
    have h2 := h y hy
    congr 1
    omega
/-! ### Advance -/
def dueP (to : Int) (d : Du) : Bool := decide (d.t ≤ to)
def advW (s : Wh) (to : Int) : Wh := { s with now := to, L := s.L.filter fun d => !dueP to d }
theorem adv_ok (h : WOk s) {to : Int} (h1 : s.now ≤ to) (h2 : to ≤ 1099511627776) : WOk (advW s to) := by
  have h0 := h.n0
  refine ⟨by show 0 ≤ to; omega, h2, h.ids.sublist List.filter_sublist, fun d hd => h.i1 d ((List.mem_filter.1 hd).1), fun d hd => ?_, h.l0, Nat.le_trans (List.length_filter_le _ _) h.len⟩
  have h3 := (List.mem_filter.1 hd).2
  have h4 := h.t1 d ((List.mem_filter.1 hd).1)
  unfold dueP at h3
  simp only [Bool.not_eq_true', decide_eq_false_iff_not] at h3
  show to ≤ d.t ∧ _
  omega
/-- Where the new now stands, seen from the old one. -/
def nxD (s : Wh) (to : Int) : Nat := plN to.toNat s.now.toNat
theorem nx_lt (h : WOk s) {to : Int} (h2 : to ≤ 1099511627776) : nxD s to < 448 := pl_lt (nat42 h2) (nat42 h.n1)
theorem lo_due (h : WOk s) {to : Int} (h1 : s.now ≤ to) (h2 : to ≤ 1099511627776) {d : Du} (hd : d ∈ s.L) (hp : plD s.now d < nxD s to) : dueP to d = true := by
  have h0 := h.n0
  have h3 := h.t1 d hd
  have := pl_due (t := d.t.toNat) (now := s.now.toNat) (to := to.toNat) (nat42 h3.2) (nat42 h.n1) (nat42 h2) (by omega) hp
  exact decide_eq_true (by omega)
theorem hi_stay (h : WOk s) {to : Int} (h1 : s.now ≤ to) (h2 : to ≤ 1099511627776) {d : Du} (hd : d ∈ s.L) (hp : nxD s to < plD s.now d) : dueP to d = false ∧ plD to d = plD s.now d := by
  have h0 := h.n0
  have h3 := h.t1 d hd
  have := pl_stay (t := d.t.toNat) (now := s.now.toNat) (to := to.toNat) (nat42 h3.2) (nat42 h.n1) (nat42 h2) (by omega) hp
  exact ⟨decide_eq_false (by omega), this.2⟩
/-- All lists ahead of place n, one behind the other. -/
def flat (ct : Nat → List Du) (n : Nat) : List Du := (List.range n).flatMap ct
theorem flat_zero (ct : Nat → List Du) : flat ct 0 = [] := rfl
theorem flat_succ (ct : Nat → List Du) (n : Nat) : flat ct (n + 1) = flat ct n ++ ct n := by
  unfold flat
  rw [List.range_succ, List.flatMap_append, List.flatMap_cons, List.flatMap_nil, List.append_nil]
theorem flat_empty (ct : Nat → List Du) (n : Nat) : ∀ k, (∀ i, i < k → ct (n + i) = []) → flat ct (n + k) = flat ct n
  | 0, _ => rfl
  | k + 1, h => by rw [← Nat.add_assoc, flat_succ, h k (Nat.lt_succ_self k), List.append_nil, flat_empty ct n k fun i hi => h i (by omega)]
theorem part_perm {α : Type} (p q r : α → Bool) : ∀ l : List α, (∀ x ∈ l, p x = (q x || r x)) → (∀ x ∈ l, q x = true → r x = false) → (l.filter p).Perm (l.filter q ++ l.filter r)
  | [], _, _ => List.Perm.refl _
  | x :: l, h1, h2 => by
    have ih := part_perm p q r l (fun y hy => h1 y (List.mem_cons_of_mem _ hy)) (fun y hy => h2 y (List.mem_cons_of_mem _ hy))
    have e1 := h1 x List.mem_cons_self
    have e2 := h2 x List.mem_cons_self
    cases hq : q x with
    | true =>
      rw [hq, Bool.true_or] at e1
      rw [List.filter_cons_of_pos e1, List.filter_cons_of_pos hq, List.filter_cons_of_neg (by rw [e2 hq]; decide)]
      exact List.Perm.cons x ih
    | false =>
      rw [hq, Bool.false_or] at e1
      cases hr : r x with
      | true =>
        rw [hr] at e1
        rw [List.filter_cons_of_pos e1, List.filter_cons_of_neg (by rw [hq]; decide), List.filter_cons_of_pos hr]
        exact (List.Perm.cons x ih).trans List.perm_middle.symm
      | false =>
        rw [hr] at e1
        rw [List.filter_cons_of_neg (by rw [e1]; decide), List.filter_cons_of_neg (by rw [hq]; decide), List.filter_cons_of_neg (by rw [hr]; decide)]
        exact ih
theorem flat_perm (h : Stand s ct) : ∀ n, n ≤ 448 → (flat ct n).Perm (s.L.filter fun d => decide (plD s.now d < n))
  | 0, _ => by
    rw [flat_zero, List.filter_eq_nil_iff.2 (fun d _ => by simp)]
  | n + 1, hn => by
    rw [flat_succ]
    refine ((flat_perm h n (by omega)).append (h n (by omega))).trans (part_perm _ _ _ _ (fun d _ => ?_) (fun d _ hd => ?_)).symm
    · unfold isAt
      rw [Bool.eq_iff_iff, Bool.or_eq_true, decide_eq_true_eq, decide_eq_true_eq, decide_eq_true_eq]
      omega
    · unfold isAt
      rw [decide_eq_true_eq] at hd
      exact decide_eq_false (by omega)
/-- What is due: what is told, in some order. -/
theorem due_perm (hk : WOk s) (h : Stand s ct) {to : Int} (h1 : s.now ≤ to) (h2 : to ≤ 1099511627776) : (flat ct (nxD s to) ++ (ct (nxD s to)).filter (dueP to)).Perm (s.L.filter (dueP to)) := by
  have hn := nx_lt hk h2
  have hb := (h _ hn).filter (dueP to)
  rw [List.filter_filter] at hb
  refine ((flat_perm h _ (by omega)).append hb).trans (part_perm _ _ _ _ (fun d hd => ?_) (fun d hd hp => ?_)).symm
  · unfold isAt
    rcases Nat.lt_trichotomy (plD s.now d) (nxD s to) with hlt | heq | hlt
    · rw [lo_due hk h1 h2 hd hlt, decide_eq_true hlt, Bool.true_or]
    · rw [decide_eq_false (by omega), Bool.false_or, decide_eq_true heq, Bool.and_true]
    · rw [(hi_stay hk h1 h2 hd hlt).1, decide_eq_false (by omega), Bool.false_and, Bool.or_false]
  · unfold isAt
    rw [decide_eq_true_eq] at hp
    rw [decide_eq_false (by omega), Bool.and_false]
/-- The lists behind Advance: all ahead of the now's place are taken, and that one; of that one those that go on are put anew. -/
def advC (s : Wh) (ct : Nat → List Du) (to : Int) (l : List Du) (j : Nat) : List Du := (if j ≤ nxD s to then [] else ct j) ++ l.filter fun d => !dueP to d && isAt to j d
theorem adv_stand (hk : WOk s) (h : Stand s ct) {to : Int} (h1 : s.now ≤ to) (h2 : to ≤ 1099511627776) : Stand (advW s to) (advC s ct to (ct (nxD s to))) := by
  intro j hj
  have hn := nx_lt hk h2
  show (_ ++ _ : List Du).Perm ((s.L.filter _).filter (isAt to j))
  rw [List.filter_filter]
  have hb := (h _ hn).filter (fun d => !dueP to d && isAt to j d)
  rw [List.filter_filter] at hb
  have ha : (if j ≤ nxD s to then [] else ct j).Perm (s.L.filter fun d => decide (nxD s to < plD s.now d) && isAt to j d) := by
    by_cases hc : j ≤ nxD s to
    · rw [if_pos hc, List.filter_eq_nil_iff.2 fun d hd => ?_]
      unfold isAt
      rw [Bool.and_eq_true, decide_eq_true_eq, decide_eq_true_eq]
      rintro ⟨g1, g2⟩
      have := (hi_stay hk h1 h2 hd g1).2
      omega
    · rw [if_neg hc]
      refine (h j hj).trans (List.Perm.of_eq (List.filter_congr fun d hd => ?_))
      unfold isAt
      rw [Bool.eq_iff_iff, Bool.and_eq_true, decide_eq_true_eq, decide_eq_true_eq, decide_eq_true_eq]
      constructor
      · intro e
        have := (hi_stay hk h1 h2 hd (by omega)).2
        omega
      · rintro ⟨g1, g2⟩
        have := (hi_stay hk h1 h2 hd g1).2
        omega
  refine (ha.append hb).trans (part_perm _ _ _ _ (fun d hd => ?_) (fun d hd hp => ?_)).symm
  · rcases Nat.lt_trichotomy (plD s.now d) (nxD s to) with hlt | heq | hlt
    · rw [lo_due hk h1 h2 hd hlt, decide_eq_false (by omega : ¬ nxD s to < plD s.now d)]
      simp
    · rw [decide_eq_false (by omega : ¬ nxD s to < plD s.now d), show isAt s.now (nxD s to) d = true from decide_eq_true heq]
      simp [Bool.and_comm]
    · rw [(hi_stay hk h1 h2 hd hlt).1, decide_eq_true hlt, show isAt s.now (nxD s to) d = false from decide_eq_false (by omega)]
      simp
  · rw [Bool.and_eq_true, decide_eq_true_eq] at hp
    rw [show isAt s.now (nxD s to) d = false from decide_eq_false (by omega), Bool.and_false]
end
/-! ### the order of telling -/
def ltD (a b : Du) : Bool := decide (a.t < b.t ∨ (a.t = b.t ∧ a.id < b.id))
theorem ltD_irrefl (a : Du) : ltD a a = false := decide_eq_false (by omega)
theorem ltD_trans {a b c : Du} (h1 : ltD a b = true) (h2 : ltD b c = true) : ltD a c = true := by
  unfold ltD at *
  rw [decide_eq_true_eq] at *
  omega
theorem ltD_tri {a b : Du} (h1 : ltD a b = false) (h2 : ltD b a = false) : a.t = b.t ∧ a.id = b.id := by
  unfold ltD at *
  rw [decide_eq_false_iff_not] at *
  omega
def OrdD (l : List Du) : Prop := l.Pairwise fun x y => ltD x y = true
theorem ordD_unique : ∀ {l m : List Du}, OrdD l → OrdD m → l.Perm m → l = m
  | [], m, _, _, hp => (List.perm_nil.1 hp.symm).symm
  | a :: l, [], _, _, hp => absurd (List.perm_nil.1 hp) (by simp)
  | a :: l, b :: m, h1, h2, hp => by
    have e : a = b := by
      have ha : a ∈ b :: m := hp.mem_iff.1 List.mem_cons_self
      have hb : b ∈ a :: l := hp.mem_iff.2 List.mem_cons_self
      rcases List.mem_cons.1 ha with rfl | ha
      · rfl
      · rcases List.mem_cons.1 hb with rfl | hb
        · rfl
        · have g1 := (List.pairwise_cons.1 h1).1 b hb
          have g2 := (List.pairwise_cons.1 h2).1 a ha
          have := ltD_trans g1 g2
          rw [ltD_irrefl] at this
          cases this
    subst e
    rw [ordD_unique (List.pairwise_cons.1 h1).2 (List.pairwise_cons.1 h2).2 (List.Perm.cons_inv hp)]
def insD (a : Du) : List Du → List Du
  | [] => [a]
  | b :: l => if ltD b a then b :: insD a l else a :: b :: l
def ordT (l : List Du) : List Du := l.foldr insD []
theorem insD_perm (a : Du) : ∀ l, (insD a l).Perm (a :: l)
  | [] => List.Perm.refl _
  | b :: l => by
    unfold insD
    split
    · exact (List.Perm.cons b (insD_perm a l)).trans (List.Perm.swap a b l)
    · exact List.Perm.refl _
theorem insD_ord {a : Du} : ∀ {l : List Du}, OrdD l → (∀ b ∈ l, b.id ≠ a.id) → OrdD (insD a l)
  | [], _, _ => List.pairwise_singleton _ _
  | b :: l, h, hn => by
    unfold insD
    obtain ⟨h1, h2⟩ := List.pairwise_cons.1 h
    by_cases hb : ltD b a = true
    · rw [if_pos hb]
      refine List.pairwise_cons.2 ⟨fun y hy => ?_, insD_ord h2 fun y hy => hn y (List.mem_cons_of_mem _ hy)⟩
      rcases List.mem_cons.1 ((insD_perm a l).mem_iff.1 hy) with rfl | hy
      · exact hb
      · exact h1 y hy
    · rw [if_neg hb]
      have hab : ltD a b = true := by
        cases hc : ltD a b
        · exact absurd (ltD_tri hc (by simpa using hb)).2.symm (hn b List.mem_cons_self)
        · rfl
      refine List.pairwise_cons.2 ⟨fun y hy => ?_, h⟩
      rcases List.mem_cons.1 hy with rfl | hy
      · exact hab
      · exact ltD_trans hab (h1 y hy)
theorem ordT_spec : ∀ {l : List Du}, (l.map (·.id)).Nodup → OrdD (ordT l) ∧ (ordT l).Perm l
  | [], _ => ⟨List.Pairwise.nil, List.Perm.refl _⟩
  | a :: l, h => by
    rw [List.map_cons, List.nodup_cons] at h
    obtain ⟨h1, h2⟩ := ordT_spec h.2
    have hp : (ordT (a :: l)).Perm (a :: l) := (insD_perm a _).trans (List.Perm.cons a h2)
    refine ⟨insD_ord h1 fun b hb e => h.1 ?_, hp⟩
    exact List.mem_map.2 ⟨b, h2.mem_iff.1 hb, e⟩
theorem ordT_of {l m : List Du} (hn : (l.map (·.id)).Nodup) (hm : OrdD m) (hp : m.Perm l) : m = ordT l :=
  ordD_unique hm (ordT_spec hn).1 (hp.trans (ordT_spec hn).2.symm)
theorem ordD_of_sorted {l : List Du} (hn : (l.map (·.id)).Nodup) (hs : l.Pairwise fun x y => ltD y x = false) : OrdD l := by
  unfold OrdD
  rw [List.nodup_iff_pairwise_ne, List.pairwise_map] at hn
  exact (hs.and hn).imp fun {x y} ⟨h1, h2⟩ => by
    cases hc : ltD x y
    · exact absurd (ltD_tri hc h1).2 h2
    · rfl
end Go.Proofs.Ytadhceoaoopcjaa.SL
