/- What the cache of estimates tells and keeps, in plain Lean. No program in sight. -/
import Derived.Test.YtdinkhhaomblcaaDoorMr
namespace Go.Proofs.YtdinkhhaomblcaaDoor.SL
open Go.RowKit Go.Proofs.YtdinkhhaomblcaaDoorW.PrintWords Go.Proofs.YtdinkhhaomblcaaDoorW.PrintLast Go.Proofs.YtdinkhhaomblcaaDoorW.PrintMore
/-- A cache: its bounds, its entries (in any order), the last now, the latest number of hearing. -/
structure Ca where
  E : Int
  A : Int
  M : Mp
  now : Int
  hrd : Int
def floorA (a : Ad) : Int := if a.v = 6 then 1280 else 68
/-- Get: the estimate and the error. -/
def getS (M : Mp) (a : Ad) (first : Int) : Int × Int :=
  if validA a = false ∨ first < floorA a ∨ 65535 < first then (0, 1)
  else match lookM M a with
    | some x => (if x.est < first then x.est else first, 0)
    | none => (first, 0)
def mayS (c : Ca) (now : Int) : Bool := decide (c.now ≤ now ∧ now ≤ 1099511627776)
/-- The one heard longest ago. -/
def oldest (least : Int) (a0 : Ad) : Mp → Int × Ad
  | [] => (least, a0)
  | x :: M => if x.2.hrd < least then oldest x.2.hrd x.1 M else oldest least a0 M
def forgetS (c : Ca) : Mp := delM c.M (oldest (c.hrd + 1) (zA 0) c.M).2
/-- Hear: whether it fell, the error, the cache behind. n: what the message means; is: whether it means any. -/
def hearS (c : Ca) (a : Ad) (first : Int) (n : Int) (is : Bool) (now : Int) : Bool × Int × Ca :=
  if (getS c.M a first).2 ≠ 0 ∨ mayS c now = false then (false, 1, c)
  else if is = false ∨ (getS c.M a first).1 ≤ n then (false, 0, { c with now := now })
  else (true, 0, { c with now := now, hrd := c.hrd + 1, M := putM (if (lookM c.M a).isNone ∧ c.E ≤ (c.M.length : Int) then forgetS c else c.M) a ⟨n, first, now, c.hrd + 1⟩ })
/-- An entry behind a tick. -/
def rise (A now : Int) (above : Int → Int) (x : Ad × Bel) : Option (Ad × Bel) :=
  if A ≤ now - x.2.clk then (if x.2.fst ≤ above x.2.est then none else some (x.1, { x.2 with est := above x.2.est, clk := now })) else some x
def dueS (A now : Int) (M : Mp) : List Ad := (M.filter fun x => decide (A ≤ now - x.2.clk)).map (·.1)
/-- What holds of every cache that was made. -/
structure OkC (c : Ca) : Prop where
  e1 : 1 ≤ c.E
  e64 : c.E ≤ 64
  a1 : 1 ≤ c.A
  a2 : c.A ≤ 1099511627776
  n0 : 0 ≤ c.now
  n1 : c.now ≤ 1099511627776
  h0 : 0 ≤ c.hrd
  len : (c.M.length : Int) ≤ c.E
  nd : (c.M.map (·.1)).Nodup
  hd : ∀ x ∈ c.M, ∀ y ∈ c.M, x.2.hrd = y.2.hrd → x = y
  ent : ∀ x ∈ c.M, 0 ≤ x.2.clk ∧ x.2.clk ≤ c.now ∧ 1 ≤ x.2.hrd ∧ x.2.hrd ≤ c.hrd ∧ 68 ≤ x.2.est ∧ x.2.est < x.2.fst ∧ x.2.fst ≤ 65535
theorem oldest_spec : ∀ (M : Mp) (least : Int) (a0 : Ad), (oldest least a0 M = (least, a0) ∧ ∀ x ∈ M, least ≤ x.2.hrd) ∨ ∃ x ∈ M, oldest least a0 M = (x.2.hrd, x.1) ∧ x.2.hrd < least ∧ ∀ y ∈ M, x.2.hrd ≤ y.2.hrd
  | [], _, _ => .inl ⟨rfl, by simp⟩
  | z :: M, least, a0 => by
    unfold oldest
    by_cases h : z.2.hrd < least
    · rw [if_pos h]
      rcases oldest_spec M z.2.hrd z.1 with ⟨h1, h2⟩ | ⟨x, hx, h1, h2, h3⟩
      · refine .inr ⟨z, List.mem_cons_self, h1, h, fun y hy => ?_⟩
        rcases List.mem_cons.1 hy with rfl | hy
        · exact Int.le_refl _
        · exact h2 y hy
      · refine .inr ⟨x, List.mem_cons_of_mem _ hx, h1, by omega, fun y hy => ?_⟩
        rcases List.mem_cons.1 hy with rfl | hy
        · omega
        · exact h3 y hy
    · rw [if_neg h]
      rcases oldest_spec M least a0 with ⟨h1, h2⟩ | ⟨x, hx, h1, h2, h3⟩
      · refine .inl ⟨h1, fun y hy => ?_⟩
        rcases List.mem_cons.1 hy with rfl | hy
        · omega
        · exact h2 y hy
      · refine .inr ⟨x, List.mem_cons_of_mem _ hx, h1, h2, fun y hy => ?_⟩
        rcases List.mem_cons.1 hy with rfl | hy
        · omega
        · exact h3 y hy
/-! ### the map, by its members -/
def NdM (M : Mp) : Prop := (M.map (·.1)).Nodup
theorem NdM.one {M : Mp} (h : NdM M) {x y : Ad × Bel} (hx : x ∈ M) (hy : y ∈ M) (e : x.1 = y.1) : x = y := by
  obtain ⟨i, hi, rfl⟩ := List.getElem_of_mem hx
  obtain ⟨j, hj, rfl⟩ := List.getElem_of_mem hy
  have h1 : (M.map (·.1))[i]'(by rw [List.length_map]; exact hi) = (M.map (·.1))[j]'(by rw [List.length_map]; exact hj) := by
    rw [List.getElem_map, List.getElem_map]; exact e
  have := (List.getElem_inj h).1 h1
  subst this
  rfl
theorem look_mem {M : Mp} (h : NdM M) {a : Ad} {v : Bel} : lookM M a = some v ↔ (a, v) ∈ M := by
  unfold lookM
  constructor
  · intro hl
    cases hf : M.find? (isK a) with
    | none => rw [hf] at hl; cases hl
    | some x =>
      rw [hf] at hl
      have h1 := List.mem_of_find?_eq_some hf
      have h2 : a = x.1 := of_decide_eq_true (show isK a x = true from List.find?_some hf)
      have h3 : x.2 = v := by simpa using hl
      rw [h2, ← h3]; exact h1
  · intro hm
    cases hf : M.find? (isK a) with
    | none => exact absurd (List.find?_eq_none.1 hf _ hm) (by simp [isK])
    | some x =>
      have h1 := List.mem_of_find?_eq_some hf
      have h2 : a = x.1 := of_decide_eq_true (show isK a x = true from List.find?_some hf)
      rw [h.one h1 hm h2.symm]; rfl
theorem look_none {M : Mp} {a : Ad} : lookM M a = none ↔ ∀ x ∈ M, x.1 ≠ a := by
  unfold lookM
  rw [Option.map_eq_none_iff, List.find?_eq_none]
  simp only [isK, decide_eq_true_eq]
  exact ⟨fun h x hx e => h x hx e.symm, fun h x hx e => h x hx e.symm⟩
theorem idx_no {M : Mp} {a : Ad} (h : idxM M a = none) : ∀ x ∈ M, x.1 ≠ a := fun x hx e => idx_none' h (List.mem_map.2 ⟨x, hx, e⟩)
theorem mem_put {M : Mp} (h : NdM M) {a : Ad} {v : Bel} (x : Ad × Bel) : x ∈ putM M a v ↔ x = (a, v) ∨ (x ∈ M ∧ x.1 ≠ a) := by
  unfold putM
  cases hi : idxM M a with
  | none =>
    simp only [List.mem_append, List.mem_singleton]
    exact ⟨fun hx => hx.elim (fun h1 => .inr ⟨h1, idx_no hi x h1⟩) .inl, fun hx => hx.elim .inr (fun h1 => .inl h1.1)⟩
  | some i =>
    obtain ⟨hil, hia⟩ := idx_spec hi
    simp only
    constructor
    · intro hx
      obtain ⟨j, hj, rfl⟩ := List.getElem_of_mem hx
      rw [List.getElem_set]
      by_cases hij : i = j
      · rw [if_pos hij]; exact .inl rfl
      · rw [if_neg hij]
        have hj' : j < M.length := by simpa using hj
        refine .inr ⟨List.getElem_mem hj', fun e => hij ?_⟩
        have h1 : (M.map (·.1))[i]'(by rw [List.length_map]; exact hil) = (M.map (·.1))[j]'(by rw [List.length_map]; exact hj') := by
          rw [List.getElem_map, List.getElem_map, hia, e]
        exact (List.getElem_inj h).1 h1
    · rintro (rfl | ⟨hx, hne⟩)
      · exact List.mem_iff_getElem.2 ⟨i, by simpa using hil, by rw [List.getElem_set, if_pos rfl]⟩
      · obtain ⟨j, hj, rfl⟩ := List.getElem_of_mem hx
        have hij : i ≠ j := fun e => hne (by subst e; exact hia)
        exact List.mem_iff_getElem.2 ⟨j, by simpa using hj, by rw [List.getElem_set, if_neg hij]⟩
theorem mem_del {M : Mp} (h : NdM M) {a : Ad} (x : Ad × Bel) : x ∈ delM M a ↔ x ∈ M ∧ x.1 ≠ a := by
  unfold delM
  cases hi : idxM M a with
  | none => exact ⟨fun hx => ⟨hx, idx_no hi x hx⟩, fun hx => hx.1⟩
  | some i =>
    obtain ⟨hil, hia⟩ := idx_spec hi
    rw [List.mem_eraseIdx_iff_getElem?]
    constructor
    · rintro ⟨j, hij, hj⟩
      obtain ⟨hjl, rfl⟩ := List.getElem?_eq_some_iff.1 hj
      refine ⟨List.getElem_mem hjl, fun e => hij ?_⟩
      have h1 : (M.map (·.1))[j]'(by rw [List.length_map]; exact hjl) = (M.map (·.1))[i]'(by rw [List.length_map]; exact hil) := by
        rw [List.getElem_map, List.getElem_map, hia, e]
      exact (List.getElem_inj h).1 h1
    · rintro ⟨hx, hne⟩
      obtain ⟨j, hj⟩ := List.getElem?_of_mem hx
      refine ⟨j, fun e => hne ?_, hj⟩
      subst e
      rw [List.getElem?_eq_getElem hil] at hj
      rw [← Option.some.inj hj]; exact hia
theorem nd_put {M : Mp} (h : NdM M) (a : Ad) (v : Bel) : NdM (putM M a v) := by
  unfold putM NdM
  cases hi : idxM M a with
  | none =>
    simp only
    rw [List.map_append, List.nodup_append]
    refine ⟨h, by simp, fun x hx y hy => ?_⟩
    obtain rfl : y = a := by simpa using hy
    exact fun e => idx_none' hi (e ▸ hx)
  | some i =>
    obtain ⟨hil, hia⟩ := idx_spec hi
    have : (M.set i (a, v)).map (·.1) = M.map (·.1) := by
      apply List.ext_getElem?
      intro j
      simp only [List.getElem?_map, List.getElem?_set]
      by_cases hij : i = j
      · subst hij
        simp [hil, hia]
      · simp [hij]
    simp only
    rw [this]; exact h
theorem nd_del {M : Mp} (h : NdM M) (a : Ad) : NdM (delM M a) := by
  unfold delM NdM
  cases idxM M a with
  | none => exact h
  | some i => exact h.sublist ((List.eraseIdx_sublist _ _).map _)
theorem len_put {M : Mp} (a : Ad) (v : Bel) : (putM M a v).length = if (lookM M a).isNone then M.length + 1 else M.length := by
  rw [look_idx]
  unfold putM
  cases idxM M a <;> simp
theorem len_del {M : Mp} (a : Ad) : (delM M a).length = if (lookM M a).isNone then M.length else M.length - 1 := by
  rw [look_idx]
  unfold delM
  cases hi : idxM M a with
  | none => simp
  | some i =>
    obtain ⟨hil, _⟩ := idx_spec hi
    simp [List.length_eraseIdx, hil]
theorem del_filter {M : Mp} (h : NdM M) (a : Ad) : delM M a = M.filter fun x => !decide (x.1 = a) := by
  induction M with
  | nil => rfl
  | cons y M ih =>
    have hn : y.1 ∉ M.map (·.1) ∧ NdM M := by
      unfold NdM at h
      rw [List.map_cons, List.nodup_cons] at h
      exact h
    have ih := ih hn.2
    by_cases hy : y.1 = a
    · have hi : idxM (y :: M) a = some 0 := by unfold idxM; rw [List.findIdx?_cons, show isK a y = true from decide_eq_true hy.symm]; rfl
      unfold delM
      rw [hi]
      have : M.filter (fun x => !decide (x.1 = a)) = M := List.filter_eq_self.2 fun x hx => by
        have : x.1 ≠ a := fun e => hn.1 (List.mem_map.2 ⟨x, hx, by rw [e, hy]⟩)
        simpa using this
      rw [List.filter_cons, show (!decide (y.1 = a)) = false by simpa using hy, this]
      rfl
    · have hi : idxM (y :: M) a = (idxM M a).map (· + 1) := by
        unfold idxM
        rw [List.findIdx?_cons, show isK a y = false from decide_eq_false fun e => hy e.symm]
        rfl
      rw [List.filter_cons, show (!decide (y.1 = a)) = true by simpa using hy, if_pos rfl, ← ih]
      unfold delM
      rw [hi]
      cases idxM M a <;> rfl
theorem put_map {M : Mp} (h : NdM M) {a : Ad} (hm : (lookM M a).isSome = true) (v : Bel) : putM M a v = M.map fun x => if x.1 = a then (a, v) else x := by
  induction M with
  | nil => cases hm
  | cons y M ih =>
    have hn : y.1 ∉ M.map (·.1) ∧ NdM M := by
      unfold NdM at h
      rw [List.map_cons, List.nodup_cons] at h
      exact h
    by_cases hy : y.1 = a
    · have hi : idxM (y :: M) a = some 0 := by unfold idxM; rw [List.findIdx?_cons, show isK a y = true from decide_eq_true hy.symm]; rfl
      unfold putM
      rw [hi]
      have : M.map (fun x => if x.1 = a then (a, v) else x) = M := by
        conv => rhs; rw [← List.map_id M]
        refine List.map_congr_left fun x hx => ?_
        have : x.1 ≠ a := fun e => hn.1 (List.mem_map.2 ⟨x, hx, by rw [e, hy]⟩)
        rw [if_neg this]; rfl
      rw [List.map_cons, if_pos hy, this]
      rfl
    · have hi : idxM (y :: M) a = (idxM M a).map (· + 1) := by
        unfold idxM
        rw [List.findIdx?_cons, show isK a y = false from decide_eq_false fun e => hy e.symm]
        rfl
      have hm' : (lookM M a).isSome = true := by
        rw [look_idx, hi] at hm
        rw [look_idx]
        cases hq : idxM M a with
        | none => rw [hq] at hm; cases hm
        | some j => rfl
      have ih := ih hn.2 hm'
      rw [List.map_cons, if_neg hy, ← ih]
      unfold putM
      rw [hi]
      cases idxM M a <;> rfl
theorem fm_congr {α β : Type} {f g : α → Option β} : ∀ {l : List α}, (∀ x ∈ l, f x = g x) → l.filterMap f = l.filterMap g
  | [], _ => rfl
  | x :: l, h => by
    rw [List.filterMap_cons, List.filterMap_cons, h x List.mem_cons_self, fm_congr fun y hy => h y (List.mem_cons_of_mem _ hy)]
/-- What Tick does to one entry that is due. -/
def riseD (now : Int) (above : Int → Int) (x : Ad × Bel) : Option (Ad × Bel) :=
  if x.2.fst ≤ above x.2.est then none else some (x.1, { x.2 with est := above x.2.est, clk := now })
/-- One step of Tick's second loop. -/
def stepT (now : Int) (above : Int → Int) (M : Mp) (a : Ad) : Mp := match lookM M a with
  | some x => if x.fst ≤ above x.est then delM M a else putM M a { x with est := above x.est, clk := now }
  | none => M
def runT (now : Int) (above : Int → Int) (M : Mp) (D : List Ad) : Mp := D.foldl (stepT now above) M
theorem step_map {now : Int} {above : Int → Int} {M : Mp} (h : NdM M) {a : Ad} : stepT now above M a = M.filterMap fun x => if x.1 = a then riseD now above x else some x := by
  unfold stepT
  cases hl : lookM M a with
  | none =>
    have hno := look_none.1 hl
    simp only
    conv => lhs; rw [← List.filterMap_some (l := M)]
    refine fm_congr fun x hx => ?_
    rw [if_neg (hno x hx)]
  | some v =>
    have hm := (look_mem h).1 hl
    have hone : ∀ x ∈ M, x.1 = a → x.2 = v := fun x hx e => by rw [h.one hx hm e]
    simp only
    by_cases hc : v.fst ≤ above v.est
    · rw [if_pos hc, del_filter h, ← List.filterMap_eq_filter]
      refine fm_congr fun x hx => ?_
      by_cases hx1 : x.1 = a
      · have := hone x hx hx1
        rw [if_pos hx1]
        unfold riseD
        rw [this, if_pos hc]
        simp [Option.guard, hx1]
      · rw [if_neg hx1]
        simp [Option.guard, hx1]
    · rw [if_neg hc, put_map h (by rw [hl]; rfl), ← List.filterMap_eq_map]
      refine fm_congr fun x hx => ?_
      by_cases hx1 : x.1 = a
      · have := hone x hx hx1
        rw [if_pos hx1]
        unfold riseD
        rw [this, if_neg hc]
        simp [hx1]
      · rw [if_neg hx1]
        simp [hx1]
theorem riseD_key {now : Int} {above : Int → Int} {x y : Ad × Bel} (h : riseD now above x = some y) : y.1 = x.1 := by
  unfold riseD at h
  split at h
  · cases h
  · rw [← Option.some.inj h]
theorem nd_step {now : Int} {above : Int → Int} {M : Mp} (h : NdM M) (a : Ad) : NdM (stepT now above M a) := by
  unfold stepT
  cases lookM M a with
  | none => exact h
  | some v =>
    simp only
    split
    · exact nd_del h a
    · exact nd_put h a _
/-- Whatever the order in which the due ones are gone through. -/
theorem run_map {now : Int} {above : Int → Int} : ∀ (D : List Ad) (M : Mp), D.Nodup → NdM M → runT now above M D = M.filterMap fun x => if x.1 ∈ D then riseD now above x else some x
  | [], M, _, _ => by
    show M = _
    conv => lhs; rw [← List.filterMap_some (l := M)]
    exact fm_congr fun x _ => by simp
  | a :: D, M, hd, h => by
    rw [List.nodup_cons] at hd
    show runT now above (stepT now above M a) D = _
    rw [run_map D _ hd.2 (nd_step h a), step_map h, List.filterMap_filterMap]
    refine fm_congr fun x hx => ?_
    by_cases hx1 : x.1 = a
    · rw [if_pos hx1, if_pos (by rw [hx1]; exact List.mem_cons_self)]
      cases hr : riseD now above x with
      | none => rfl
      | some y =>
        show (if y.1 ∈ D then riseD now above y else some y) = some y
        rw [if_neg (by rw [riseD_key hr, hx1]; exact hd.1)]
    · rw [if_neg hx1]
      show (if x.1 ∈ D then riseD now above x else some x) = _
      by_cases hxD : x.1 ∈ D
      · rw [if_pos hxD, if_pos (List.mem_cons_of_mem _ hxD)]
      · rw [if_neg hxD, if_neg (fun e => (List.mem_cons.1 e).elim hx1 hxD)]
theorem min_le (a b : Int) : (if a < b then a else b) ≤ b := by split <;> omega
/-- The map ahead of a new entry: one is let go if there is no room. -/
def roomM (c : Ca) (a : Ad) : Mp := if (lookM c.M a).isNone ∧ c.E ≤ (c.M.length : Int) then forgetS c else c.M
theorem forget_sub {c : Ca} (h : OkC c) : NdM (forgetS c) ∧ (∀ x ∈ forgetS c, x ∈ c.M) := by
  have hn : NdM c.M := h.nd
  exact ⟨nd_del hn _, fun x hx => ((mem_del hn x).1 hx).1⟩
theorem forget_len {c : Ca} (h : OkC c) (h1 : 1 ≤ (c.M.length : Int)) : (forgetS c).length + 1 = c.M.length := by
  have hn : NdM c.M := h.nd
  unfold forgetS
  rw [len_del]
  rcases oldest_spec c.M (c.hrd + 1) (zA 0) with ⟨_, h2⟩ | ⟨x, hx, h2, _, _⟩
  · have hne : c.M ≠ [] := fun e => by rw [e] at h1; simp at h1
    have hx := List.getElem_mem (show 0 < c.M.length by omega)
    have := h2 _ hx
    have := (h.ent _ hx).2.2.2.1
    omega
  · rw [h2]
    have : lookM c.M x.1 = some x.2 := (look_mem hn).2 hx
    rw [this]
    simp only [Option.isNone_some, Bool.false_eq_true, if_false]
    omega
theorem room_ok {c : Ca} {v : Bel} (h : OkC c) (a : Ad) : NdM (roomM c a) ∧ (∀ x ∈ roomM c a, x ∈ c.M) ∧ ((putM (roomM c a) a v).length : Int) ≤ c.E := by
  have hn : NdM c.M := h.nd
  have hl := h.len
  have he := h.e1
  unfold roomM
  by_cases hc : (lookM c.M a).isNone ∧ c.E ≤ (c.M.length : Int)
  · rw [if_pos hc]
    obtain ⟨h1, h2⟩ := forget_sub h
    refine ⟨h1, h2, ?_⟩
    have := forget_len h (by omega)
    rw [len_put]
    split <;> omega
  · rw [if_neg hc]
    refine ⟨hn, fun x hx => hx, ?_⟩
    rw [len_put]
    by_cases hq : (lookM c.M a).isNone = true
    · rw [if_pos hq]
      have : ¬ c.E ≤ (c.M.length : Int) := fun e => hc ⟨hq, e⟩
      omega
    · rw [if_neg hq]; omega
theorem get_le {M : Mp} {a : Ad} {first : Int} (h : (getS M a first).2 = 0) : (getS M a first).1 ≤ first ∧ first ≤ 65535 := by
  unfold getS at h ⊢
  by_cases hc : validA a = false ∨ first < floorA a ∨ 65535 < first
  · rw [if_pos hc] at h; cases h
  · rw [if_neg hc]
    refine ⟨?_, by omega⟩
    cases lookM M a with
    | none => exact Int.le_refl _
    | some x => exact min_le _ _
theorem hear_ok {c : Ca} (h : OkC c) {a : Ad} {first n now : Int} {is : Bool} (hn : is = true → 68 ≤ n) : OkC (hearS c a first n is now).2.2 := by
  unfold hearS
  by_cases h1 : (getS c.M a first).2 ≠ 0 ∨ mayS c now = false
  · rw [if_pos h1]; exact h
  rw [if_neg h1]
  have hg : (getS c.M a first).2 = 0 := Classical.byContradiction fun e => h1 (.inl e)
  have hm : c.now ≤ now ∧ now ≤ 1099511627776 := by
    have : mayS c now = true := by
      cases hq : mayS c now
      · exact absurd (.inr hq) h1
      · rfl
    exact of_decide_eq_true this
  have hn0 := h.n0
  by_cases h2 : is = false ∨ (getS c.M a first).1 ≤ n
  · rw [if_pos h2]
    exact ⟨h.e1, h.e64, h.a1, h.a2, by show 0 ≤ now; omega, hm.2, h.h0, h.len, h.nd, h.hd, fun x hx => by
      obtain ⟨q1, q2, q3⟩ := h.ent x hx
      exact ⟨q1, by show x.2.clk ≤ now; omega, q3⟩⟩
  rw [if_neg h2]
  have his : is = true := by cases is; exact absurd (.inl rfl) h2; rfl
  have hlt : n < (getS c.M a first).1 := Classical.byContradiction fun e => h2 (.inr (by omega))
  obtain ⟨g1, g2⟩ := get_le hg
  have h68 := hn his
  obtain ⟨r1, r2, r3⟩ := room_ok (v := ⟨n, first, now, c.hrd + 1⟩) h a
  have hh := h.h0
  show OkC { c with now := now, hrd := c.hrd + 1, M := putM (roomM c a) a ⟨n, first, now, c.hrd + 1⟩ }
  refine ⟨h.e1, h.e64, h.a1, h.a2, by show 0 ≤ now; omega, hm.2, by show 0 ≤ c.hrd + 1; omega, r3, nd_put r1 _ _, fun x hx y hy e => ?_, fun x hx => ?_⟩
  · rcases (mem_put r1 x).1 hx with rfl | ⟨hx, hxa⟩
    · rcases (mem_put r1 y).1 hy with rfl | ⟨hy, hya⟩
      · rfl
      · have := (h.ent y (r2 y hy)).2.2.2.1
        have e' : c.hrd + 1 = y.2.hrd := e
        omega
    · rcases (mem_put r1 y).1 hy with rfl | ⟨hy, hya⟩
      · have := (h.ent x (r2 x hx)).2.2.2.1
        have e' : x.2.hrd = c.hrd + 1 := e
        omega
      · exact h.hd x (r2 x hx) y (r2 y hy) e
  · rcases (mem_put r1 x).1 hx with rfl | ⟨hx, _⟩
    · show 0 ≤ now ∧ now ≤ now ∧ 1 ≤ c.hrd + 1 ∧ c.hrd + 1 ≤ c.hrd + 1 ∧ 68 ≤ n ∧ n < first ∧ first ≤ 65535
      omega
    · obtain ⟨q1, q2, q3, q4, q5⟩ := h.ent x (r2 x hx)
      exact ⟨q1, by show x.2.clk ≤ now; omega, q3, by show x.2.hrd ≤ c.hrd + 1; omega, q5⟩
/-- What is still to come, when one entry has come out. -/
theorem left_perm {L : Mp} (h : NdM L) {x : Ad × Bel} (hx : x ∈ L) : L.Perm (x :: L.filter fun y => !decide (x.1 = y.1)) := by
  induction L with
  | nil => cases hx
  | cons z L ih =>
    have hn : z.1 ∉ L.map (·.1) ∧ NdM L := by
      unfold NdM at h
      rw [List.map_cons, List.nodup_cons] at h
      exact h
    rcases List.mem_cons.1 hx with rfl | hx
    · rw [List.filter_cons, show (!decide (x.1 = x.1)) = false by simp]
      have : L.filter (fun y => !decide (x.1 = y.1)) = L := List.filter_eq_self.2 fun y hy => by
        have : x.1 ≠ y.1 := fun e => hn.1 (List.mem_map.2 ⟨y, hy, e.symm⟩)
        simpa using this
      rw [this]
      exact List.Perm.refl _
    · have hne : x.1 ≠ z.1 := fun e => hn.1 (List.mem_map.2 ⟨x, hx, e⟩)
      rw [List.filter_cons, show (!decide (x.1 = z.1)) = true by simpa using hne]
      exact ((ih hn.2 hx).cons z).trans (List.Perm.swap x z _)
theorem left_nd {L : Mp} (h : NdM L) (p : Ad × Bel → Bool) : NdM (L.filter p) := h.sublist (List.filter_sublist.map _)
theorem left_len {L : Mp} (h : NdM L) {x : Ad × Bel} (hx : x ∈ L) : (L.filter fun y => !decide (x.1 = y.1)).length < L.length := by
  have := (left_perm h hx).length_eq
  rw [List.length_cons] at this
  omega
/-- The accumulated keys and those to come. -/
theorem due_step {M L : Mp} {D : List Ad} {x : Ad × Bel} (p : Ad × Bel → Bool) (h : NdM L) (hx : x ∈ L) (hp : (D ++ (L.filter p).map (·.1)).Perm ((M.filter p).map (·.1))) :
    ((if p x then D ++ [x.1] else D) ++ ((L.filter fun y => !decide (x.1 = y.1)).filter p).map (·.1)).Perm ((M.filter p).map (·.1)) := by
  refine List.Perm.trans ?_ hp
  have h1 := ((left_perm h hx).filter p).map (fun y : Ad × Bel => y.1)
  by_cases hpx : p x = true
  · rw [if_pos hpx]
    rw [List.filter_cons, if_pos hpx, List.map_cons] at h1
    rw [List.append_assoc]
    exact (h1.append_left D).symm
  · rw [if_neg hpx]
    rw [List.filter_cons, if_neg hpx] at h1
    exact (h1.append_left D).symm
/-- forget's loop: the least so far. -/
def MinI (M L : Mp) (H : Int) (a0 : Ad) (least : Int) (o : Ad) : Prop :=
  (∀ y ∈ M, y ∉ L → least ≤ y.2.hrd) ∧ ((least = H ∧ o = a0) ∨ ∃ x ∈ M, least = x.2.hrd ∧ o = x.1 ∧ x.2.hrd < H)
theorem min_start (M : Mp) (H : Int) (a0 : Ad) : MinI M M H a0 H a0 := ⟨fun _ h1 h2 => absurd h1 h2, .inl ⟨rfl, rfl⟩⟩
theorem min_step {M L : Mp} {H least : Int} {a0 o : Ad} {x : Ad × Bel} (hL : NdM L) (hs : ∀ y ∈ L, y ∈ M) (hx : x ∈ L) (h : MinI M L H a0 least o) :
    MinI M (L.filter fun y => !decide (x.1 = y.1)) H a0 (if x.2.hrd < least then x.2.hrd else least) (if x.2.hrd < least then x.1 else o) := by
  obtain ⟨h1, h2⟩ := h
  constructor
  · intro y hy hyL
    by_cases hyl : y ∈ L
    · have hyx : y = x := by
        have hq : ¬ (!decide (x.1 = y.1)) = true := fun e => hyL (List.mem_filter.2 ⟨hyl, e⟩)
        have : x.1 = y.1 := by simpa using hq
        exact (hL.one hx hyl this).symm
      rw [hyx]
      split <;> omega
    · have := h1 y hy hyl
      split <;> omega
  · by_cases hc : x.2.hrd < least
    · rw [if_pos hc, if_pos hc]
      refine .inr ⟨x, hs x hx, rfl, rfl, ?_⟩
      rcases h2 with ⟨e, _⟩ | ⟨z, _, e, _, hz⟩
      · omega
      · omega
    · rw [if_neg hc, if_neg hc]; exact h2
theorem min_end {M : Mp} {H least : Int} {a0 o : Ad} (hd : ∀ x ∈ M, ∀ y ∈ M, x.2.hrd = y.2.hrd → x = y) (h : MinI M [] H a0 least o) : o = (oldest H a0 M).2 := by
  obtain ⟨h1, h2⟩ := h
  have h1 : ∀ y ∈ M, least ≤ y.2.hrd := fun y hy => h1 y hy (by simp)
  rcases oldest_spec M H a0 with ⟨e, h3⟩ | ⟨z, hz, e, h4, h5⟩
  · rw [e]
    rcases h2 with ⟨_, h2⟩ | ⟨x, hx, h2, h6, h7⟩
    · exact h2
    · have := h3 x hx; omega
  · rw [e]
    rcases h2 with ⟨h2, _⟩ | ⟨x, hx, h2, h6, h7⟩
    · have := h1 z hz; omega
    · have q1 := h5 x hx
      have q2 := h1 z hz
      have := hd x hx z hz (by omega)
      rw [h6, this]
/-- Tick: the error, the cache behind; what it tells is dueS in order. -/
def tickS (c : Ca) (above : Int → Int) (now : Int) : Int × Ca :=
  if mayS c now = false then (1, c) else (0, { c with now := now, M := c.M.filterMap (rise c.A now above) })
theorem due_nd {A now : Int} {M : Mp} (h : NdM M) : (dueS A now M).Nodup := left_nd h _
theorem rise_run {A now : Int} {above : Int → Int} {M : Mp} {D : List Ad} (h : NdM M) (hp : D.Perm (dueS A now M)) : runT now above M D = M.filterMap (rise A now above) := by
  rw [run_map D M (hp.nodup_iff.2 (due_nd h)) h]
  refine fm_congr fun x hx => ?_
  have hiff : x.1 ∈ D ↔ A ≤ now - x.2.clk := by
    rw [hp.mem_iff]
    unfold dueS
    rw [List.mem_map]
    constructor
    · rintro ⟨y, hy, e⟩
      obtain ⟨hy1, hy2⟩ := List.mem_filter.1 hy
      rw [h.one hy1 hx e] at hy2
      exact of_decide_eq_true hy2
    · intro hd
      exact ⟨x, List.mem_filter.2 ⟨hx, decide_eq_true hd⟩, rfl⟩
  unfold rise riseD
  by_cases hd : A ≤ now - x.2.clk
  · rw [if_pos (hiff.2 hd), if_pos hd]
  · rw [if_neg (fun e => hd (hiff.1 e)), if_neg hd]
theorem rise_key {A now : Int} {above : Int → Int} {x y : Ad × Bel} (h : rise A now above x = some y) : y.1 = x.1 ∧ y.2.hrd = x.2.hrd := by
  unfold rise at h
  split at h
  · split at h
    · cases h
    · rw [← Option.some.inj h]; exact ⟨rfl, rfl⟩
  · rw [← Option.some.inj h]; exact ⟨rfl, rfl⟩
theorem rise_nd {A now : Int} {above : Int → Int} : ∀ {M : Mp}, NdM M → NdM (M.filterMap (rise A now above))
  | [], _ => List.nodup_nil
  | x :: M, h => by
    have hn : x.1 ∉ M.map (·.1) ∧ NdM M := by
      unfold NdM at h
      rw [List.map_cons, List.nodup_cons] at h
      exact h
    have ih := rise_nd (A := A) (now := now) (above := above) hn.2
    rw [List.filterMap_cons]
    cases hr : rise A now above x with
    | none => exact ih
    | some y =>
      unfold NdM
      simp only [List.map_cons, List.nodup_cons]
      refine ⟨fun hm => hn.1 ?_, ih⟩
      obtain ⟨z, hz, e⟩ := List.mem_map.1 hm
      obtain ⟨u, hu, hr2⟩ := List.mem_filterMap.1 hz
      exact List.mem_map.2 ⟨u, hu, by rw [← (rise_key hr2).1, e, (rise_key hr).1]⟩
theorem tick_ok {c : Ca} (h : OkC c) {above : Int → Int} (ha : ∀ n, 68 ≤ above n) {now : Int} : OkC (tickS c above now).2 := by
  unfold tickS
  by_cases hm : mayS c now = false
  · rw [if_pos hm]; exact h
  rw [if_neg hm]
  have hm : c.now ≤ now ∧ now ≤ 1099511627776 := by
    have : mayS c now = true := by
      cases hq : mayS c now
      · exact absurd hq hm
      · rfl
    exact of_decide_eq_true this
  have hn0 := h.n0
  refine ⟨h.e1, h.e64, h.a1, h.a2, by show 0 ≤ now; omega, hm.2, h.h0, ?_, rise_nd h.nd, fun x hx y hy e => ?_, fun x hx => ?_⟩
  · have : (c.M.filterMap (rise c.A now above)).length ≤ c.M.length := List.length_filterMap_le _ _
    have := h.len
    show ((c.M.filterMap (rise c.A now above)).length : Int) ≤ c.E
    omega
  · obtain ⟨u, hu, hr⟩ := List.mem_filterMap.1 hx
    obtain ⟨z, hz, hr2⟩ := List.mem_filterMap.1 hy
    have := h.hd u hu z hz (by rw [← (rise_key hr).2, e, (rise_key hr2).2])
    subst this
    exact Option.some.inj (hr.symm.trans hr2)
  · obtain ⟨u, hu, hr⟩ := List.mem_filterMap.1 hx
    obtain ⟨q1, q2, q3, q4, q5, q6, q7⟩ := h.ent u hu
    unfold rise at hr
    by_cases hd : c.A ≤ now - u.2.clk
    · rw [if_pos hd] at hr
      by_cases hf : u.2.fst ≤ above u.2.est
      · rw [if_pos hf] at hr; cases hr
      · rw [if_neg hf] at hr
        rw [← Option.some.inj hr]
        have := ha u.2.est
        show 0 ≤ now ∧ now ≤ now ∧ 1 ≤ u.2.hrd ∧ u.2.hrd ≤ c.hrd ∧ 68 ≤ above u.2.est ∧ above u.2.est < u.2.fst ∧ u.2.fst ≤ 65535
        omega
    · rw [if_neg hd] at hr
      rw [← Option.some.inj hr]
      show 0 ≤ u.2.clk ∧ u.2.clk ≤ now ∧ 1 ≤ u.2.hrd ∧ u.2.hrd ≤ c.hrd ∧ 68 ≤ u.2.est ∧ u.2.est < u.2.fst ∧ u.2.fst ≤ 65535
      omega
end Go.Proofs.YtdinkhhaomblcaaDoor.SL
