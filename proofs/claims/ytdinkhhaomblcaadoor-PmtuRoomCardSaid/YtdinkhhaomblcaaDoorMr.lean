/- A walk over the map: what is still to come. No condition. -/
import Derived.Test.YtdinkhhaomblcaaDoorMp
namespace Go.Proofs.YtdinkhhaomblcaaDoor.SL
open Go.RowKit Go.Proofs.YtdinkhhaomblcaaDoorW.PrintWords Go.Proofs.YtdinkhhaomblcaaDoorW.PrintLast Go.Proofs.YtdinkhhaomblcaaDoorW.PrintMore
structure RgAt (w : World) (b r : Nat) (M left : Mp) : Prop where
  ex : ∃ es clock since seen c0, w.heap[b]? = some (.map es clock) ∧ es.toList.map (fun e => (e.key, e.val)) = M.map encE ∧ (∀ x ∈ es.toList, x.born < clock) ∧ (es.toList.map (·.born)).Nodup ∧
    w.heap[r]? = some (.mapIter (some b) since seen c0) ∧ (∀ x ∈ es.toList, x.born < since) ∧ since ≤ c0 ∧ since ≤ clock ∧ (leftOf es seen).toList.map (fun e => (e.key, e.val)) = left.map encE
  nd : (M.map (·.1)).Nodup
theorem RgAt.map {w : World} {b r : Nat} {M left : Mp} (h : RgAt w b r M left) : MpAt w b M := by
  obtain ⟨es, clock, _, _, _, h1, h2, h3, h4, _⟩ := h.ex
  exact ⟨⟨es, clock, h1, h2, h3, h4⟩, h.nd⟩
theorem RgAt.same {w w' : World} {b r : Nat} {M left : Mp} (h : RgAt w b r M left) (hb : w'.heap[b]? = w.heap[b]?) (hr : w'.heap[r]? = w.heap[r]?) : RgAt w' b r M left := by
  obtain ⟨es, clock, since, seen, c0, h1, h2, h3, h4, h5, h6⟩ := h.ex
  exact ⟨⟨es, clock, since, seen, c0, hb.trans h1, h2, h3, h4, hr.trans h5, h6⟩, h.nd⟩
theorem RgAt.lt {w : World} {b r : Nat} {M left : Mp} (h : RgAt w b r M left) : r < w.heap.size ∧ r ≠ b := by
  obtain ⟨es, clock, since, seen, c0, h1, _, _, _, h5, _⟩ := h.ex
  refine ⟨(Array.getElem?_eq_some_iff.1 h5).1, fun e => ?_⟩
  rw [e, h1] at h5
  cases h5
theorem kyV_inj {a b : Ad} (h : kyV a = kyV b) : a = b := by
  have h1 : aV a = aV b := by injection h
  have h2 : aL a = aL b := by
    have := congrArg Array.toList h1
    simpa [aV] using this
  unfold aL at h2
  injection h2 with h3 h4
  have h5 : a.v = b.v := by injection h3
  refine Ad.ext' h5 ?_
  have h6 := congrArg (List.map fun v => match v with | Value.int _ n => n | _ => 0) h4
  simpa [List.map_map, Function.comp_def] using h6
theorem leftOf_push (es : Array MapEntry) (seen : Array Nat) (b : Nat) : (leftOf es (seen.push b)).toList = (leftOf es seen).toList.filter fun e => !(e.born == b) := by
  unfold leftOf
  rw [Array.toList_filter, Array.toList_filter, List.filter_filter]
  congr 1
  funext e
  rw [contains_push]
  cases seen.contains e.born <;> cases e.born == b <;> rfl
/-- 'range m'. -/
theorem run_rangeM {w : World} {b : Nat} {M : Mp} (h : MpAt w b M) : ∃ o, (Instr.range 78 (.map (some b))).run Tryd.prog w = .ok (.pointer (some ⟨w.heap.size, 0, none⟩)) (w.alloc o) ∧ RgAt (w.alloc o) b w.heap.size M M := by
  have hlt := h.lt
  obtain ⟨es, clock, hb, he, hc, hn⟩ := h.ex
  refine ⟨_, run_range_map w _ _ _ b es clock Tryd.underlying78 hb, ⟨es, clock, clock, #[], clock, ((MapKept.heap_alloc w _).2 b hlt).trans hb, he, hc, hn, (MapKept.heap_alloc w _).1, hc, Nat.le_refl _, Nat.le_refl _, ?_⟩, h.nd⟩
  have : leftOf es #[] = es := by simp [leftOf]
  rw [this]; exact he
/-- 'next'. -/
theorem run_nextM {w : World} {b r : Nat} {M left : Mp} (h : RgAt w b r M left) (ty : TypeId) :
    (left = [] ∧ (Instr.next (.pointer (some ⟨r, 0, none⟩)) false ty).run Tryd.prog w = .ok (.tuple #[.bool false]) w) ∨
    ∃ x ∈ left, ∃ w', (Instr.next (.pointer (some ⟨r, 0, none⟩)) false ty).run Tryd.prog w = .ok (.tuple #[.bool true, kyV x.1, beV x.2]) w' ∧ RgAt w' b r M (left.filter fun y => !decide (x.1 = y.1)) ∧ w.grownBy w' (some r) ∧ w'.heap.size = w.heap.size ∧
      (Instr.entry (.pointer (some ⟨r, 0, none⟩))).run Tryd.prog w' = .ok (.tuple #[kyV x.1, beV x.2]) w' := by
  have hne := h.lt.2
  obtain ⟨es, clock, since, seen, c0, hb, he, hc, hn, hr, hold, hsc, hsk, hl⟩ := h.ex
  rcases run_next_at (P := Tryd.prog) w ty r b since c0 seen es clock hr hb hold hsc with ⟨h0, hrun⟩ | ⟨e, hem, w1, hal, hrun⟩
  · refine .inl ⟨?_, hrun⟩
    have : (leftOf es seen).toList = [] := by
      apply List.eq_nil_of_length_eq_zero
      simpa using h0
    rw [this] at hl
    exact List.map_eq_nil_iff.1 hl.symm
  · obtain ⟨i, hi, hie⟩ := List.getElem_of_mem hem
    have hil : i < left.length := by
      have := congrArg List.length hl
      simp only [List.length_map] at this
      omega
    have hx := congrArg (·[i]?) hl
    simp only [List.getElem?_map, List.getElem?_eq_getElem hi, List.getElem?_eq_getElem hil, Option.map_some, hie, Option.some.injEq] at hx
    have hk : e.key = kyV left[i].1 := congrArg Prod.fst hx
    have hv : e.val = beV left[i].2 := congrArg Prod.snd hx
    obtain ⟨hes, hsn⟩ := mem_left hem
    have hr1 : w1.heap[r]? = some (.mapIter (some b) since seen c0) := by rcases hal with rfl | rfl <;> exact hr
    have hb1 : w1.heap[b]? = some (.map es clock) := by rcases hal with rfl | rfl <;> exact hb
    have hset := MapKept.heap_set (o' := .mapIter (some b) since (seen.push e.born) clock) hr1
    have hb' : (ChangeMaps.setBlock w1 r (.mapIter (some b) since (seen.push e.born) clock)).heap[b]? = some (.map es clock) := (hset.2 b (fun e1 => hne e1.symm)).trans hb1
    rw [hk, hv] at hrun
    refine .inr ⟨left[i], List.getElem_mem hil, _, hrun, ⟨⟨es, clock, since, seen.push e.born, clock, hb', he, hc, hn, hset.1, hold, hsk, hsk, ?_⟩, h.nd⟩, ?_, ?_, ?_⟩
    · -- an entry's stamp is e's just if its key is
      rw [leftOf_push]
      have hsub : ∀ y ∈ (leftOf es seen).toList, y ∈ es.toList := fun y hy => (mem_left hy).1
      have key : ∀ y ∈ es.toList, (y.born == e.born) = true ↔ y.key = e.key := fun y hy => by
        constructor
        · intro hbn
          have hbe : y.born = e.born := by simpa using hbn
          obtain ⟨j, hj, rfl⟩ := List.getElem_of_mem hy
          obtain ⟨k, hk2, hke⟩ := List.getElem_of_mem hes
          have : j = k := by
            have h1 : (es.toList.map (·.born))[j]'(by simpa using hj) = (es.toList.map (·.born))[k]'(by simpa using hk2) := by
              rw [List.getElem_map, List.getElem_map, hke]; exact hbe
            exact (List.getElem_inj hn).1 h1
          subst this
          rw [hke]
        · intro hky
          obtain ⟨j, hj, rfl⟩ := List.getElem_of_mem hy
          obtain ⟨k, hk2, hke⟩ := List.getElem_of_mem hes
          have hlen : es.toList.length = M.length := by
            have := congrArg List.length he
            simpa using this
          have hj1 := congrArg (·[j]?) he
          have hk1 := congrArg (·[k]?) he
          simp only [List.getElem?_map, List.getElem?_eq_getElem hj, List.getElem?_eq_getElem (show j < M.length by omega), Option.map_some, Option.some.injEq] at hj1
          simp only [List.getElem?_map, List.getElem?_eq_getElem hk2, List.getElem?_eq_getElem (show k < M.length by omega), Option.map_some, Option.some.injEq] at hk1
          have a1 : es.toList[j].key = kyV M[j].1 := congrArg Prod.fst hj1
          have a2 : es.toList[k].key = kyV M[k].1 := congrArg Prod.fst hk1
          have a3 : M[j].1 = M[k].1 := kyV_inj (by rw [← a1, ← a2, hke]; exact hky)
          have : j = k := by
            have h1 : (M.map (·.1))[j]'(by rw [List.length_map]; omega) = (M.map (·.1))[k]'(by rw [List.length_map]; omega) := by
              rw [List.getElem_map, List.getElem_map]; exact a3
            exact (List.getElem_inj h.nd).1 h1
          subst this
          rw [hke]
          simp
      have gen : ∀ (L : List MapEntry) (N : Mp), (∀ y ∈ L, y ∈ es.toList) → L.map (fun e => (e.key, e.val)) = N.map encE → (L.filter fun y => !(y.born == e.born)).map (fun e => (e.key, e.val)) = (N.filter fun y => !decide (left[i].1 = y.1)).map encE := by
        intro L
        induction L with
        | nil =>
          intro N _ hN
          cases N with
          | nil => rfl
          | cons x N => cases hN
        | cons y L ih =>
          intro N hm hN
          cases N with
          | nil => cases hN
          | cons x N =>
            rw [List.map_cons, List.map_cons] at hN
            injection hN with h1 h2
            have hyk : y.key = kyV x.1 := congrArg Prod.fst h1
            have ih' := ih N (fun z hz => hm z (List.mem_cons_of_mem _ hz)) h2
            have hb2 : (y.born == e.born) = decide (left[i].1 = x.1) := by
              rw [Bool.eq_iff_iff, key y (hm y List.mem_cons_self), decide_eq_true_eq, hyk, hk]
              exact ⟨fun hh => (kyV_inj hh).symm, fun hh => by rw [hh]⟩
            rw [List.filter_cons, List.filter_cons, hb2]
            cases decide (left[i].1 = x.1) with
            | true => simpa using ih'
            | false =>
              simp only [Bool.not_false, if_true, List.map_cons]
              rw [ih', h1]
      exact gen _ _ hsub hl
    · rcases hal with rfl | rfl <;> exact ⟨rfl, rfl, rfl, by simp [ChangeMaps.setBlock], fun i _ hi => hset.2 i (fun e1 => hi (by rw [e1]))⟩
    · rcases hal with rfl | rfl <;> simp [ChangeMaps.setBlock]
    · have := run_entry_at (P := Tryd.prog) _ r b since seen es clock e hset.1 hb' hes hn
      rw [hk, hv] at this
      exact this
end Go.Proofs.YtdinkhhaomblcaaDoor.SL
