/- A map from addresses to beliefs, as a list of pairs: what look-up, store, delete, len and a walk over it do. No condition. -/
import Derived.Test.YtdinkhhaomblcaaDoorAe
import Derived.Maps.RangeRun
import Derived.ChangeMaps5
import Derived.WalkKit
namespace Go.Proofs.YtdinkhhaomblcaaDoor.SL
open Go.RowKit Go.Proofs.YtdinkhhaomblcaaDoorW.PrintWords Go.Proofs.YtdinkhhaomblcaaDoorW.PrintLast Go.Proofs.YtdinkhhaomblcaaDoorW.PrintMore
structure Bel where
  est : Int
  fst : Int
  clk : Int
  hrd : Int
deriving DecidableEq
def beV (x : Bel) : Value := .agg #[.int .i64 x.est, .int .i64 x.fst, .int .i64 x.clk, .int .i64 x.hrd]
def zBel : Bel := ⟨0, 0, 0, 0⟩
abbrev Mp := List (Ad × Bel)
abbrev kyV (a : Ad) : Value := .agg (aV a)
def encE (x : Ad × Bel) : Value × Value := (kyV x.1, beV x.2)
def isK (a : Ad) (x : Ad × Bel) : Bool := decide (a = x.1)
def lookM (M : Mp) (a : Ad) : Option Bel := (M.find? (isK a)).map (·.2)
def idxM (M : Mp) (a : Ad) : Option Nat := M.findIdx? (isK a)
def putM (M : Mp) (a : Ad) (v : Bel) : Mp := match idxM M a with
  | some i => M.set i (a, v)
  | none => M ++ [(a, v)]
def delM (M : Mp) (a : Ad) : Mp := match idxM M a with
  | some i => M.eraseIdx i
  | none => M
structure MpAt (w : World) (b : Nat) (M : Mp) : Prop where
  ex : ∃ es clock, w.heap[b]? = some (.map es clock) ∧ es.toList.map (fun e => (e.key, e.val)) = M.map encE ∧ (∀ x ∈ es.toList, x.born < clock) ∧ (es.toList.map (·.born)).Nodup
  nd : (M.map (·.1)).Nodup
theorem MpAt.lt {w : World} {b : Nat} {M : Mp} (h : MpAt w b M) : b < w.heap.size := by
  obtain ⟨es, clock, hb, _⟩ := h.ex
  exact (Array.getElem?_eq_some_iff.1 hb).1
theorem MpAt.same {w w' : World} {b : Nat} {M : Mp} (h : MpAt w b M) (hb : w'.heap[b]? = w.heap[b]?) : MpAt w' b M := by
  obtain ⟨es, clock, h1, h2⟩ := h.ex
  exact ⟨⟨es, clock, hb.trans h1, h2⟩, h.nd⟩
theorem MpAt.made (w : World) : MpAt (w.alloc (.map #[] 0)) w.heap.size [] := ⟨⟨#[], 0, (MapKept.heap_alloc w _).1, rfl, by simp, by simp⟩, by simp⟩
/-! ### the key is looked for -/
set_option maxRecDepth 100000 in
theorem findAsk (w : World) (a : Ad) : ∀ (es : List MapEntry) (M : Mp) (i : Nat), es.map (fun e => (e.key, e.val)) = M.map encE →
    (Instr.findAsking 32 (kyV a) es i).run Tryd.prog w = .ok ((M.findIdx? (isK a)).map fun j => (i + j, beV (M.getD j (zA 0, zBel)).2)) w
  | [], [], i, _ => by unfold Instr.findAsking; simp [Sem.run_pure]
  | [], x :: M, i, h => by cases h
  | e :: es, [], i, h => by cases h
  | e :: es, x :: M, i, h => by
    rw [List.map_cons, List.map_cons] at h
    injection h with h1 h2
    have hk : e.key = kyV x.1 := congrArg Prod.fst h1
    have hv : e.val = beV x.2 := congrArg Prod.snd h1
    have ih := findAsk w a es M (i + 1) h2
    have he : (Op.equal 32 (kyV a) (kyV x.1)).run Tryd.prog w = .ok (decide (a = x.1)) w := by
      unfold Op.equal
      exact eqAd w 9997 a x.1
    unfold Instr.findAsking
    rw [hk]
    simp only [Sem.run_bind, he, Result.andThen_ok]
    rw [List.findIdx?_cons]
    by_cases hx : a = x.1
    · rw [show isK a x = true from decide_eq_true hx]
      simp [hx, hv]
    · rw [show isK a x = false from decide_eq_false hx]
      simp only [hx, decide_false, Bool.false_eq_true, if_false]
      rw [ih]
      cases M.findIdx? (isK a) with
      | none => rfl
      | some j => simp [Nat.add_assoc, Nat.add_comm 1 j]
theorem findKy (w : World) (a : Ad) (es : List MapEntry) (M : Mp) (h : es.map (fun e => (e.key, e.val)) = M.map encE) :
    (Instr.findKey 32 (kyV a) es).run Tryd.prog w = .ok ((idxM M a).map fun j => (j, beV (M.getD j (zA 0, zBel)).2)) w := by
  have hf := findAsk w a es M 0 h
  simp only [Nat.zero_add] at hf
  unfold Instr.findKey
  simp only [Sem.run_bind, run_underlying Tryd.underlying32, Result.andThen_ok]
  cases es with
  | nil =>
    cases M with
    | nil => rfl
    | cons x M => cases h
  | cons e es =>
    cases M with
    | nil => cases h
    | cons x M =>
      simp only [Instr.findNow, Instr.sameNow, hf]
      rfl
theorem checkKy (w : World) (em : Bool) (a : Ad) : (Instr.checkKey em 10000 32 (kyV a)).run Tryd.prog w = .ok () w := by
  obtain ⟨v, b, hb⟩ := a
  obtain ⟨b0, b1, b2, b3, b4, b5, b6, b7, b8, b9, b10, b11, b12, b13, b14, b15, rfl⟩ := list16 b hb
  kernel_rfl
theorem staysKy (w : World) (a : Ad) : (Instr.keyThatStays (kyV a) (kyV a)).run Tryd.prog w = .ok (kyV a) w := by
  have h : Instr.sameBits 10000 (kyV a) (kyV a) = true := by
    show (_ == _ && _) = true
    rw [beq_self_eq_true, Bool.true_and, List.all_eq_true]
    rintro ⟨x, y⟩ hxy
    obtain ⟨i, hi, he⟩ := List.getElem_of_mem hxy
    rw [List.getElem_zip] at he
    injection he with h1 h2
    rw [← h1, ← h2]
    have hm : (aV a).toList[i]'(by simpa using hi) ∈ aL a := by
      rw [← show (aV a).toList = aL a from by unfold aV; simp]
      exact List.getElem_mem _
    rcases List.mem_cons.1 hm with hm | hm
    · rw [hm]; simp [Instr.sameBits]
    · obtain ⟨z, _, hz⟩ := List.mem_map.1 hm
      rw [← hz]; simp [Instr.sameBits]
  unfold Instr.keyThatStays
  rw [h]
  rfl
/-! ### plain facts -/
theorem look_idx (M : Mp) (a : Ad) : lookM M a = (idxM M a).map fun j => (M.getD j (zA 0, zBel)).2 := by
  unfold lookM idxM
  induction M with
  | nil => rfl
  | cons x M ih =>
    rw [List.find?_cons, List.findIdx?_cons]
    cases h : isK a x with
    | true => rfl
    | false =>
      simp only [Bool.false_eq_true, if_false]
      rw [ih]
      cases M.findIdx? (isK a) <;> rfl
theorem idx_spec {M : Mp} {a : Ad} {i : Nat} (h : idxM M a = some i) : ∃ hi : i < M.length, (M[i]).1 = a := by
  unfold idxM at h
  obtain ⟨hi, h1, _⟩ := List.findIdx?_eq_some_iff_getElem.1 h
  exact ⟨hi, (of_decide_eq_true h1).symm⟩
theorem idx_none' {M : Mp} {a : Ad} (h : idxM M a = none) : a ∉ M.map (·.1) := by
  unfold idxM at h
  rw [List.findIdx?_eq_none_iff] at h
  intro hm
  obtain ⟨x, hx, rfl⟩ := List.mem_map.1 hm
  have := h x hx
  simp [isK] at this
/-! ### the operations -/
section
variable {w : World} {b : Nat} {M : Mp}
theorem run_lookM (h : MpAt w b M) (a : Ad) (ok : Bool) : (Instr.lookup 78 (.map (some b)) (kyV a) ok).run Tryd.prog w =
    .ok (if ok then .tuple #[beV ((lookM M a).getD zBel), .bool (lookM M a).isSome] else beV ((lookM M a).getD zBel)) w := by
  obtain ⟨es, clock, hb, he, _, _⟩ := h.ex
  have hz : (zeroValue 90).run Tryd.prog w = .ok (beV zBel) w := by kernel_rfl
  rw [look_idx]
  unfold Instr.lookup
  simp only [Sem.run_bind, run_underlying Tryd.underlying78, MapKept.run_getObj_map hb, Sem.run_pure, checkKy, findKy w a es.toList M he, Result.andThen_ok]
  cases idxM M a with
  | none => simp only [Option.map_none, Sem.run_bind, hz, Sem.run_pure, Result.andThen_ok]; rfl
  | some j => rfl
theorem run_putM (h : MpAt w b M) (a : Ad) (v : Bel) : ∃ es clock, (Instr.mapUpdate 78 (.map (some b)) (kyV a) (beV v)).run Tryd.prog w = .ok () (ChangeMaps.setBlock w b (.map es clock)) ∧ MpAt (ChangeMaps.setBlock w b (.map es clock)) b (putM M a v) := by
  obtain ⟨es, clock, hb, he, hc, hn⟩ := h.ex
  have hlen : es.size = M.length := by
    have := congrArg List.length he
    simpa using this
  unfold Instr.mapUpdate putM
  simp only [Sem.run_bind, run_underlying Tryd.underlying78, MapKept.run_getObj_map hb, checkKy, findKy w a es.toList M he, Result.andThen_ok]
  cases hi : idxM M a with
  | none =>
    refine ⟨es.push ⟨kyV a, beV v, clock⟩, clock + 1, ?_, ⟨⟨_, _, ChangeMaps.heap_setBlock_same hb _, ?_, ?_, ?_⟩, ?_⟩⟩
    · simp only [Option.map_none]
      exact MapKept.run_setObj_map _ hb
    · rw [Array.toList_push, List.map_append, List.map_append, he]; rfl
    · intro x hx
      rw [Array.toList_push] at hx
      rcases List.mem_append.1 hx with hx | hx
      · have := hc x hx; omega
      · obtain rfl := List.mem_singleton.1 hx
        exact Nat.lt_succ_self _
    · rw [Array.toList_push, List.map_append, List.nodup_append]
      refine ⟨hn, by simp, fun x hx y hy => ?_⟩
      obtain ⟨e, hem, rfl⟩ := List.mem_map.1 hx
      obtain rfl : y = clock := by simpa using hy
      have := hc e hem
      omega
    · rw [List.map_append, List.nodup_append]
      refine ⟨h.nd, by simp, fun x hx y hy => ?_⟩
      obtain rfl : y = a := by simpa using hy
      exact fun e => idx_none' hi (e ▸ hx)
  | some i =>
    obtain ⟨hil, hia⟩ := idx_spec hi
    have hie : i < es.size := by omega
    have hke : es[i].key = kyV a := by
      have := congrArg (·[i]?) he
      simp [hie, hil, encE, hia] at this
      exact this.1
    refine ⟨es.modify i fun e => { e with key := kyV a, val := beV v }, clock, ?_, ⟨⟨_, _, ChangeMaps.heap_setBlock_same hb _, ?_, ?_, ?_⟩, ?_⟩⟩
    · simp only [Option.map_some, Sem.run_bind]
      have hk : ((es[i]?).map (·.key)).getD (kyV a) = kyV a := by
        rw [Array.getElem?_eq_getElem hie]
        exact hke
      rw [hk, staysKy, Result.andThen_ok]
      exact MapKept.run_setObj_map _ hb
    · apply List.ext_getElem?
      intro j
      have := congrArg (·[j]?) he
      simp only [List.getElem?_map, Array.getElem?_toList] at this
      simp only [List.getElem?_map, Array.getElem?_toList, Array.getElem?_modify, List.getElem?_set]
      by_cases hij : i = j
      · subst hij
        simp [hie, hil, encE]
      · simp only [hij, if_false]
        exact this
    · intro x hx
      obtain ⟨j, hj, rfl⟩ := List.getElem_of_mem hx
      rw [Array.getElem_toList, Array.getElem_modify]
      have hj' : j < es.size := by simpa using hj
      split
      · exact hc es[j] (by simp)
      · exact hc es[j] (by simp)
    · have : (es.modify i fun e => { e with key := kyV a, val := beV v }).toList.map (·.born) = es.toList.map (·.born) := by
        apply List.ext_getElem?
        intro j
        simp only [List.getElem?_map, Array.getElem?_toList, Array.getElem?_modify]
        by_cases hij : i = j
        · subst hij
          cases es[i]? <;> simp
        · simp [hij]
      rw [this]; exact hn
    · have : (M.set i (a, v)).map (·.1) = M.map (·.1) := by
        apply List.ext_getElem?
        intro j
        simp only [List.getElem?_map, List.getElem?_set]
        by_cases hij : i = j
        · subst hij
          simp [hil, hia]
        · simp [hij]
      rw [this]; exact h.nd
theorem run_delM (h : MpAt w b M) (a : Ad) (ty : TypeId) : ∃ es clock, (Builtin.delete_ #[78, 32] ty #[.map (some b), kyV a]).run Tryd.prog w = .ok (.tuple #[]) (ChangeMaps.setBlock w b (.map es clock)) ∧ MpAt (ChangeMaps.setBlock w b (.map es clock)) b (delM M a) := by
  obtain ⟨es, clock, hb, he, hc, hn⟩ := h.ex
  have hlen : es.size = M.length := by
    have := congrArg List.length he
    simpa using this
  have hf := findKy w a es.toList M he
  cases hi : idxM M a with
  | none =>
    rw [hi] at hf
    refine ⟨es, clock, ?_, ⟨⟨es, clock, ChangeMaps.heap_setBlock_same hb _, by unfold delM; rw [hi]; exact he, hc, hn⟩, by unfold delM; rw [hi]; exact h.nd⟩⟩
    simp [Builtin.delete_, run_underlying Tryd.underlying78, MapKept.run_getObj_map hb, checkKy, hf, MapKept.run_setObj_map _ hb, Result.andThen, ChangeMaps.setBlock]
  | some i =>
    rw [hi] at hf
    obtain ⟨hil, hia⟩ := idx_spec hi
    have hie : i < es.size := by omega
    have hsub : (es.eraseIdxIfInBounds i).toList = es.toList.eraseIdx i := by
      unfold Array.eraseIdxIfInBounds
      rw [dif_pos hie]
      simp
    refine ⟨es.eraseIdxIfInBounds i, clock, ?_, ⟨⟨_, _, ChangeMaps.heap_setBlock_same hb _, ?_, ?_, ?_⟩, ?_⟩⟩
    · simp [Builtin.delete_, run_underlying Tryd.underlying78, MapKept.run_getObj_map hb, checkKy, hf, MapKept.run_setObj_map _ hb, Result.andThen, ChangeMaps.setBlock]
    · unfold delM
      rw [hi, hsub, ChangeMaps.map_eraseIdx, ChangeMaps.map_eraseIdx, he]
    · intro x hx
      rw [hsub] at hx
      exact hc x (List.mem_of_mem_eraseIdx hx)
    · rw [hsub]
      exact hn.sublist ((List.eraseIdx_sublist _ _).map _)
    · unfold delM
      rw [hi]
      exact h.nd.sublist ((List.eraseIdx_sublist _ _).map _)
end
end Go.Proofs.YtdinkhhaomblcaaDoor.SL
namespace Go.Proofs.YtdinkhhaomblcaaDoor.SL
open Go.RowKit Go.Proofs.YtdinkhhaomblcaaDoorW.PrintWords Go.Proofs.YtdinkhhaomblcaaDoorW.PrintLast Go.Proofs.YtdinkhhaomblcaaDoorW.PrintMore
structure RgAt (w : World) (b r : Nat) (M left : Mp) : Prop where
  ex : ∃ es clock since seen c0, w.heap[b]? = some (.map es clock) ∧ es.toList.map (fun e => (e.key, e.val)) = M.map encE ∧ (∀ x ∈ es.toList, x.born < clock) ∧ (es.toList.map (·.born)).Nodup ∧
    w.heap[r]? = some (.mapIter (some b) since seen c0) ∧ (∀ x ∈ es.toList, x.born < since) ∧ since ≤ c0 ∧ since ≤ clock ∧ (leftOf es seen).toList.map (fun e => (e.key, e.val)) = left.map encE
  nd : (M.map (·.1)).Nodup
theorem RgAt.map {w : World} {b r : Nat} {M left : Mp} (h : RgAt w b r M left) : MpAt w b M := by
  obtain ⟨es, clock, _, _, _, h1, h2, h3, h4, _⟩ := h.ex
  exact ⟨⟨es, clock, h1, h2, h3, h4⟩, h.nd⟩
theorem RgAt.same {w w' : World} {b r : Nat} {M left : Mp} (h : RgAt w b r M left) (hb : w'.heap[b]? = w.heap[b]?) (hr : w'.heap[r]? = w.heap[r]?) : RgAt w' b r M left := by
  obtain ⟨es, clock, since, seen, c0, h1, h2, h3, h4, h5, h6⟩ := h.ex
  exact ⟨⟨es, clock, since, seen, c0, hb.trans h1, h2, h3, h4, hr.trans h5, h6⟩, h.nd⟩
theorem RgAt.lt {w : World} {b r : Nat} {M left : Mp} (h : RgAt w b r M left) : r < w.heap.size ∧ r ≠ b := by
  obtain ⟨es, clock, since, seen, c0, h1, _, _, _, h5, _⟩ := h.ex
  refine ⟨(Array.getElem?_eq_some_iff.1 h5).1, fun e => ?_⟩
  rw [e, h1] at h5
  cases h5
theorem kyV_inj {a b : Ad} (h : kyV a = kyV b) : a = b := by
  have h1 : aV a = aV b := by injection h
  have h2 : aL a = aL b := by
    have := congrArg Array.toList h1
    simpa [aV] using this
  unfold aL at h2
  injection h2 with h3 h4
  have h5 : a.v = b.v := by injection h3
  refine Ad.ext' h5 ?_
  have h6 := congrArg (List.map fun v => match v with | Value.int _ n => n | _ => 0) h4
  simpa [List.map_map, Function.comp_def] using h6
theorem leftOf_push (es : Array MapEntry) (seen : Array Nat) (b : Nat) : (leftOf es (seen.push b)).toList = (leftOf es seen).toList.filter fun e => !(e.born == b) := by
  unfold leftOf
  rw [Array.toList_filter, Array.toList_filter, List.filter_filter]
  congr 1
  funext e
  rw [contains_push]
  cases seen.contains e.born <;> cases e.born == b <;> rfl
/-- 'range m'. -/
theorem run_rangeM {w : World} {b : Nat} {M : Mp} (h : MpAt w b M) : ∃ o, (Instr.range 78 (.map (some b))).run Tryd.prog w = .ok (.pointer (some ⟨w.heap.size, 0, none⟩)) (w.alloc o) ∧ RgAt (w.alloc o) b w.heap.size M M := by
  have hlt := h.lt
  obtain ⟨es, clock, hb, he, hc, hn⟩ := h.ex
  refine ⟨_, run_range_map w _ _ _ b es clock Tryd.underlying78 hb, ⟨es, clock, clock, #[], clock, ((MapKept.heap_alloc w _).2 b hlt).trans hb, he, hc, hn, (MapKept.heap_alloc w _).1, hc, Nat.le_refl _, Nat.le_refl _, ?_⟩, h.nd⟩
  have : leftOf es #[] = es := by simp [leftOf]
  rw [this]; exact he
/-- 'next'. -/
theorem run_nextM {w : World} {b r : Nat} {M left : Mp} (h : RgAt w b r M left) (ty : TypeId) :
    (left = [] ∧ (Instr.next (.pointer (some ⟨r, 0, none⟩)) false ty).run Tryd.prog w = .ok (.tuple #[.bool false]) w) ∨
    ∃ x ∈ left, ∃ w', (Instr.next (.pointer (some ⟨r, 0, none⟩)) false ty).run Tryd.prog w = .ok (.tuple #[.bool true, kyV x.1, beV x.2]) w' ∧ RgAt w' b r M (left.filter fun y => !decide (x.1 = y.1)) ∧ w.grownBy w' (some r) ∧ w'.heap.size = w.heap.size ∧
      (Instr.entry (.pointer (some ⟨r, 0, none⟩))).run Tryd.prog w' = .ok (.tuple #[kyV x.1, beV x.2]) w' := by
  have hne := h.lt.2
  obtain ⟨es, clock, since, seen, c0, hb, he, hc, hn, hr, hold, hsc, hsk, hl⟩ := h.ex
  rcases run_next_at (P := Tryd.prog) w ty r b since c0 seen es clock hr hb hold hsc with ⟨h0, hrun⟩ | ⟨e, hem, w1, hal, hrun⟩
  · refine .inl ⟨?_, hrun⟩
    have : (leftOf es seen).toList = [] := by
      apply List.eq_nil_of_length_eq_zero
      simpa using h0
    rw [this] at hl
    exact List.map_eq_nil_iff.1 hl.symm
  · obtain ⟨i, hi, hie⟩ := List.getElem_of_mem hem
    have hil : i < left.length := by
      have := congrArg List.length hl
      simp only [List.length_map] at this
      omega
    have hx := congrArg (·[i]?) hl
    simp only [List.getElem?_map, List.getElem?_eq_getElem hi, List.getElem?_eq_getElem hil, Option.map_some, hie, Option.some.injEq] at hx
    have hk : e.key = kyV left[i].1 := congrArg Prod.fst hx
    have hv : e.val = beV left[i].2 := congrArg Prod.snd hx
    obtain ⟨hes, hsn⟩ := mem_left hem
    have hr1 : w1.heap[r]? = some (.mapIter (some b) since seen c0) := by rcases hal with rfl | rfl <;> exact hr
    have hb1 : w1.heap[b]? = some (.map es clock) := by rcases hal with rfl | rfl <;> exact hb
    have hset := MapKept.heap_set (o' := .mapIter (some b) since (seen.push e.born) clock) hr1
    have hb' : (ChangeMaps.setBlock w1 r (.mapIter (some b) since (seen.push e.born) clock)).heap[b]? = some (.map es clock) := (hset.2 b (fun e1 => hne e1.symm)).trans hb1
    rw [hk, hv] at hrun
    refine .inr ⟨left[i], List.getElem_mem hil, _, hrun, ⟨⟨es, clock, since, seen.push e.born, clock, hb', he, hc, hn, hset.1, hold, hsk, hsk, ?_⟩, h.nd⟩, ?_, ?_, ?_⟩
    · -- an entry's stamp is e's just if its key is
      rw [leftOf_push]
      have hsub : ∀ y ∈ (leftOf es seen).toList, y ∈ es.toList := fun y hy => (mem_left hy).1
      have key : ∀ y ∈ es.toList, (y.born == e.born) = true ↔ y.key = e.key := fun y hy => by
        constructor
        · intro hbn
          have hbe : y.born = e.born := by simpa using hbn
          obtain ⟨j, hj, rfl⟩ := List.getElem_of_mem hy
          obtain ⟨k, hk2, hke⟩ := List.getElem_of_mem hes
          have : j = k := by
            have h1 : (es.toList.map (·.born))[j]'(by simpa using hj) = (es.toList.map (·.born))[k]'(by simpa using hk2) := by
              rw [List.getElem_map, List.getElem_map, hke]; exact hbe
            exact (List.getElem_inj hn).1 h1
          subst this
          rw [hke]
        · intro hky
          obtain ⟨j, hj, rfl⟩ := List.getElem_of_mem hy
          obtain ⟨k, hk2, hke⟩ := List.getElem_of_mem hes
          have hlen : es.toList.length = M.length := by
            have := congrArg List.length he
            simpa using this
          have hj1 := congrArg (·[j]?) he
          have hk1 := congrArg (·[k]?) he
          simp only [List.getElem?_map, List.getElem?_eq_getElem hj, List.getElem?_eq_getElem (show j < M.length by omega), Option.map_some, Option.some.injEq] at hj1
          simp only [List.getElem?_map, List.getElem?_eq_getElem hk2, List.getElem?_eq_getElem (show k < M.length by omega), Option.map_some, Option.some.injEq] at hk1
          have a1 : es.toList[j].key = kyV M[j].1 := congrArg Prod.fst hj1
          have a2 : es.toList[k].key = kyV M[k].1 := congrArg Prod.fst hk1
          have a3 : M[j].1 = M[k].1 := kyV_inj (by rw [← a1, ← a2, hke]; exact hky)
          have : j = k := by
            have h1 : (M.map (·.1))[j]'(by rw [List.length_map]; omega) = (M.map (·.1))[k]'(by rw [List.length_map]; omega) := by
              rw [List.getElem_map, List.getElem_map]; exact a3
            exact (List.getElem_inj h.nd).1 h1
          subst this
          rw [hke]
          simp
      have gen : ∀ (L : List MapEntry) (N : Mp), (∀ y ∈ L, y ∈ es.toList) → L.map (fun e => (e.key, e.val)) = N.map encE → (L.filter fun y => !(y.born == e.born)).map (fun e => (e.key, e.val)) = (N.filter fun y => !decide (left[i].1 = y.1)).map encE := by
        intro L
        induction L with
        | nil =>
          intro N _ hN
          cases N with
          | nil => rfl
          | cons x N => cases hN
        | cons y L ih =>
          intro N hm hN
          cases N with
          | nil => cases hN
          | cons x N =>
            rw [List.map_cons, List.map_cons] at hN
            injection hN with h1 h2
            have hyk : y.key = kyV x.1 := congrArg Prod.fst h1
            have ih' := ih N (fun z hz => hm z (List.mem_cons_of_mem _ hz)) h2
            have hb2 : (y.born == e.born) = decide (left[i].1 = x.1) := by
              rw [Bool.eq_iff_iff, key y (hm y List.mem_cons_self), decide_eq_true_eq, hyk, hk]
              exact ⟨fun hh => (kyV_inj hh).symm, fun hh => by rw [hh]⟩
            rw [List.filter_cons, List.filter_cons, hb2]
            cases decide (left[i].1 = x.1) with
            | true => simpa using ih'
            | false =>
              simp only [Bool.not_false, if_true, List.map_cons]
              rw [ih', h1]
      exact gen _ _ hsub hl
    · rcases hal with rfl | rfl <;> exact ⟨rfl, rfl, rfl, by simp [ChangeMaps.setBlock], fun i _ hi => hset.2 i (fun e1 => hi (by rw [e1]))⟩
    · rcases hal with rfl | rfl <;> simp [ChangeMaps.setBlock]
    · have := run_entry_at (P := Tryd.prog) _ r b since seen es clock e hset.1 hb' hes hn
      rw [hk, hv] at this
      exact this
end Go.Proofs.YtdinkhhaomblcaaDoor.SL
