/- A map from whole numbers to ticks, as a list of pairs: what look-up, store, delete and len do. No condition. -/
import Derived.Test.YtadhceoaoopcjaaBx
import Derived.Test.YtadhceoaoopcjaaTm
import Derived.Test.YtadhceoaoopcjaaProg
import Derived.Maps.RangeRun
import Derived.Maps.Own
import Derived.ChangeMaps5
import Derived.WalkKit
namespace Go.Proofs.Ytadhceoaoopcjaa.SL
open Go.RowKit Go.Proofs.YtadhceoaoopcjaaW.PrintWords Go.Proofs.YtadhceoaoopcjaaW.PrintLast Go.Proofs.YtadhceoaoopcjaaW.PrintMore
abbrev Mp := List (Int × Int)
abbrev kyV (a : Int) : Value := .int .i64 a
abbrev beV (a : Int) : Value := .int .i64 a
def encE (x : Int × Int) : Value × Value := (kyV x.1, beV x.2)
def isK (a : Int) (x : Int × Int) : Bool := decide (a = x.1)
def lookM (M : Mp) (a : Int) : Option Int := (M.find? (isK a)).map (·.2)
def idxM (M : Mp) (a : Int) : Option Nat := M.findIdx? (isK a)
def putM (M : Mp) (a v : Int) : Mp := match idxM M a with
  | some i => M.set i (a, v)
  | none => M ++ [(a, v)]
def delM (M : Mp) (a : Int) : Mp := match idxM M a with
  | some i => M.eraseIdx i
  | none => M
structure MpAt (w : World) (b : Nat) (M : Mp) : Prop where
  ex : ∃ es clock, w.heap[b]? = some (.map es clock) ∧ es.toList.map (fun e => (e.key, e.val)) = M.map encE ∧ (∀ x ∈ es.toList, x.born < clock) ∧ (es.toList.map (·.born)).Nodup
  nd : (M.map (·.1)).Nodup
theorem MpAt.lt {w : World} {b : Nat} {M : Mp} (h : MpAt w b M) : b < w.heap.size := by
  obtain ⟨es, clock, hb, _⟩ := h.ex
  exact (Array.getElem?_eq_some_iff.1 hb).1
theorem MpAt.same {w w' : World} {b : Nat} {M : Mp} (h : MpAt w b M) (hb : w'.heap[b]? = w.heap[b]?) : MpAt w' b M := by
  obtain ⟨es, clock, h1, h2⟩ := h.ex
  exact ⟨⟨es, clock, hb.trans h1, h2⟩, h.nd⟩
theorem MpAt.made (w : World) : MpAt (w.alloc (.map #[] 0)) w.heap.size [] := ⟨⟨#[], 0, (MapKept.heap_alloc w _).1, rfl, by simp, by simp⟩, by simp⟩
/-! ### the key is looked for -/
theorem findNw (a : Int) : ∀ (es : List MapEntry) (M : Mp) (i : Nat), es.map (fun e => (e.key, e.val)) = M.map encE →
    Instr.findNow (.int .i64) (kyV a) es i = some ((M.findIdx? (isK a)).map fun j => (i + j, beV (M.getD j (0, 0)).2))
  | [], [], i, _ => rfl
  | [], x :: M, i, h => by cases h
  | e :: es, [], i, h => by cases h
  | e :: es, x :: M, i, h => by
    rw [List.map_cons, List.map_cons] at h
    injection h with h1 h2
    have hk : e.key = kyV x.1 := congrArg Prod.fst h1
    have hv : e.val = beV x.2 := congrArg Prod.snd h1
    have ih := findNw a es M (i + 1) h2
    unfold Instr.findNow
    rw [hk]
    rw [List.findIdx?_cons]
    by_cases hx : a = x.1
    · rw [show isK a x = true from decide_eq_true hx]
      simp [Instr.sameNow, hx, hv]
    · rw [show isK a x = false from decide_eq_false hx]
      simp only [Instr.sameNow, if_true, show (a == x.1) = false by simpa using hx]
      rw [ih]
      cases M.findIdx? (isK a) with
      | none => rfl
      | some j => simp [Nat.add_assoc, Nat.add_comm 1 j]
theorem findKy (w : World) (a : Int) (es : List MapEntry) (M : Mp) (h : es.map (fun e => (e.key, e.val)) = M.map encE) :
    (Instr.findKey 3 (kyV a) es).run Try.prog w = .ok ((idxM M a).map fun j => (j, beV (M.getD j (0, 0)).2)) w := by
  have hf := findNw a es M 0 h
  simp only [Nat.zero_add] at hf
  unfold Instr.findKey
  simp only [Sem.run_bind, run_underlying Try.underlying3, Result.andThen_ok, hf]
  rfl
theorem checkKy (w : World) (em : Bool) (a : Int) : (Instr.checkKey em 10000 3 (kyV a)).run Try.prog w = .ok () w := by
  kernel_rfl
theorem staysKy (w : World) (a : Int) : (Instr.keyThatStays (kyV a) (kyV a)).run Try.prog w = .ok (kyV a) w := by
  have h : Instr.sameBits 10000 (kyV a) (kyV a) = true := by
    simp [Instr.sameBits]
  unfold Instr.keyThatStays
  rw [h]
  rfl
/-! ### plain facts -/
theorem look_idx (M : Mp) (a : Int) : lookM M a = (idxM M a).map fun j => (M.getD j (0, 0)).2 := by
  unfold lookM idxM
  induction M with
  | nil => rfl
  | cons x M ih =>
    rw [List.find?_cons, List.findIdx?_cons]
    cases h : isK a x with
    | true => rfl
    | false =>
      simp only [Bool.false_eq_true, if_false]
      rw [ih]
      cases M.findIdx? (isK a) <;> rfl
theorem idx_spec {M : Mp} {a : Int} {i : Nat} (h : idxM M a = some i) : ∃ hi : i < M.length, (M[i]).1 = a := by
  unfold idxM at h
  obtain ⟨hi, h1, _⟩ := List.findIdx?_eq_some_iff_getElem.1 h
  exact ⟨hi, (of_decide_eq_true h1).symm⟩
theorem idx_none' {M : Mp} {a : Int} (h : idxM M a = none) : a ∉ M.map (·.1) := by
  unfold idxM at h
  rw [List.findIdx?_eq_none_iff] at h
  intro hm
  obtain ⟨x, hx, rfl⟩ := List.mem_map.1 hm
  have := h x hx
  simp [isK] at this
/-! ### the operations -/
section
variable {w : World} {b : Nat} {M : Mp}
theorem run_lookM (h : MpAt w b M) (a : Int) (ok : Bool) : (Instr.lookup 60 (.map (some b)) (kyV a) ok).run Try.prog w =
    .ok (if ok then .tuple #[beV ((lookM M a).getD 0), .bool (lookM M a).isSome] else beV ((lookM M a).getD 0)) w := by
  obtain ⟨es, clock, hb, he, _, _⟩ := h.ex
  have hz : (zeroValue 2).run Try.prog w = .ok (beV 0) w := by kernel_rfl
  rw [look_idx]
  unfold Instr.lookup
  simp only [Sem.run_bind, run_underlying Try.underlying60, MapKept.run_getObj_map hb, Sem.run_pure, checkKy, findKy w a es.toList M he, Result.andThen_ok]
  cases idxM M a with
  | none => simp only [Option.map_none, Sem.run_bind, hz, Sem.run_pure, Result.andThen_ok]; rfl
  | some j => rfl
theorem run_putM (h : MpAt w b M) (a : Int) (v : Int) : ∃ es clock, (Instr.mapUpdate 60 (.map (some b)) (kyV a) (beV v)).run Try.prog w = .ok () (ChangeMaps.setBlock w b (.map es clock)) ∧ MpAt (ChangeMaps.setBlock w b (.map es clock)) b (putM M a v) := by
  obtain ⟨es, clock, hb, he, hc, hn⟩ := h.ex
  have hlen : es.size = M.length := by
    have := congrArg List.length he
    simpa using this
  unfold Instr.mapUpdate putM
  simp only [Sem.run_bind, run_underlying Try.underlying60, MapKept.run_getObj_map hb, checkKy, findKy w a es.toList M he, Result.andThen_ok]
  cases hi : idxM M a with
  | none =>
    refine ⟨es.push ⟨kyV a, beV v, clock⟩, clock + 1, ?_, ⟨⟨_, _, ChangeMaps.heap_setBlock_same hb _, ?_, ?_, ?_⟩, ?_⟩⟩
    · simp only [Option.map_none]
      exact MapKept.run_setObj_map _ hb
    · rw [Array.toList_push, List.map_append, List.map_append, he]; rfl
    · intro x hx
      rw [Array.toList_push] at hx
      rcases List.mem_append.1 hx with hx | hx
      · have := hc x hx; omega
      · obtain rfl := List.mem_singleton.1 hx
        exact Nat.lt_succ_self _
    · rw [Array.toList_push, List.map_append, List.nodup_append]
      refine ⟨hn, by simp, fun x hx y hy => ?_⟩
      obtain ⟨e, hem, rfl⟩ := List.mem_map.1 hx
      obtain rfl : y = clock := by simpa using hy
      have := hc e hem
      omega
    · rw [List.map_append, List.nodup_append]
      refine ⟨h.nd, by simp, fun x hx y hy => ?_⟩
      obtain rfl : y = a := by simpa using hy
      exact fun e => idx_none' hi (e ▸ hx)
  | some i =>
    obtain ⟨hil, hia⟩ := idx_spec hi
    have hie : i < es.size := by omega
    have hke : es[i].key = kyV a := by
      have := congrArg (·[i]?) he
      simp [hie, hil, encE, hia] at this
      exact this.1
    refine ⟨es.modify i fun e => { e with key := kyV a, val := beV v }, clock, ?_, ⟨⟨_, _, ChangeMaps.heap_setBlock_same hb _, ?_, ?_, ?_⟩, ?_⟩⟩
    · simp only [Option.map_some, Sem.run_bind]
      have hk : ((es[i]?).map (·.key)).getD (kyV a) = kyV a := by
        rw [Array.getElem?_eq_getElem hie]
        exact hke
      rw [hk, staysKy, Result.andThen_ok]
      exact MapKept.run_setObj_map _ hb
    · apply List.ext_getElem?
      intro j
      have := congrArg (·[j]?) he
      simp only [List.getElem?_map, Array.getElem?_toList] at this
      simp only [List.getElem?_map, Array.getElem?_toList, Array.getElem?_modify, List.getElem?_set]
      by_cases hij : i = j
      · subst hij
        simp [hie, hil, encE]
      · simp only [hij, if_false]
        exact this
    · intro x hx
      obtain ⟨j, hj, rfl⟩ := List.getElem_of_mem hx
      rw [Array.getElem_toList, Array.getElem_modify]
      have hj' : j < es.size := by simpa using hj
      split
      · exact hc es[j] (by simp)
      · exact hc es[j] (by simp)
    · have : (es.modify i fun e => { e with key := kyV a, val := beV v }).toList.map (·.born) = es.toList.map (·.born) := by
        apply List.ext_getElem?
        intro j
        simp only [List.getElem?_map, Array.getElem?_toList, Array.getElem?_modify]
        by_cases hij : i = j
        · subst hij
          cases es[i]? <;> simp
        · simp [hij]
      rw [this]; exact hn
    · have : (M.set i (a, v)).map (·.1) = M.map (·.1) := by
        apply List.ext_getElem?
        intro j
        simp only [List.getElem?_map, List.getElem?_set]
        by_cases hij : i = j
        · subst hij
          simp [hil, hia]
        · simp [hij]
      rw [this]; exact h.nd
theorem run_delM (h : MpAt w b M) (a : Int) (ty : TypeId) : ∃ es clock, (Builtin.delete_ #[60, 3] ty #[.map (some b), kyV a]).run Try.prog w = .ok (.tuple #[]) (ChangeMaps.setBlock w b (.map es clock)) ∧ MpAt (ChangeMaps.setBlock w b (.map es clock)) b (delM M a) := by
  obtain ⟨es, clock, hb, he, hc, hn⟩ := h.ex
  have hlen : es.size = M.length := by
    have := congrArg List.length he
    simpa using this
  have hf := findKy w a es.toList M he
  cases hi : idxM M a with
  | none =>
    rw [hi] at hf
    refine ⟨es, clock, ?_, ⟨⟨es, clock, ChangeMaps.heap_setBlock_same hb _, by unfold delM; rw [hi]; exact he, hc, hn⟩, by unfold delM; rw [hi]; exact h.nd⟩⟩
    simp [Builtin.delete_, run_underlying Try.underlying60, MapKept.run_getObj_map hb, checkKy, hf, MapKept.run_setObj_map _ hb, Result.andThen, ChangeMaps.setBlock]
  | some i =>
    rw [hi] at hf
    obtain ⟨hil, hia⟩ := idx_spec hi
    have hie : i < es.size := by omega
    have hsub : (es.eraseIdxIfInBounds i).toList = es.toList.eraseIdx i := by
      unfold Array.eraseIdxIfInBounds
      rw [dif_pos hie]
      simp
    refine ⟨es.eraseIdxIfInBounds i, clock, ?_, ⟨⟨_, _, ChangeMaps.heap_setBlock_same hb _, ?_, ?_, ?_⟩, ?_⟩⟩
    · simp [Builtin.delete_, run_underlying Try.underlying60, MapKept.run_getObj_map hb, checkKy, hf, MapKept.run_setObj_map _ hb, Result.andThen, ChangeMaps.setBlock]
    · unfold delM
      rw [hi, hsub, ChangeMaps.map_eraseIdx, ChangeMaps.map_eraseIdx, he]
    · intro x hx
      rw [hsub] at hx
      exact hc x (List.mem_of_mem_eraseIdx hx)
    · rw [hsub]
      exact hn.sublist ((List.eraseIdx_sublist _ _).map _)
    · unfold delM
      rw [hi]
      exact h.nd.sublist ((List.eraseIdx_sublist _ _).map _)
end
end Go.Proofs.Ytadhceoaoopcjaa.SL
