/- Boxes as objects: one that is made, one that is stored into whole or in part. No condition. -/
import Derived.Test.YtdinkhhaomblcaaDoorTm
import Derived.Laws.Tables
import Derived.WalkKit
import Derived.WalkSpells
namespace Go.Proofs.YtdinkhhaomblcaaDoor.SL
open Go.RowKit Go.Proofs.YtdinkhhaomblcaaDoorW.PrintWords Go.Proofs.YtdinkhhaomblcaaDoorW.PrintLast Go.Proofs.YtdinkhhaomblcaaDoorW.PrintMore
theorem Touch.setRow {S : List Nat} {a w : World} (h : Touch S a w) {g : Nat} (hg : g ∈ S ∨ a.heap.size ≤ g) (cs : Array Value) : Touch S a (w.setRow g cs) :=
  ⟨h.os, h.tape, h.output, by simpa [World.setRow] using h.size, fun k hk hn => (setRow_other w g k cs (by rintro rfl; rcases hg with hg | hg; exact hn hg; omega)).trans (h.block k hk hn)⟩
theorem St.boxN {w0 w : World} {Γ : List Ob} (h : St w0 w Γ) (cs : Array Value) (T : TypeId) (n : Nat) (hn : w.heap.size = n) : St w0 (w.alloc (.cells cs T)) (Γ ++ [obB n cs T]) := by
  subst hn; exact h.box cs T
theorem St.stB {w0 w : World} {Γ : List Ob} (h : St w0 w Γ) (i : Nat) {b : Nat} {old : Array Value} {T : TypeId} (hi : Γ[i]? = some (obB b old T)) (cs : Array Value) : St w0 (w.setRow b cs) (Γ.set i (obB b cs T)) := by
  have hb : w.heap[b]? = some (.cells old T (0, 0)) := h.get i hi
  have := h.upd i hi ((Touch.refl [b] w).setRow (.inl List.mem_cons_self) cs) (obB b cs T) [] (fun o ho => by obtain rfl := List.mem_singleton.1 ho; exact setRow_heap w b old cs T (0, 0) hb)
    (fun o ho x hx => by obtain rfl := List.mem_singleton.1 ho; exact .inl hx) (fun o ho x hx => by obtain rfl := List.mem_singleton.1 ho; exact .inl hx) (List.pairwise_singleton _ _)
  rwa [List.append_nil] at this
theorem St.cellB {w0 w : World} {Γ : List Ob} (h : St w0 w Γ) (i : Nat) {b : Nat} {cs : Array Value} {T : TypeId} (hi : Γ[i]? = some (obB b cs T)) (j : Nat) {u : Value} (hj : cs[j]? = some u) : w.cell? ⟨b, j, none⟩ = some u :=
  (cell_of_row _ _ j _ _ _ (h.get i hi)).trans hj
theorem St.freeB {w0 w : World} {Γ : List Ob} (h : St w0 w Γ) (i : Nat) {b : Nat} {cs : Array Value} {T : TypeId} (hi : Γ[i]? = some (obB b cs T)) (j : Nat) : w.frozen? ⟨b, j, none⟩ = false := blk_frozen (h.get i hi) j
/-! ### a call that changes what its caller has: the world without blocks, and the frame -/
def noHeap (w : World) : World := { w with heap := #[] }
/-- All blocks that were there, but those of S. -/
def obF (w : World) (S : List Nat) : Ob where
  own := []
  all := (List.range w.heap.size).filter fun k => !S.contains k
  holds w' := ∀ k, k < w.heap.size → k ∉ S → w'.heap[k]? = w.heap[k]?
  sub := fun _ h => by cases h
  lt := fun w' h k hk => by
    obtain ⟨h1, h2⟩ := List.mem_filter.1 hk
    have hk1 : k < w.heap.size := List.mem_range.1 h1
    have hk2 : k ∉ S := by simpa using h2
    have := h k hk1 hk2
    rw [Array.getElem?_eq_getElem hk1] at this
    exact (Array.getElem?_eq_some_iff.1 this).1
  stab := fun w1 w2 h hs k hk hn => (hs k (List.mem_filter.2 ⟨List.mem_range.2 hk, by simpa using hn⟩)).trans (h k hk hn)
theorem St.start {w : World} {o : Ob} (ho : o.holds w) (S : List Nat) (hS : ∀ x ∈ o.own, x ∈ S) : St (noHeap w) w [o, obF w S] := by
  refine ⟨⟨rfl, rfl, rfl, Nat.zero_le _, fun k hk => absurd hk (Nat.not_lt_zero _)⟩, fun i x hi => ?_, fun i x hi b hb => Nat.zero_le _, fun i j a b hij hi hj => ?_⟩
  · have := List.mem_of_getElem? hi
    rcases List.mem_cons.1 this with rfl | this
    · exact ho
    · obtain rfl := List.mem_singleton.1 this
      exact fun k _ _ => rfl
  · have ap : Apart o (obF w S) := ⟨fun x hx hxa => by
      have h2 := (List.mem_filter.1 hxa).2
      have : x ∉ S := by simpa using h2
      exact this (hS x hx), fun x hx => by cases hx⟩
    match i, j, hij, hi, hj with
    | 0, 0, hij, _, _ => exact absurd rfl hij
    | 0, 1, _, hi, hj => cases hi; cases hj; exact ap
    | 1, 0, _, hi, hj => cases hi; cases hj; exact ap.symm
    | 1, 1, hij, _, _ => exact absurd rfl hij
    | 0, n + 2, _, _, hj => simp at hj
    | 1, n + 2, _, _, hj => simp at hj
    | n + 2, _, _, hi, _ => simp at hi
theorem St.touch {w w' : World} {Γ : List Ob} (h : St (noHeap w) w' Γ) (i : Nat) (S : List Nat) (hi : Γ[i]? = some (obF w S)) (hS : ∀ x ∈ S, x < w'.heap.size) : Touch S w w' := by
  have hf : ∀ k, k < w.heap.size → k ∉ S → w'.heap[k]? = w.heap[k]? := h.get i hi
  refine ⟨h.bl.os, h.bl.tape, h.bl.output, Nat.le_of_not_lt fun hlt => ?_, hf⟩
  by_cases hm : w'.heap.size ∈ S
  · exact absurd (hS _ hm) (Nat.lt_irrefl _)
  · have := hf _ hlt hm
    rw [Array.getElem?_eq_getElem hlt] at this
    exact absurd (Array.getElem?_eq_some_iff.1 this).1 (Nat.lt_irrefl _)
/-- An object is taken as one's own, or let go: the others don't reach what it may change. -/
theorem St.swap {w0 w : World} {Γ : List Ob} (h : St w0 w Γ) (i : Nat) {o o' : Ob} (hi : Γ[i]? = some o) (hh : o'.holds w) (ha : ∀ x ∈ o'.all, x ∈ o.all) (hb : ∀ x ∈ o'.own, w0.heap.size ≤ x)
    (hs : ∀ j x, j ≠ i → Γ[j]? = some x → ∀ b ∈ o'.own, b ∉ x.all) : St w0 w (Γ.set i o') := by
  have hlen : i < Γ.length := (List.getElem?_eq_some_iff.1 hi).1
  have key : ∀ j x, (Γ.set i o')[j]? = some x → (j = i ∧ x = o') ∨ (j ≠ i ∧ Γ[j]? = some x) := fun j x hj => by
    rw [List.getElem?_set] at hj
    by_cases e : i = j
    · rw [if_pos e, if_pos hlen] at hj
      exact .inl ⟨e.symm, (Option.some.inj hj).symm⟩
    · rw [if_neg e] at hj
      exact .inr ⟨fun h => e h.symm, hj⟩
  have ap : ∀ j x, j ≠ i → Γ[j]? = some x → Apart x o' := fun j x hj hx => ⟨fun b hb hbo => (h.sep j i x o hj hx hi).1 b hb (ha b hbo), fun b hb => hs j x hj hx b hb⟩
  refine ⟨h.bl, fun j x hj => ?_, fun j x hj => ?_, fun j k x y hjk hj hk => ?_⟩
  · rcases key j x hj with ⟨_, rfl⟩ | ⟨_, hx⟩
    · exact hh
    · exact h.ok j x hx
  · rcases key j x hj with ⟨_, rfl⟩ | ⟨_, hx⟩
    · exact hb
    · exact h.base j x hx
  · rcases key j x hj with ⟨e1, rfl⟩ | ⟨e1, hx⟩
    · rcases key k y hk with ⟨e2, rfl⟩ | ⟨e2, hy⟩
      · exact absurd (e1.trans e2.symm) hjk
      · exact (ap k y e2 hy).symm
    · rcases key k y hk with ⟨e2, rfl⟩ | ⟨e2, hy⟩
      · exact ap j x e1 hx
      · exact h.sep j k x y hjk hx hy
section
variable {P : Program} {ops : Array Oper} {rest : List Oper} {o : Oper} {a : Act} {Q : Exit → Act → World → Prop} {w0 W : World} {Γ : List Ob}
/-- A whole value is stored into a box. -/
theorem wpList_store_B (h : St w0 W Γ) (i : Nat) {b : Nat} {old : Array Value} {T : TypeId} (hi : Γ[i]? = some (obB b old T)) (hN : o.dst = none) (hgd : o.guard = none) (ty : TypeId) (x y : Operand) (ho : o.op = .store ty x y)
    (cells : Array Value) (hx : a.eval x = .pointer (some ⟨b, 0, none⟩)) (hy : a.eval y = .agg cells) (hsz : (P.info? ty).map (·.size) = some cells.size) (hold : old.size = cells.size) (h1 : cells.all (·.oneCell') = true)
    (K : ∀ W', St w0 W' (Γ.set i (obB b cells T)) → wpList P ops Q rest a W') : wpList P ops Q (o :: rest) a W :=
  wpList_store_row hgd ty x y ho b cells hx hy T old (h.get i hi) hsz hold h1 (by rw [hN]; exact K _ (h.stB i hi cells))
/-- A box is made. -/
theorem wpList_alloc_B (hgd : o.guard = none) (t : TypeId) (ho : o.op = .alloc t) (z : Value) (hz : ∀ w : World, (zeroValue t).run P w = .ok z w) (N : Nat) (hN : W.heap.size = N) (h : St w0 W Γ)
    (K : ∀ W', W'.heap.size = N + 1 → St w0 W' (Γ ++ [obB N z.cells t]) → wpList P ops Q rest (a.put o.dst (.pointer (some ⟨N, 0, none⟩))) W') : wpList P ops Q (o :: rest) a W := by
  subst hN
  refine wpList_plain hgd fun K' hK' => ?_
  unfold Oper.wp execOp
  simp only [ho, Sem.run_bind, Instr.alloc, hz, newVar, newRow, run_newObj_alloc, Sem.run_pure, Result.andThen_ok]
  exact hK' _ _ (K _ (by simp) (h.box _ _))
/-- What came in is boxed. -/
theorem wpList_box_B (hgd : o.guard = none) (t : TypeId) (x : Operand) (ho : o.op = .box t x) (cells : Array Value) (hx : a.eval x = .agg cells) (N : Nat) (hN : W.heap.size = N) (h : St w0 W Γ)
    (K : ∀ W', W'.heap.size = N + 1 → St w0 W' (Γ ++ [obB N cells t]) → wpList P ops Q rest (a.put o.dst (.pointer (some ⟨N, 0, none⟩))) W') : wpList P ops Q (o :: rest) a W := by
  subst hN
  refine wpList_plain hgd fun K' hK' => ?_
  unfold Oper.wp execOp
  simp only [ho, hx, Sem.run_bind, Instr.box, newVar, newRow, run_newObj_alloc, Sem.run_pure, Result.andThen_ok]
  exact hK' _ _ (K _ (by simp) (h.box _ _))
end
end Go.Proofs.YtdinkhhaomblcaaDoor.SL
