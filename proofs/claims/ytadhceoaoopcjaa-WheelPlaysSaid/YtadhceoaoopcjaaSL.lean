/- Objects in memory, each with the blocks that it stands in, and what is left of all when a call has changed one of them: a frame law, over any program. No condition. -/
import Derived.Below
import Derived.OneCell
import Derived.Deep.Quiet
namespace Go.Proofs.Ytadhceoaoopcjaa.SL
open Go.RowKit

/-- Of the blocks that were there only those of S may have changed. -/
structure Touch (S : List Nat) (w w' : World) : Prop where
  os : w'.os = w.os
  tape : w'.tape = w.tape
  output : w'.output = w.output
  size : w.heap.size ≤ w'.heap.size
  block : ∀ k, k < w.heap.size → k ∉ S → w'.heap[k]? = w.heap[k]?
theorem Touch.refl (S : List Nat) (w : World) : Touch S w w := ⟨rfl, rfl, rfl, Nat.le_refl _, fun _ _ _ => rfl⟩
theorem Touch.of_below {S : List Nat} {w w' : World} (h : Below w.heap.size w w') : Touch S w w' := ⟨h.os, h.tape, h.output, h.size, fun k hk _ => h.block k hk⟩
theorem Touch.below {w w' : World} (h : Touch [] w w') : Below w.heap.size w w' := ⟨h.os, h.tape, h.output, h.size, fun k hk => h.block k hk (by simp)⟩
theorem Touch.trans {S : List Nat} {a b c : World} (h : Touch S a b) (k : Touch S b c) : Touch S a c :=
  ⟨k.os.trans h.os, k.tape.trans h.tape, k.output.trans h.output, Nat.le_trans h.size k.size, fun i hi hs => (k.block i (Nat.lt_of_lt_of_le hi h.size) hs).trans (h.block i hi hs)⟩
theorem Touch.mono {S S' : List Nat} {w w' : World} (h : Touch S w w') (hs : ∀ b ∈ S, b ∈ S') : Touch S' w w' := ⟨h.os, h.tape, h.output, h.size, fun k hk hn => h.block k hk (fun hm => hn (hs k hm))⟩
theorem Touch.then_below {S : List Nat} {a b c : World} (h : Touch S a b) (k : Below b.heap.size b c) : Touch S a c := h.trans (.of_below k)
theorem Touch.alloc {S : List Nat} {a w : World} (h : Touch S a w) (o : Obj) : Touch S a (w.alloc o) := h.then_below (Below.alloc (Below.refl _ _) (Nat.le_refl _) o)
theorem Touch.drew {S : List Nat} {a w : World} (h : Touch S a w) : Touch S a w.drew := ⟨h.os, h.tape, h.output, h.size, h.block⟩
theorem Touch.drewN {S : List Nat} {a w : World} (h : Touch S a w) (n : Nat) : Touch S a (w.drewN n) := ⟨h.os, h.tape, h.output, h.size, h.block⟩
theorem Touch.setCell {S : List Nat} {a w : World} (h : Touch S a w) {p : Addr} (hp : p.block ∈ S ∨ a.heap.size ≤ p.block) (u : Value) : Touch S a (w.setCell p u) :=
  ⟨h.os, h.tape, h.output, by simpa [World.setCell] using h.size, fun k hk hn => (Below.heap_setCell _ _ _ _ (by rintro rfl; rcases hp with hp | hp; exact hn hp; omega)).trans (h.block k hk hn)⟩
theorem Touch.grown {S : List Nat} {a w w' : World} {row : Option Nat} (h : Touch S a w) (hg : w.grownBy w' row) (hr : ∀ k, row = some k → k ∈ S ∨ a.heap.size ≤ k) : Touch S a w' :=
  ⟨hg.os.trans h.os, hg.tape.trans h.tape, hg.output.trans h.output, Nat.le_trans h.size hg.size, fun k hk hn => (hg.block k (Nat.lt_of_lt_of_le hk h.size) (fun e => by rcases hr k e.symm with hp | hp; exact hn hp; omega)).trans (h.block k hk hn)⟩
theorem Touch.onto {S : List Nat} {B : Nat} {w0 w w' : World} (hb : Below B w0 w) (h : Touch S w w') (hB : B ≤ w.heap.size) (hs : ∀ b ∈ S, B ≤ b) : Below B w0 w' :=
  hb.trans ⟨h.os, h.tape, h.output, h.size, fun k hk => h.block k (by omega) (fun hm => by have := hs k hm; omega)⟩
theorem Touch.cell {S : List Nat} {w w' : World} (h : Touch S w w') {p : Addr} (hp : p.block < w.heap.size) (hn : p.block ∉ S) : w'.cell? p = w.cell? p := World.cell?_of_block (w := w) (h.block p.block hp hn)

/-- An object: the blocks that whoever has it may change, all blocks that it stands in, what is true of it. -/
structure Ob where
  own : List Nat
  all : List Nat
  holds : World → Prop
  sub : ∀ b ∈ own, b ∈ all
  lt : ∀ w, holds w → ∀ b ∈ all, b < w.heap.size
  stab : ∀ w w', holds w → (∀ b ∈ all, w'.heap[b]? = w.heap[b]?) → holds w'
def Apart (a b : Ob) : Prop := (∀ x ∈ a.own, x ∉ b.all) ∧ (∀ x ∈ b.own, x ∉ a.all)
theorem Apart.symm {a b : Ob} (h : Apart a b) : Apart b a := ⟨h.2, h.1⟩
theorem Apart.quiet {a b : Ob} (ha : a.own = []) (hb : b.own = []) : Apart a b := ⟨by rw [ha]; simp, by rw [hb]; simp⟩
/-- What a law's body holds in its hands: the world above its own beginning, objects that don't meet. -/
structure St (w0 w : World) (Γ : List Ob) : Prop where
  bl : Below w0.heap.size w0 w
  ok : ∀ (i : Nat) (o : Ob), Γ[i]? = some o → o.holds w
  base : ∀ (i : Nat) (o : Ob), Γ[i]? = some o → ∀ b ∈ o.own, w0.heap.size ≤ b
  sep : ∀ (i j : Nat) (a b : Ob), i ≠ j → Γ[i]? = some a → Γ[j]? = some b → Apart a b
theorem St.nil (w : World) : St w w [] := ⟨Below.refl _ _, by simp, by simp, by simp⟩
theorem St.get {w0 w : World} {Γ : List Ob} (h : St w0 w Γ) (i : Nat) {a : Ob} (hi : Γ[i]? = some a) : a.holds w := h.ok i a hi
theorem St.below {w0 w w' : World} {Γ : List Ob} (h : St w0 w Γ) (hb : Below w.heap.size w w') : St w0 w' Γ :=
  ⟨h.bl.trans (hb.mono h.bl.size), fun i o hi => o.stab w w' (h.ok i o hi) (fun b hb' => hb.block b (o.lt w (h.ok i o hi) b hb')), h.base, h.sep⟩
theorem St.drew {w0 w : World} {Γ : List Ob} (h : St w0 w Γ) : St w0 w.drew Γ := h.below (Touch.refl [] w).drew.below
theorem St.drewN {w0 w : World} {Γ : List Ob} (h : St w0 w Γ) (n : Nat) : St w0 (w.drewN n) Γ := h.below ((Touch.refl [] w).drewN n).below
theorem St.alloc0 {w0 w : World} {Γ : List Ob} (h : St w0 w Γ) (o : Obj) : St w0 (w.alloc o) Γ := h.below ((Touch.refl [] w).alloc o).below
/-- Some of them, in another order. -/
theorem St.pick {w0 w : World} {Γ : List Ob} (h : St w0 w Γ) (is : List Nat) (hd : is.Nodup) : St w0 w (is.filterMap fun i => Γ[i]?) := by
  have key : ∀ (is : List Nat), is.Nodup → ∀ (k : Nat) (o : Ob), (is.filterMap fun i => Γ[i]?)[k]? = some o → ∃ i : Nat, i ∈ is ∧ Γ[i]? = some o := by
    intro is _ k o hk
    have := List.mem_of_getElem? hk
    obtain ⟨i, hi, ho⟩ := List.mem_filterMap.1 this
    exact ⟨i, hi, ho⟩
  have key2 : ∀ (is : List Nat), is.Nodup → ∀ (k l : Nat) (a b : Ob), k < l → (is.filterMap fun i => Γ[i]?)[k]? = some a → (is.filterMap fun i => Γ[i]?)[l]? = some b → ∃ i j : Nat, i ≠ j ∧ Γ[i]? = some a ∧ Γ[j]? = some b := by
    intro is
    induction is with
    | nil => intro _ k l a b _ hk; simp at hk
    | cons i is ih =>
      intro hn k l a b hkl hk hl
      rw [List.nodup_cons] at hn
      cases hg : Γ[i]? with
      | none =>
        simp only [List.filterMap_cons, hg] at hk hl
        exact ih hn.2 k l a b hkl hk hl
      | some o =>
        simp only [List.filterMap_cons, hg] at hk hl
        cases l with
        | zero => omega
        | succ l =>
          rw [List.getElem?_cons_succ] at hl
          cases k with
          | zero =>
            rw [List.getElem?_cons_zero] at hk
            injection hk with hk
            subst hk
            obtain ⟨j, hj, hb⟩ := key is hn.2 l b hl
            exact ⟨i, j, fun e => hn.1 (e ▸ hj), hg, hb⟩
          | succ k =>
            rw [List.getElem?_cons_succ] at hk
            exact ih hn.2 k l a b (by omega) hk hl
  refine ⟨h.bl, fun k o hk => ?_, fun k o hk => ?_, fun k l a b hne hk hl => ?_⟩
  · obtain ⟨i, _, hi⟩ := key is hd k o hk
    exact h.ok i o hi
  · obtain ⟨i, _, hi⟩ := key is hd k o hk
    exact h.base i o hi
  · rcases Nat.lt_or_gt_of_ne hne with hlt | hlt
    · obtain ⟨i, j, hij, ha, hb⟩ := key2 is hd k l a b hlt hk hl
      exact h.sep i j a b hij ha hb
    · obtain ⟨i, j, hij, hb, ha⟩ := key2 is hd l k b a hlt hl hk
      exact (h.sep i j b a hij hb ha).symm
/-- A call has changed one object, and made others. -/
theorem St.upd {w0 w w' : World} {Γ : List Ob} (h : St w0 w Γ) (i : Nat) {a : Ob} (hi : Γ[i]? = some a) (T : Touch a.own w w') (a' : Ob) (ex : List Ob)
    (hh : ∀ o ∈ a' :: ex, o.holds w') (hm : ∀ o ∈ a' :: ex, ∀ b ∈ o.own, b ∈ a.own ∨ w.heap.size ≤ b) (ha : ∀ o ∈ a' :: ex, ∀ b ∈ o.all, b ∈ a.all ∨ w.heap.size ≤ b)
    (hp : (a' :: ex).Pairwise Apart) : St w0 w' (Γ.set i a' ++ ex) := by
  have hlen : i < Γ.length := by
    rcases Nat.lt_or_ge i Γ.length with h' | h'
    · exact h'
    · rw [List.getElem?_eq_none h'] at hi; cases hi
  -- an elder one at another place
  have old : ∀ j o, j ≠ i → Γ[j]? = some o → o.holds w' ∧ ∀ n ∈ a' :: ex, Apart o n := by
    intro j o hj ho
    have hap := h.sep j i o a hj ho hi
    have hlt := o.lt w (h.ok j o ho)
    refine ⟨o.stab w w' (h.ok j o ho) (fun b hb => T.block b (hlt b hb) (fun hmem => hap.2 b hmem hb)), fun n hn => ⟨fun x hx hxn => ?_, fun x hx hxo => ?_⟩⟩
    · rcases ha n hn x hxn with hxa | hxs
      · exact hap.1 x hx hxa
      · have := hlt x (o.sub x hx); omega
    · rcases hm n hn x hx with hxa | hxs
      · exact hap.2 x hxa hxo
      · have := hlt x hxo; omega
  have cases' : ∀ j o, (Γ.set i a' ++ ex)[j]? = some o → (j ≠ i ∧ Γ[j]? = some o) ∨ (∃ k, (a' :: ex)[k]? = some o ∧ ((k = 0 ∧ j = i) ∨ (k = j + 1 - Γ.length ∧ Γ.length ≤ j))) := by
    intro j o hj
    rw [List.getElem?_append] at hj
    simp only [List.length_set] at hj
    split at hj
    · rw [List.getElem?_set] at hj
      split at hj
      · rename_i hij
        exact .inr ⟨0, hj, .inl ⟨rfl, hij.symm⟩⟩
      · rename_i hij
        exact .inl ⟨fun e => hij e.symm, hj⟩
    · rename_i hge
      refine .inr ⟨j + 1 - Γ.length, ?_, .inr ⟨rfl, by omega⟩⟩
      rw [show j + 1 - Γ.length = (j - Γ.length) + 1 by omega, List.getElem?_cons_succ]
      exact hj
  refine ⟨T.onto h.bl h.bl.size (h.base i a hi), fun j o hj => ?_, fun j o hj b hb => ?_, fun j k x y hjk hj hk => ?_⟩
  · rcases cases' j o hj with ⟨hji, ho⟩ | ⟨n, hn, _⟩
    · exact (old j o hji ho).1
    · exact hh o (List.mem_of_getElem? hn)
  · rcases cases' j o hj with ⟨hji, ho⟩ | ⟨n, hn, _⟩
    · exact h.base j o ho b hb
    · rcases hm o (List.mem_of_getElem? hn) b hb with h1 | h1
      · exact h.base i a hi b h1
      · exact Nat.le_trans h.bl.size h1
  · rcases cases' j x hj with ⟨hji, hx⟩ | ⟨n, hn, hnj⟩
    · rcases cases' k y hk with ⟨hki, hy⟩ | ⟨m, hm', _⟩
      · exact h.sep j k x y hjk hx hy
      · exact (old j x hji hx).2 y (List.mem_of_getElem? hm')
    · rcases cases' k y hk with ⟨hki, hy⟩ | ⟨m, hm', hmk⟩
      · exact ((old k y hki hy).2 x (List.mem_of_getElem? hn)).symm
      · have hne : n ≠ m := by omega
        have hnl := (List.getElem?_eq_some_iff.1 hn).1
        have hml := (List.getElem?_eq_some_iff.1 hm').1
        rw [List.pairwise_iff_getElem] at hp
        rcases Nat.lt_or_gt_of_ne hne with hlt | hlt
        · have := hp n m hnl hml hlt
          rwa [(List.getElem?_eq_some_iff.1 hn).2, (List.getElem?_eq_some_iff.1 hm').2] at this
        · have := hp m n hml hnl hlt
          rw [(List.getElem?_eq_some_iff.1 hn).2, (List.getElem?_eq_some_iff.1 hm').2] at this
          exact this.symm
/-- A call has made objects, and changed none. -/
theorem St.add {w0 w w' : World} {Γ : List Ob} (h : St w0 w Γ) (hb : Below w.heap.size w w') (ex : List Ob)
    (hh : ∀ o ∈ ex, o.holds w') (ha : ∀ o ∈ ex, ∀ b ∈ o.all, w.heap.size ≤ b) (hp : ex.Pairwise Apart) : St w0 w' (Γ ++ ex) := by
  have h' := h.below hb
  have cases' : ∀ j o, (Γ ++ ex)[j]? = some o → Γ[j]? = some o ∨ (ex[j - Γ.length]? = some o ∧ Γ.length ≤ j) := by
    intro j o hj
    rw [List.getElem?_append] at hj
    split at hj
    · exact .inl hj
    · exact .inr ⟨hj, by omega⟩
  have ap : ∀ j o n, Γ[j]? = some o → n ∈ ex → Apart o n := fun j o n ho hn =>
    ⟨fun x hx hxn => by have := o.lt w (h.ok j o ho) x (o.sub x hx); have := ha n hn x hxn; omega,
     fun x hx hxo => by have := o.lt w (h.ok j o ho) x hxo; have := ha n hn x (n.sub x hx); omega⟩
  refine ⟨h'.bl, fun j o hj => ?_, fun j o hj b hb => ?_, fun j k x y hjk hj hk => ?_⟩
  · rcases cases' j o hj with ho | ⟨ho, _⟩
    · exact h'.ok j o ho
    · exact hh o (List.mem_of_getElem? ho)
  · rcases cases' j o hj with ho | ⟨ho, _⟩
    · exact h'.base j o ho b hb
    · exact Nat.le_trans h.bl.size (ha o (List.mem_of_getElem? ho) b (o.sub b hb))
  · rcases cases' j x hj with hx | ⟨hx, hjl⟩
    · rcases cases' k y hk with hy | ⟨hy, _⟩
      · exact h'.sep j k x y hjk hx hy
      · exact ap j x y hx (List.mem_of_getElem? hy)
    · rcases cases' k y hk with hy | ⟨hy, hkl⟩
      · exact (ap k y x hy (List.mem_of_getElem? hx)).symm
      · have hne : j - Γ.length ≠ k - Γ.length := by omega
        have hnl := (List.getElem?_eq_some_iff.1 hx).1
        have hml := (List.getElem?_eq_some_iff.1 hy).1
        rw [List.pairwise_iff_getElem] at hp
        rcases Nat.lt_or_gt_of_ne hne with hlt | hlt
        · have := hp _ _ hnl hml hlt
          rwa [(List.getElem?_eq_some_iff.1 hx).2, (List.getElem?_eq_some_iff.1 hy).2] at this
        · have := hp _ _ hml hnl hlt
          rw [(List.getElem?_eq_some_iff.1 hx).2, (List.getElem?_eq_some_iff.1 hy).2] at this
          exact this.symm
/-- What came in: it is only read. -/
theorem St.read {w : World} {Γ : List Ob} (hq : ∀ o ∈ Γ, o.own = []) (hh : ∀ o ∈ Γ, o.holds w) : St w w Γ :=
  ⟨Below.refl _ _, fun i o hi => hh o (List.mem_of_getElem? hi), fun i o hi b hb => (by rw [hq o (List.mem_of_getElem? hi)] at hb; cases hb),
   fun i j a b _ hi hj => Apart.quiet (hq a (List.mem_of_getElem? hi)) (hq b (List.mem_of_getElem? hj))⟩
/-- A block whose cells are known, and that is the law's own. -/
def obB (b : Nat) (cs : Array Value) (T : TypeId) : Ob where
  own := [b]
  all := [b]
  holds w := w.heap[b]? = some (.cells cs T (0, 0))
  sub := fun _ h => h
  lt := fun w h b' hb => by obtain rfl := List.mem_singleton.1 hb; exact lt_of_block h
  stab := fun w w' h hs => (hs b (List.mem_singleton.2 rfl)).trans h
theorem St.box {w0 w : World} {Γ : List Ob} (h : St w0 w Γ) (cs : Array Value) (T : TypeId) : St w0 (w.alloc (.cells cs T)) (Γ ++ [obB w.heap.size cs T]) :=
  h.add ((Touch.refl [] w).alloc _).below [obB w.heap.size cs T] (fun o ho => by obtain rfl := List.mem_singleton.1 ho; exact heap_alloc_new w _)
    (fun o ho b hb => by obtain rfl := List.mem_singleton.1 ho; obtain rfl := List.mem_singleton.1 hb; exact Nat.le_refl _) (List.pairwise_singleton _ _)
end Go.Proofs.Ytadhceoaoopcjaa.SL
