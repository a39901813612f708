/- Objects in memory, each with the blocks that it stands in, and what is left of all when a call has changed one of them: a frame law, over any program. No condition. -/
import Derived.Below
import Derived.OneCell
import Derived.Deep.Quiet
import Derived.Test.YtdinkhhaomblcaaDoorWWords
import Derived.Test.YtdinkhhaomblcaaDoorWLast
import Derived.Test.YtdinkhhaomblcaaDoorWMore
import Derived.Deep.AppendLies
import Derived.Lib.Hide
namespace Go.Proofs.YtdinkhhaomblcaaDoor.SL
open Go.RowKit

/-- Of the blocks that were there only those of S may have changed. -/
structure Touch (S : List Nat) (w w' : World) : Prop where
  os : w'.os = w.os
  tape : w'.tape = w.tape
  output : w'.output = w.output
  size : w.heap.size ≤ w'.heap.size
  block : ∀ k, k < w.heap.size → k ∉ S → w'.heap[k]? = w.heap[k]?
theorem Touch.refl (S : List Nat) (w : World) : Touch S w w := ⟨rfl, rfl, rfl, Nat.le_refl _, fun _ _ _ => rfl⟩
theorem Touch.of_below {S : List Nat} {w w' : World} (h : Below w.heap.size w w') : Touch S w w' := ⟨h.os, h.tape, h.output, h.size, fun k hk _ => h.block k hk⟩
theorem Touch.below {w w' : World} (h : Touch [] w w') : Below w.heap.size w w' := ⟨h.os, h.tape, h.output, h.size, fun k hk => h.block k hk (by simp)⟩
theorem Touch.trans {S : List Nat} {a b c : World} (h : Touch S a b) (k : Touch S b c) : Touch S a c :=
  ⟨k.os.trans h.os, k.tape.trans h.tape, k.output.trans h.output, Nat.le_trans h.size k.size, fun i hi hs => (k.block i (Nat.lt_of_lt_of_le hi h.size) hs).trans (h.block i hi hs)⟩
theorem Touch.mono {S S' : List Nat} {w w' : World} (h : Touch S w w') (hs : ∀ b ∈ S, b ∈ S') : Touch S' w w' := ⟨h.os, h.tape, h.output, h.size, fun k hk hn => h.block k hk (fun hm => hn (hs k hm))⟩
theorem Touch.then_below {S : List Nat} {a b c : World} (h : Touch S a b) (k : Below b.heap.size b c) : Touch S a c := h.trans (.of_below k)
theorem Touch.alloc {S : List Nat} {a w : World} (h : Touch S a w) (o : Obj) : Touch S a (w.alloc o) := h.then_below (Below.alloc (Below.refl _ _) (Nat.le_refl _) o)
theorem Touch.drew {S : List Nat} {a w : World} (h : Touch S a w) : Touch S a w.drew := ⟨h.os, h.tape, h.output, h.size, h.block⟩
theorem Touch.drewN {S : List Nat} {a w : World} (h : Touch S a w) (n : Nat) : Touch S a (w.drewN n) := ⟨h.os, h.tape, h.output, h.size, h.block⟩
theorem Touch.setCell {S : List Nat} {a w : World} (h : Touch S a w) {p : Addr} (hp : p.block ∈ S ∨ a.heap.size ≤ p.block) (u : Value) : Touch S a (w.setCell p u) :=
  ⟨h.os, h.tape, h.output, by simpa [World.setCell] using h.size, fun k hk hn => (Below.heap_setCell _ _ _ _ (by rintro rfl; rcases hp with hp | hp; exact hn hp; omega)).trans (h.block k hk hn)⟩
theorem Touch.grown {S : List Nat} {a w w' : World} {row : Option Nat} (h : Touch S a w) (hg : w.grownBy w' row) (hr : ∀ k, row = some k → k ∈ S ∨ a.heap.size ≤ k) : Touch S a w' :=
  ⟨hg.os.trans h.os, hg.tape.trans h.tape, hg.output.trans h.output, Nat.le_trans h.size hg.size, fun k hk hn => (hg.block k (Nat.lt_of_lt_of_le hk h.size) (fun e => by rcases hr k e.symm with hp | hp; exact hn hp; omega)).trans (h.block k hk hn)⟩
theorem Touch.onto {S : List Nat} {B : Nat} {w0 w w' : World} (hb : Below B w0 w) (h : Touch S w w') (hB : B ≤ w.heap.size) (hs : ∀ b ∈ S, B ≤ b) : Below B w0 w' :=
  hb.trans ⟨h.os, h.tape, h.output, h.size, fun k hk => h.block k (by omega) (fun hm => by have := hs k hm; omega)⟩
theorem Touch.cell {S : List Nat} {w w' : World} (h : Touch S w w') {p : Addr} (hp : p.block < w.heap.size) (hn : p.block ∉ S) : w'.cell? p = w.cell? p := World.cell?_of_block (w := w) (h.block p.block hp hn)

/-- An object: the blocks that whoever has it may change, all blocks that it stands in, what is true of it. -/
structure Ob where
  own : List Nat
  all : List Nat
  holds : World → Prop
  sub : ∀ b ∈ own, b ∈ all
  lt : ∀ w, holds w → ∀ b ∈ all, b < w.heap.size
  stab : ∀ w w', holds w → (∀ b ∈ all, w'.heap[b]? = w.heap[b]?) → holds w'
def Apart (a b : Ob) : Prop := (∀ x ∈ a.own, x ∉ b.all) ∧ (∀ x ∈ b.own, x ∉ a.all)
theorem Apart.symm {a b : Ob} (h : Apart a b) : Apart b a := ⟨h.2, h.1⟩
theorem Apart.quiet {a b : Ob} (ha : a.own = []) (hb : b.own = []) : Apart a b := ⟨by rw [ha]; simp, by rw [hb]; simp⟩
/-- What a law's body holds in its hands: the world above its own beginning, objects that don't meet. -/
structure St (w0 w : World) (Γ : List Ob) : Prop where
  bl : Below w0.heap.size w0 w
  ok : ∀ (i : Nat) (o : Ob), Γ[i]? = some o → o.holds w
  base : ∀ (i : Nat) (o : Ob), Γ[i]? = some o → ∀ b ∈ o.own, w0.heap.size ≤ b
  sep : ∀ (i j : Nat) (a b : Ob), i ≠ j → Γ[i]? = some a → Γ[j]? = some b → Apart a b
theorem St.nil (w : World) : St w w [] := ⟨Below.refl _ _, by simp, by simp, by simp⟩
theorem St.get {w0 w : World} {Γ : List Ob} (h : St w0 w Γ) (i : Nat) {a : Ob} (hi : Γ[i]? = some a) : a.holds w := h.ok i a hi
theorem St.below {w0 w w' : World} {Γ : List Ob} (h : St w0 w Γ) (hb : Below w.heap.size w w') : St w0 w' Γ :=
  ⟨h.bl.trans (hb.mono h.bl.size), fun i o hi => o.stab w w' (h.ok i o hi) (fun b hb' => hb.block b (o.lt w (h.ok i o hi) b hb')), h.base, h.sep⟩
theorem St.drew {w0 w : World} {Γ : List Ob} (h : St w0 w Γ) : St w0 w.drew Γ := h.below (Touch.refl [] w).drew.below
theorem St.drewN {w0 w : World} {Γ : List Ob} (h : St w0 w Γ) (n : Nat) : St w0 (w.drewN n) Γ := h.below ((Touch.refl [] w).drewN n).below
theorem St.alloc0 {w0 w : World} {Γ : List Ob} (h : St w0 w Γ) (o : Obj) : St w0 (w.alloc o) Γ := h.below ((Touch.refl [] w).alloc o).below
/-- Some of them, in another order. -/
theorem St.pick {w0 w : World} {Γ : List Ob} (h : St w0 w Γ) (is : List Nat) (hd : is.Nodup) : St w0 w (is.filterMap fun i => Γ[i]?) := by
  have key : ∀ (is : List Nat), is.Nodup → ∀ (k : Nat) (o : Ob), (is.filterMap fun i => Γ[i]?)[k]? = some o → ∃ i : Nat, i ∈ is ∧ Γ[i]? = some o := by
    intro is _ k o hk
    have := List.mem_of_getElem? hk
    obtain ⟨i, hi, ho⟩ := List.mem_filterMap.1 this
    exact ⟨i, hi, ho⟩
  have key2 : ∀ (is : List Nat), is.Nodup → ∀ (k l : Nat) (a b : Ob), k < l → (is.filterMap fun i => Γ[i]?)[k]? = some a → (is.filterMap fun i => Γ[i]?)[l]? = some b → ∃ i j : Nat, i ≠ j ∧ Γ[i]? = some a ∧ Γ[j]? = some b := by
    intro is
    induction is with
    | nil => intro _ k l a b _ hk; simp at hk
    | cons i is ih =>
      intro hn k l a b hkl hk hl
      rw [List.nodup_cons] at hn
      cases hg : Γ[i]? with
      | none =>
        simp only [List.filterMap_cons, hg] at hk hl
        exact ih hn.2 k l a b hkl hk hl
      | some o =>
        simp only [List.filterMap_cons, hg] at hk hl
        cases l with
        | zero => omega
        | succ l =>
          rw [List.getElem?_cons_succ] at hl
          cases k with
          | zero =>
            rw [List.getElem?_cons_zero] at hk
            injection hk with hk
            subst hk
            obtain ⟨j, hj, hb⟩ := key is hn.2 l b hl
            exact ⟨i, j, fun e => hn.1 (e ▸ hj), hg, hb⟩
          | succ k =>
            rw [List.getElem?_cons_succ] at hk
            exact ih hn.2 k l a b (by omega) hk hl
  refine ⟨h.bl, fun k o hk => ?_, fun k o hk => ?_, fun k l a b hne hk hl => ?_⟩
  · obtain ⟨i, _, hi⟩ := key is hd k o hk
    exact h.ok i o hi
  · obtain ⟨i, _, hi⟩ := key is hd k o hk
    exact h.base i o hi
  · rcases Nat.lt_or_gt_of_ne hne with hlt | hlt
    · obtain ⟨i, j, hij, ha, hb⟩ := key2 is hd k l a b hlt hk hl
      exact h.sep i j a b hij ha hb
    · obtain ⟨i, j, hij, hb, ha⟩ := key2 is hd l k b a hlt hl hk
      exact (h.sep i j b a hij hb ha).symm
/-- A call has changed one object, and made others. -/
theorem St.upd {w0 w w' : World} {Γ : List Ob} (h : St w0 w Γ) (i : Nat) {a : Ob} (hi : Γ[i]? = some a) (T : Touch a.own w w') (a' : Ob) (ex : List Ob)
    (hh : ∀ o ∈ a' :: ex, o.holds w') (hm : ∀ o ∈ a' :: ex, ∀ b ∈ o.own, b ∈ a.own ∨ w.heap.size ≤ b) (ha : ∀ o ∈ a' :: ex, ∀ b ∈ o.all, b ∈ a.all ∨ w.heap.size ≤ b)
    (hp : (a' :: ex).Pairwise Apart) : St w0 w' (Γ.set i a' ++ ex) := by
  have hlen : i < Γ.length := by
    rcases Nat.lt_or_ge i Γ.length with h' | h'
    · exact h'
    · rw [List.getElem?_eq_none h'] at hi; cases hi
  -- an elder one at another place
  have old : ∀ j o, j ≠ i → Γ[j]? = some o → o.holds w' ∧ ∀ n ∈ a' :: ex, Apart o n := by
    intro j o hj ho
    have hap := h.sep j i o a hj ho hi
    have hlt := o.lt w (h.ok j o ho)
    refine ⟨o.stab w w' (h.ok j o ho) (fun b hb => T.block b (hlt b hb) (fun hmem => hap.2 b hmem hb)), fun n hn => ⟨fun x hx hxn => ?_, fun x hx hxo => ?_⟩⟩
    · rcases ha n hn x hxn with hxa | hxs
      · exact hap.1 x hx hxa
      · have := hlt x (o.sub x hx); omega
    · rcases hm n hn x hx with hxa | hxs
      · exact hap.2 x hxa hxo
      · have := hlt x hxo; omega
  have cases' : ∀ j o, (Γ.set i a' ++ ex)[j]? = some o → (j ≠ i ∧ Γ[j]? = some o) ∨ (∃ k, (a' :: ex)[k]? = some o ∧ ((k = 0 ∧ j = i) ∨ (k = j + 1 - Γ.length ∧ Γ.length ≤ j))) := by
    intro j o hj
    rw [List.getElem?_append] at hj
    simp only [List.length_set] at hj
    split at hj
    · rw [List.getElem?_set] at hj
      split at hj
      · rename_i hij
        exact .inr ⟨0, hj, .inl ⟨rfl, hij.symm⟩⟩
      · rename_i hij
        exact .inl ⟨fun e => hij e.symm, hj⟩
    · rename_i hge
      refine .inr ⟨j + 1 - Γ.length, ?_, .inr ⟨rfl, by omega⟩⟩
      rw [show j + 1 - Γ.length = (j - Γ.length) + 1 by omega, List.getElem?_cons_succ]
      exact hj
  refine ⟨T.onto h.bl h.bl.size (h.base i a hi), fun j o hj => ?_, fun j o hj b hb => ?_, fun j k x y hjk hj hk => ?_⟩
  · rcases cases' j o hj with ⟨hji, ho⟩ | ⟨n, hn, _⟩
    · exact (old j o hji ho).1
    · exact hh o (List.mem_of_getElem? hn)
  · rcases cases' j o hj with ⟨hji, ho⟩ | ⟨n, hn, _⟩
    · exact h.base j o ho b hb
    · rcases hm o (List.mem_of_getElem? hn) b hb with h1 | h1
      · exact h.base i a hi b h1
      · exact Nat.le_trans h.bl.size h1
  · rcases cases' j x hj with ⟨hji, hx⟩ | ⟨n, hn, hnj⟩
    · rcases cases' k y hk with ⟨hki, hy⟩ | ⟨m, hm', _⟩
      · exact h.sep j k x y hjk hx hy
      · exact (old j x hji hx).2 y (List.mem_of_getElem? hm')
    · rcases cases' k y hk with ⟨hki, hy⟩ | ⟨m, hm', hmk⟩
      · exact ((old k y hki hy).2 x (List.mem_of_getElem? hn)).symm
      · have hne : n ≠ m := by omega
        have hnl := (List.getElem?_eq_some_iff.1 hn).1
        have hml := (List.getElem?_eq_some_iff.1 hm').1
        rw [List.pairwise_iff_getElem] at hp
        rcases Nat.lt_or_gt_of_ne hne with hlt | hlt
        · have := hp n m hnl hml hlt
          rwa [(List.getElem?_eq_some_iff.1 hn).2, (List.getElem?_eq_some_iff.1 hm').2] at this
        · have := hp m n hml hnl hlt
          rw [(List.getElem?_eq_some_iff.1 hn).2, (List.getElem?_eq_some_iff.1 hm').2] at this
          exact this.symm
/-- A call has made objects, and changed none. -/
theorem St.add {w0 w w' : World} {Γ : List Ob} (h : St w0 w Γ) (hb : Below w.heap.size w w') (ex : List Ob)
    (hh : ∀ o ∈ ex, o.holds w') (ha : ∀ o ∈ ex, ∀ b ∈ o.all, w.heap.size ≤ b) (hp : ex.Pairwise Apart) : St w0 w' (Γ ++ ex) := by
  have h' := h.below hb
  have cases' : ∀ j o, (Γ ++ ex)[j]? = some o → Γ[j]? = some o ∨ (ex[j - Γ.length]? = some o ∧ Γ.length ≤ j) := by
    intro j o hj
    rw [List.getElem?_append] at hj
    split at hj
    · exact .inl hj
    · exact .inr ⟨hj, by omega⟩
  have ap : ∀ j o n, Γ[j]? = some o → n ∈ ex → Apart o n := fun j o n ho hn =>
    ⟨fun x hx hxn => by have := o.lt w (h.ok j o ho) x (o.sub x hx); have := ha n hn x hxn; omega,
     fun x hx hxo => by have := o.lt w (h.ok j o ho) x hxo; have := ha n hn x (n.sub x hx); omega⟩
  refine ⟨h'.bl, fun j o hj => ?_, fun j o hj b hb => ?_, fun j k x y hjk hj hk => ?_⟩
  · rcases cases' j o hj with ho | ⟨ho, _⟩
    · exact h'.ok j o ho
    · exact hh o (List.mem_of_getElem? ho)
  · rcases cases' j o hj with ho | ⟨ho, _⟩
    · exact h'.base j o ho b hb
    · exact Nat.le_trans h.bl.size (ha o (List.mem_of_getElem? ho) b (o.sub b hb))
  · rcases cases' j x hj with hx | ⟨hx, hjl⟩
    · rcases cases' k y hk with hy | ⟨hy, _⟩
      · exact h'.sep j k x y hjk hx hy
      · exact ap j x y hx (List.mem_of_getElem? hy)
    · rcases cases' k y hk with hy | ⟨hy, hkl⟩
      · exact (ap k y x hy (List.mem_of_getElem? hx)).symm
      · have hne : j - Γ.length ≠ k - Γ.length := by omega
        have hnl := (List.getElem?_eq_some_iff.1 hx).1
        have hml := (List.getElem?_eq_some_iff.1 hy).1
        rw [List.pairwise_iff_getElem] at hp
        rcases Nat.lt_or_gt_of_ne hne with hlt | hlt
        · have := hp _ _ hnl hml hlt
          rwa [(List.getElem?_eq_some_iff.1 hx).2, (List.getElem?_eq_some_iff.1 hy).2] at this
        · have := hp _ _ hml hnl hlt
          rw [(List.getElem?_eq_some_iff.1 hx).2, (List.getElem?_eq_some_iff.1 hy).2] at this
          exact this.symm
/-- What came in: it is only read. -/
theorem St.read {w : World} {Γ : List Ob} (hq : ∀ o ∈ Γ, o.own = []) (hh : ∀ o ∈ Γ, o.holds w) : St w w Γ :=
  ⟨Below.refl _ _, fun i o hi => hh o (List.mem_of_getElem? hi), fun i o hi b hb => (by rw [hq o (List.mem_of_getElem? hi)] at hb; cases hb),
   fun i j a b _ hi hj => Apart.quiet (hq a (List.mem_of_getElem? hi)) (hq b (List.mem_of_getElem? hj))⟩
/-- A block whose cells are known, and that is the law's own. -/
def obB (b : Nat) (cs : Array Value) (T : TypeId) : Ob where
  own := [b]
  all := [b]
  holds w := w.heap[b]? = some (.cells cs T (0, 0))
  sub := fun _ h => h
  lt := fun w h b' hb => by obtain rfl := List.mem_singleton.1 hb; exact lt_of_block h
  stab := fun w w' h hs => (hs b (List.mem_singleton.2 rfl)).trans h
theorem St.box {w0 w : World} {Γ : List Ob} (h : St w0 w Γ) (cs : Array Value) (T : TypeId) : St w0 (w.alloc (.cells cs T)) (Γ ++ [obB w.heap.size cs T]) :=
  h.add ((Touch.refl [] w).alloc _).below [obB w.heap.size cs T] (fun o ho => by obtain rfl := List.mem_singleton.1 ho; exact heap_alloc_new w _)
    (fun o ho b hb => by obtain rfl := List.mem_singleton.1 ho; obtain rfl := List.mem_singleton.1 hb; exact Nat.le_refl _) (List.pairwise_singleton _ _)
end Go.Proofs.YtdinkhhaomblcaaDoor.SL
namespace Go.Proofs.YtdinkhhaomblcaaDoor.SL
open Go.RowKit Go.Proofs.YtdinkhhaomblcaaDoorW.PrintWords Go.Proofs.YtdinkhhaomblcaaDoorW.PrintLast Go.Proofs.YtdinkhhaomblcaaDoorW.PrintMore

/-- A kind whose cells say all: nothing else in memory is meant. -/
def Flat {α : Type} (d : Kd α) : Prop := ∀ (w w' : World) (base : Nat) (ok : Nat → Prop) (x : α) (cs : List Value), d.K w x cs → d.M w' base ok x cs
section
variable {α : Type} {d : Kd α} {e : Nat} {w0 w w1 : World} {Γ : List Ob}
theorem Flat.KK (hf : Flat d) {w w' : World} {x : α} {cs : List Value} (h : d.K w x cs) : d.K w' x cs := d.K_of_M (hf w w' 0 (fun _ => True) x cs h)
def blkOf (A : Option Addr) (l : List α) : List Nat := if l = [] then [] else (A.map (·.block)).toList
theorem add_block' (ad : Addr) (i : Nat) : (ad.add i).block = ad.block := by unfold Addr.add; split <;> rfl
theorem C_same' (hf : Flat d) {w w' : World} {A : Option Addr} {l : List α} (h : d.C w A l.length l) (hs : ∀ b ∈ blkOf A l, w'.heap[b]? = w.heap[b]?) : d.C w' A l.length l := by
  refine ⟨h.1, h.2.1, fun hn => ?_⟩
  obtain ⟨ad, e, hc⟩ := h.2.2 hn
  refine ⟨ad, e, fun j p hp => ?_⟩
  obtain ⟨c, h1, h2, h3⟩ := hc j p hp
  have hb : w'.heap[ad.block]? = w.heap[ad.block]? := hs ad.block (by unfold blkOf; rw [if_neg (by rintro rfl; simp at hn), e]; simp)
  exact ⟨c, h1, hf.KK h2, fun i u hu => (World.cell?_of_block (w := w) (by rw [add_block']; exact hb)).trans (h3 i u hu)⟩
theorem C_lt' (hz : 0 < d.sz) {w : World} {A : Option Addr} {l : List α} (h : d.C w A l.length l) : ∀ b ∈ blkOf A l, b < w.heap.size := by
  intro b hb
  unfold blkOf at hb
  split at hb
  · cases hb
  · rename_i hne
    have hn : 0 < l.length := List.length_pos_iff.2 hne
    obtain ⟨ad, e, hc⟩ := h.2.2 hn
    rw [e] at hb
    obtain rfl : b = ad.block := by simpa using hb
    obtain ⟨c, h1, h2, h3⟩ := hc 0 _ (List.getElem?_eq_getElem hn)
    have := World.block_lt_of_cell? w _ (h3 0 _ (List.getElem?_eq_getElem (by omega)))
    rwa [add_block'] at this
/-- A row that is read. -/
def obRd (d : Kd α) (hf : Flat d) (hz : 0 < d.sz) (A : Option Addr) (c : Nat) (l : List α) : Ob where
  own := []
  all := blkOf A l
  holds w := d.C w A l.length l ∧ l.length ≤ c
  sub := fun _ h => by cases h
  lt := fun w h => C_lt' hz h.1
  stab := fun w w' h hs => ⟨C_same' hf h.1 hs, h.2⟩
/-- A row that is written to. -/
def obW (d : Kd α) (e : Nat) (hf : Flat d) (v : Value) (l : List α) : Ob where
  own := v.ownBlock.toList
  all := v.ownBlock.toList
  holds w := d.R e w 0 (fun _ => True) v l
  sub := fun _ h => h
  lt := fun w h b hb => by
    obtain ⟨inner, ho⟩ := Kd.R_own h
    exact own_lt ho b (by simpa using hb)
  stab := fun w w' h hs => by
    obtain ⟨h0, inner, ho, hr⟩ := h
    refine Kd.R_mono (ok := fun k => v.ownBlock = some k) (Kd.R_move ⟨fun k hk => hk, inner, ho, hr.imp_ (fun x cs hx => hf w w 0 _ x cs (d.K_of_M hx))⟩ (fun k hk => hs k (by rw [hk]; simp))) (fun _ _ => trivial)
theorem St.newW (h : St w0 w Γ) (hf : Flat d) : St w0 w (Γ ++ [obW d e hf (.slice none 0 0) []]) :=
  h.add (Below.refl _ _) [obW d e hf (.slice none 0 0) []] (fun o ho => by obtain rfl := List.mem_singleton.1 ho; exact Kd.R_nil _ _ _ _ _) (fun o ho b hb => by obtain rfl := List.mem_singleton.1 ho; cases (show b ∈ ([] : List Nat) from hb)) (List.pairwise_singleton _ _)
/-- What was appended to a row of one's own. -/
theorem St.growW (h : St w0 w Γ) {hf : Flat d} (i : Nat) {v v1 : Value} {xs ys : List α} (hi : Γ[i]? = some (obW d e hf v xs)) (hR : d.R e w1 0 (fun _ => True) v1 ys) (hg : w.grownBy w1 v.ownBlock)
    (hat : v1.ownBlock = v.ownBlock ∨ ∃ b, v1.ownBlock = some b ∧ w.heap.size ≤ b) : St w0 w1 (Γ.set i (obW d e hf v1 ys)) := by
  have key : ∀ o ∈ [obW d e hf v1 ys], ∀ b ∈ o.all, b ∈ v.ownBlock.toList ∨ w.heap.size ≤ b := fun o ho b hb => by
    obtain rfl := List.mem_singleton.1 ho
    have hb' : b ∈ v1.ownBlock.toList := hb
    rcases hat with e | ⟨k, e, hk⟩
    · rw [e] at hb'; exact .inl hb'
    · rw [e] at hb'
      obtain rfl : b = k := by simpa using hb'
      exact .inr hk
  have := h.upd i hi (Touch.grown (Touch.refl _ w) hg (fun k hk => .inl (show k ∈ v.ownBlock.toList by rw [hk]; simp))) (obW d e hf v1 ys) [] (fun o ho => by obtain rfl := List.mem_singleton.1 ho; exact hR)
    (fun o ho b hb => key o ho b (o.sub b hb)) key (List.pairwise_singleton _ _)
  rwa [List.append_nil] at this
/-- A new row in the place of one's own. -/
theorem St.anewW (h : St w0 w Γ) {hf : Flat d} (i : Nat) {v v1 : Value} {xs ys : List α} (hi : Γ[i]? = some (obW d e hf v xs)) (hb : Below w.heap.size w w1) (hR : d.R e w1 w.heap.size (fun _ => True) v1 ys) : St w0 w1 (Γ.set i (obW d e hf v1 ys)) := by
  have key : ∀ o ∈ [obW d e hf v1 ys], ∀ b ∈ o.all, b ∈ v.ownBlock.toList ∨ w.heap.size ≤ b := fun o ho b hb => by
    obtain rfl := List.mem_singleton.1 ho
    have hb' : b ∈ v1.ownBlock.toList := hb
    exact .inr (Kd.R_base hR b (by simpa using hb'))
  have := h.upd i hi (.of_below hb) (obW d e hf v1 ys) [] (fun o ho => by obtain rfl := List.mem_singleton.1 ho; exact Kd.R_lower hR (Nat.zero_le _))
    (fun o ho b hb => key o ho b (o.sub b hb)) key (List.pairwise_singleton _ _)
  rwa [List.append_nil] at this
/-- A new row beside all. -/
theorem St.addW (h : St w0 w Γ) (hf : Flat d) {v1 : Value} {ys : List α} (hb : Below w.heap.size w w1) (hR : d.R e w1 w.heap.size (fun _ => True) v1 ys) : St w0 w1 (Γ ++ [obW d e hf v1 ys]) :=
  h.add hb [obW d e hf v1 ys] (fun o ho => by obtain rfl := List.mem_singleton.1 ho; exact Kd.R_lower hR (Nat.zero_le _)) (fun o ho b hb => by
    obtain rfl := List.mem_singleton.1 ho
    have hb' : b ∈ v1.ownBlock.toList := hb
    exact Kd.R_base hR b (by simpa using hb')) (List.pairwise_singleton _ _)
theorem St.readsW (h : St w0 w Γ) {hf : Flat d} (i : Nat) {v : Value} {xs : List α} (hi : Γ[i]? = some (obW d e hf v xs)) : ∃ A c, v = .slice A xs.length c ∧ xs.length ≤ c ∧ d.C w A xs.length xs := Kd.R_reads (h.get i hi)
theorem St.readW (h : St w0 w Γ) {hf : Flat d} (i : Nat) {A : Option Addr} {n c : Nat} {xs : List α} (hi : Γ[i]? = some (obW d e hf (.slice A n c) xs)) : d.C w A xs.length xs := (Kd.R_reads' (h.get i hi)).2.2
end
end Go.Proofs.YtdinkhhaomblcaaDoor.SL
namespace Go.Proofs.YtdinkhhaomblcaaDoor.SL
open Go.RowKit Go.Proofs.YtdinkhhaomblcaaDoorW.PrintWords Go.Proofs.YtdinkhhaomblcaaDoorW.PrintLast Go.Proofs.YtdinkhhaomblcaaDoorW.PrintMore

theorem run_append_two {P : Program} (w : World) (base : Nat) (t ty e : TypeId) (i : TypeInfo) (z : Value) (size bytes : Nat) (ht : P.underlying t = some (.slice e)) (hi : P.info? e = some i) (hz : i.zero = some z)
    (hsize : i.size = size) (hby : i.bytes = bytes) (hzs : z.cells.size = size) (hsz : 0 < size)
    (v : Value) (n : Nat) (xs : List Value) (hown : w.ownsRow base e size v n xs)
    (a : Addr) (m c : Nat) (news : List Value) (hl : news.length = m * size) (hnews : ∀ j u, news[j]? = some u → w.cell? (a.add j) = some u) (h1 : ∀ u ∈ news, u.oneCell' = true)
    (hm : 0 < m) (h63 : n + m ≤ maxLen) (hbytes : (n + m) * bytes ≤ 140737488355328) (hbase : base ≤ w.heap.size) :
    ∃ v' w', (Builtin.append_ #[t, t] ty #[v, .slice (some a) m c]).run P w = .ok v' w' ∧ w'.ownsRow base e size v' (n + m) (xs ++ news) ∧
      ((∃ g cap, v = .slice (some ⟨g, 0, none⟩) n cap ∧ v' = .slice (some ⟨g, 0, none⟩) (n + m) cap ∧ w.grownBy w' (some g)) ∨
        (∃ cap, v' = .slice (some ⟨w.heap.size, 0, none⟩) (n + m) cap ∧ Below w.heap.size w w')) := by
  subst hsize
  subst hby
  have hsmall : n + m ≤ 9223372036854775807 := by simp only [maxLen] at h63; omega
  have hlen : (xs ++ news).length = (n + m) * i.size := by rw [List.length_append, hown.1, hl, Nat.add_mul]
  have grown : ∀ (old : Nat), old < n + m →
      (w.drew.alloc (.cells (xs.toArray ++ news.toArray ++ Builtin.zeroCells z.cells (grownCap w (n + m) old e - (n + m))) e)).ownsRow base e i.size
        (.slice (some ⟨w.heap.size, 0, none⟩) (n + m) (grownCap w (n + m) old e)) (n + m) (xs ++ news) ∧
      Below w.heap.size w (w.drew.alloc (.cells (xs.toArray ++ news.toArray ++ Builtin.zeroCells z.cells (grownCap w (n + m) old e - (n + m))) e)) := by
    intro old ho
    have hge := grownCap_ge w (n + m) old e
    have hcm : grownCap w (n + m) old e ≤ maxLen := grownCap_le_maxLen w (n + m) old e h63
    refine ⟨⟨hlen, .inr ⟨w.heap.size, _, _, rfl, hbase, heap_alloc_new w.drew _, hge, hcm, ?_, ?_⟩⟩, ⟨rfl, rfl, rfl, by simp, fun k hk => heap_alloc_old w.drew _ hk⟩⟩
    · simp only [Array.size_append, List.size_toArray, size_zeroCells, hzs, hown.1, hl, ← Nat.add_mul]
      congr 1
      omega
    · simp only [Array.toList_append, List.append_assoc]
      rw [← List.append_assoc, ← hlen]
      exact List.take_left
  rcases hown.2 with ⟨rfl, rfl⟩ | ⟨g, cap, cur, rfl, hbg, hg, hnc, hcm, hcs, htake⟩
  · have hx : xs = [] := List.eq_nil_of_length_eq_zero (by simpa using hown.1)
    subst hx
    have hr := run_append_nil (P := P) w t ty e i z ht hi hz a m c news hl hnews (by omega) (by omega) (by have hb := hbytes; simp only [Nat.zero_add] at hb; omega)
    have hgr := grown 0 (by omega)
    simp only [Nat.zero_add, List.nil_append, Array.empty_append] at hgr ⊢
    exact ⟨_, _, hr, hgr.1, .inr ⟨_, rfl, hgr.2⟩⟩
  · by_cases hroom : n + m ≤ cap
    · have hfit : n * i.size + news.length ≤ cur.size := by rw [hl, hcs, ← Nat.add_mul]; exact Nat.mul_le_mul_right _ hroom
      have hr := run_append_room (P := P) w t ty e i ht hi g n cap cur hg a m c news hl hnews h1 hroom hfit
      refine ⟨_, _, hr, ⟨hlen, .inr ⟨g, cap, _, rfl, hbg, setRow_heap w g cur _ e _ hg, hroom, hcm, ?_, ?_⟩⟩, .inl ⟨g, cap, rfl, rfl, ⟨rfl, rfl, rfl, by simp, fun k _ hk => setRow_other w g k _ (fun e => hk (by rw [e]))⟩⟩⟩
      · simp only [List.size_toArray, List.length_append, List.length_take, List.length_drop, Array.length_toList]
        omega
      · rw [htake, ← hlen]
        exact List.take_left
    · have holds : ∀ j u, xs[j]? = some u → w.cell? ((⟨g, 0, none⟩ : Addr).add j) = some u := hown.cells (g := g) rfl
      have hr := run_append_grow (P := P) w t ty e i z ht hi hz ⟨g, 0, none⟩ n cap xs hown.1 holds a m c news hl hnews (by omega) (by omega) (growslice_fits (by omega) hbytes)
      have hgr := grown cap (by omega)
      exact ⟨_, _, hr, hgr.1, .inr ⟨_, rfl, hgr.2⟩⟩
section
variable {P : Program} {ops : Array Oper} {rest : List Oper} {o : Oper} {a : Act} {Q : Exit → Act → World → Prop} {α : Type}
/-- One element appended to a row of one's own, told apart. (The element lies in a block of its own, just made.) -/
theorem wpList_append_two (d : Kd α) (hf : Flat d) {W : World} (hgd : o.guard = none) (s x : Operand) (t e : TypeId) (z : Value) (bytes : Nat)
    (ho : o.op = .call { callee := .builtin .append, args := #[s, x], argTypes := #[t, t] })
    (ht : P.underlying t = some (.slice e)) (hinfo : (P.info? e).map (fun i => (i.zero, i.size, i.bytes)) = some (some z, d.sz, bytes)) (hz : z.cells.size = d.sz) (hs0 : 0 < d.sz) (hb0 : 0 < bytes)
    (v : Value) (xs : List α) (p : α) (cs : List Value) (hs : a.eval s = v) (hx : a.eval x = .slice (some ⟨W.heap.size, 0, none⟩) 1 1) (hp : d.K W p cs)
    (HO : d.R e W 0 (fun _ => True) v xs) (hl : (xs.length + 1) * bytes ≤ 140737488355328)
    (h : ∀ v1 w1, d.R e w1 0 (fun _ => True) v1 (xs ++ [p]) → ((∃ g cap, v = .slice (some ⟨g, 0, none⟩) xs.length cap ∧ v1 = .slice (some ⟨g, 0, none⟩) (xs.length + 1) cap ∧ W.grownBy w1 (some g)) ∨
        (∃ g cap, W.heap.size ≤ g ∧ v1 = .slice (some ⟨g, 0, none⟩) (xs.length + 1) cap ∧ Below W.heap.size W w1)) → wpList P ops Q rest (a.put o.dst v1) w1) :
    wpList P ops Q (o :: rest) a (W.alloc (.cells cs.toArray e)) := by
  obtain ⟨i0, hi, hzz⟩ := Option.map_eq_some_iff.1 hinfo
  simp only [Prod.mk.injEq] at hzz
  obtain ⟨hz0, hz1, hz2⟩ := hzz
  have hlen : xs.length + 1 ≤ 140737488355328 := Nat.le_trans (Nat.le_mul_of_pos_right _ hb0) hl
  obtain ⟨h0, inner, hown, hr⟩ := HO
  have hcl := d.K_len hp
  have hown' := hown.alloc (.cells cs.toArray e)
  obtain ⟨v1, w1, hrun, hown1, hcase⟩ := run_append_two (P := P) (W.alloc (.cells cs.toArray e)) 0 t o.type e i0 z d.sz bytes ht hi hz0 hz1 hz2 hz hs0 v xs.length inner hown' ⟨W.heap.size, 0, none⟩ 1 1 cs (by rw [hcl, Nat.one_mul]) (fun j u hu => by
    rw [add_plain, cell_of_row _ _ _ _ _ _ (heap_alloc_new W _)]
    simpa using hu) (d.K_one hp) (by omega) (by simp only [maxLen]; omega) hl (Nat.zero_le _)
  have hB : Below W.heap.size W (W.alloc (.cells cs.toArray e)) := Below.alloc (Below.refl _ _) (Nat.le_refl _) _
  have hK : ∀ x c, d.M W 0 (fun k => (fun _ => True) k ∧ some k ≠ v.ownBlock) x c → d.M w1 0 (fun k => (fun _ => True) k ∧ some k ≠ v1.ownBlock) x c := fun x c hm => hf W w1 0 _ x c (d.K_of_M hm)
  have hR : d.R e w1 0 (fun _ => True) v1 (xs ++ [p]) := by
    refine ⟨fun _ _ => trivial, inner ++ cs, ?_, ?_⟩
    · rw [List.length_append, List.length_singleton]; exact hown1
    · exact (hr.imp_ hK).snoc (hf W w1 0 _ p cs hp) hcl
  refine wpList_plain hgd fun K hKK => ?_
  have hgo := h v1 w1 hR (by
    rcases hcase with ⟨g, cap, e1, e2, hg⟩ | ⟨cap, e2, hb⟩
    · refine .inl ⟨g, cap, e1, e2, ⟨hg.os, hg.tape, hg.output, Nat.le_trans (by simp) hg.size, fun k hk hne => ?_⟩⟩
      exact (hg.block k (by simp; omega) hne).trans (heap_alloc_old W _ hk)
    · exact .inr ⟨_, cap, by simp, e2, hB.trans (hb.mono (by simp))⟩)
  unfold Oper.wp execOp
  simp only [ho, resolve, invoke, builtin, Sem.run_bind, Sem.run_pure, Result.andThen_ok, List.map_toArray, List.map_cons, List.map_nil, hs, hx, hrun]
  exact hKK _ _ hgo
end
theorem Apart.pair {Γ : List Ob} : (∀ (i j : Nat) (a b : Ob), i ≠ j → Γ[i]? = some a → Γ[j]? = some b → Apart a b) ↔ Γ.Pairwise Apart := by
  rw [List.pairwise_iff_getElem]
  constructor
  · intro h i j hi hj hij
    exact h i j _ _ (by omega) (List.getElem?_eq_getElem hi) (List.getElem?_eq_getElem hj)
  · intro h i j a b hij ha hb
    obtain ⟨hi, rfl⟩ := List.getElem?_eq_some_iff.1 ha
    obtain ⟨hj, rfl⟩ := List.getElem?_eq_some_iff.1 hb
    rcases Nat.lt_or_gt_of_ne hij with hlt | hlt
    · exact h i j hi hj hlt
    · exact (h j i hj hi hlt).symm
/-- The same objects in another order. -/
theorem St.perm {w0 w : World} {Γ Δ : List Ob} (h : St w0 w Γ) (hp : Δ.Perm Γ) : St w0 w Δ := by
  refine ⟨h.bl, fun i o hi => ?_, fun i o hi => ?_, Apart.pair.2 (List.Pairwise.perm (Apart.pair.1 h.sep) hp.symm (fun h => h.symm))⟩
  · obtain ⟨j, hj, he⟩ := List.getElem_of_mem (hp.mem_iff.1 (List.mem_of_getElem? hi))
    exact h.ok j o (by rw [List.getElem?_eq_getElem hj, he])
  · obtain ⟨j, hj, he⟩ := List.getElem_of_mem (hp.mem_iff.1 (List.mem_of_getElem? hi))
    exact h.base j o (by rw [List.getElem?_eq_getElem hj, he])
end Go.Proofs.YtdinkhhaomblcaaDoor.SL
namespace Go.Proofs.YtdinkhhaomblcaaDoor.SL
open Go.RowKit Go.Proofs.YtdinkhhaomblcaaDoorW.PrintWords Go.Proofs.YtdinkhhaomblcaaDoorW.PrintLast Go.Proofs.YtdinkhhaomblcaaDoorW.PrintMore
section
variable {α : Type} {d : Kd α} {e : Nat} {w0 w w1 : World} {Γ : List Ob}
/-- The kept header's list l, and the longer value v, whose list begins with l. -/
structure Twin (d : Kd α) (e : Nat) (w : World) (A : Option Addr) (c : Nat) (l : List α) (v : Value) (l2 : List α) : Prop where
  rd : d.C w A l.length l
  cap : l.length ≤ c
  row : d.R e w 0 (fun _ => True) v l2
  pre : l2.take l.length = l
  one : ∀ a, A = some a → l ≠ [] → a.spot = none ∧ a.off = 0
/-- What an append of one element has done. -/
def Grew (w w1 : World) (v v1 : Value) (n : Nat) : Prop :=
  (∃ g cap, v = .slice (some ⟨g, 0, none⟩) n cap ∧ v1 = .slice (some ⟨g, 0, none⟩) (n + 1) cap ∧ w.grownBy w1 (some g)) ∨
    (∃ g cap, w.heap.size ≤ g ∧ v1 = .slice (some ⟨g, 0, none⟩) (n + 1) cap ∧ Below w.heap.size w w1)
theorem Grew.slice {v v1 : Value} {n : Nat} (h : Grew w w1 v v1 n) : ∃ A c, v1 = .slice (some A) (n + 1) c := by
  rcases h with ⟨g, cap, _, e, _⟩ | ⟨g, cap, _, e, _⟩ <;> exact ⟨_, _, e⟩
/-- Appending to the longer value leaves the kept list as it is. -/
theorem Twin.more (hf : Flat d) (hz : 0 < d.sz) {A : Option Addr} {c : Nat} {l : List α} {v v1 : Value} {l2 : List α} {p : α} (h : Twin d e w A c l v l2) (hR : d.R e w1 0 (fun _ => True) v1 (l2 ++ [p])) (hc : Grew w w1 v v1 l2.length) : Twin d e w1 A c l v1 (l2 ++ [p]) := by
  have hle : l.length ≤ l2.length := by rw [← h.pre, List.length_take]; omega
  have hpre : (l2 ++ [p]).take l.length = l := by rw [List.take_append_of_le_length hle]; exact h.pre
  refine ⟨?_, h.cap, hR, hpre, h.one⟩
  rcases hc with ⟨g, cap, e1, e2, hg⟩ | ⟨g, cap, hgs, e2, hb⟩
  · by_cases hl : l = []
    · subst hl
      exact ⟨rfl, by simp, fun hn => by simp at hn⟩
    · obtain ⟨ad, hA, _⟩ := h.rd.2.2 (List.length_pos_iff.2 hl)
      by_cases hgb : ad.block = g
      · obtain ⟨o1, o2⟩ := h.one ad hA hl
        have had : ad = ⟨g, 0, none⟩ := by
          cases ad
          simp only at o1 o2 hgb
          rw [o1, o2, hgb]
        subst e2
        have hC := (Kd.R_reads' hR).2.2
        have hT := Kd.C_take (m := l.length) hC (by rw [List.length_append]; omega)
        rw [hpre] at hT
        rw [hA, had]
        exact hT
      · exact C_same' hf h.rd (fun b hb => by
          have hb' : b ∈ blkOf A l := hb
          have hlt := C_lt' (d := d) hz h.rd b hb'
          unfold blkOf at hb'
          rw [if_neg hl, hA] at hb'
          obtain rfl : b = ad.block := by simpa using hb'
          exact hg.block _ hlt (fun e => hgb (Option.some.inj e)))
  · exact Kd.C_below h.rd hb
/-- The two as one object. -/
def obTw (d : Kd α) (e : Nat) (hf : Flat d) (hz : 0 < d.sz) (A : Option Addr) (c : Nat) (l : List α) (v : Value) (l2 : List α) : Ob where
  own := blkOf A l ++ v.ownBlock.toList
  all := blkOf A l ++ v.ownBlock.toList
  holds w := Twin d e w A c l v l2
  sub := fun _ h => h
  lt := fun w h b hb => by
    rcases List.mem_append.1 hb with hb | hb
    · exact C_lt' hz h.rd b hb
    · exact (obW d e hf v l2).lt w h.row b hb
  stab := fun w w' h hs => ⟨C_same' hf h.rd (fun b hb => hs b (List.mem_append.2 (.inl hb))), h.cap, (obW d e hf v l2).stab w w' h.row (fun b hb => hs b (List.mem_append.2 (.inr hb))), h.pre, h.one⟩
/-- A list of one's own is a twin of itself. -/
theorem Twin.of {A : Option Addr} {c : Nat} {l : List α} {n : Nat} (h : d.R e w 0 (fun _ => True) (.slice A n c) l) : Twin d e w A c l (.slice A n c) l := by
  obtain ⟨hn, hc, hC⟩ := Kd.R_reads' h
  refine ⟨hC, by omega, h, List.take_length, fun a hA hl => ?_⟩
  obtain ⟨inner, ho⟩ := Kd.R_own h
  obtain ⟨g, cap, hv, _, _⟩ := ho.form (List.length_pos_iff.2 hl)
  injection hv with h1 h2 h3
  rw [hA] at h1
  obtain rfl := Option.some.inj h1
  exact ⟨rfl, rfl⟩
/-- Known otherwise: the same memory. -/
theorem St.conv (h : St w0 w Γ) (i : Nat) {a : Ob} (hi : Γ[i]? = some a) (a' : Ob) (hh : a'.holds w) (ho : ∀ b ∈ a'.own, b ∈ a.own) (ha : ∀ b ∈ a'.all, b ∈ a.all) : St w0 w (Γ.set i a') := by
  have := h.upd i hi (.refl _ _) a' [] (fun o ho' => by obtain rfl := List.mem_singleton.1 ho'; exact hh) (fun o ho' b hb => by obtain rfl := List.mem_singleton.1 ho'; exact .inl (ho b hb))
    (fun o ho' b hb => by obtain rfl := List.mem_singleton.1 ho'; exact .inl (ha b hb)) (List.pairwise_singleton _ _)
  rwa [List.append_nil] at this
/-- A row of one's own becomes a pair of twins. -/
theorem St.toTw (h : St w0 w Γ) (hf : Flat d) (hz : 0 < d.sz) (i : Nat) {A : Option Addr} {n c : Nat} {l : List α} (hi : Γ[i]? = some (obW d e hf (.slice A n c) l)) : St w0 w (Γ.set i (obTw d e hf hz A c l (.slice A n c) l)) := by
  have hr : d.R e w 0 (fun _ => True) (.slice A n c) l := h.get i hi
  have key : ∀ b ∈ blkOf A l ++ (Value.slice A n c).ownBlock.toList, b ∈ (Value.slice A n c).ownBlock.toList := fun b hb => by
    rcases List.mem_append.1 hb with hb | hb
    · unfold blkOf at hb
      split at hb
      · cases hb
      · rename_i hl
        obtain ⟨inner, ho⟩ := Kd.R_own hr
        obtain ⟨g, cap, hv, _, _⟩ := ho.form (List.length_pos_iff.2 hl)
        injection hv with h1 h2 h3
        rw [h1] at hb ⊢
        simpa [Value.ownBlock] using hb
    · exact hb
  exact h.conv i hi _ (Twin.of hr) key key
theorem Touch.grew {S : List Nat} {v v1 : Value} {n : Nat} (h : Grew w w1 v v1 n) (hs : ∀ b ∈ v.ownBlock.toList, b ∈ S) : Touch S w w1 := by
  rcases h with ⟨g, cap, rfl, _, hg⟩ | ⟨_, _, _, _, hb⟩
  · exact Touch.grown (Touch.refl _ w) hg (fun k hk => .inl (hs k (by injection hk with hk; subst hk; simp [Value.ownBlock])))
  · exact .of_below hb
theorem Grew.own {v v1 : Value} {n : Nat} (h : Grew w w1 v v1 n) : ∀ b ∈ v1.ownBlock.toList, b ∈ v.ownBlock.toList ∨ w.heap.size ≤ b := by
  intro b hb
  rcases h with ⟨g, cap, rfl, rfl, _⟩ | ⟨g, cap, hgs, rfl, _⟩
  · exact .inl hb
  · obtain rfl : b = g := by simpa [Value.ownBlock] using hb
    exact .inr hgs
theorem St.twin (h : St w0 w Γ) {hf : Flat d} {hz : 0 < d.sz} (i : Nat) {A : Option Addr} {c : Nat} {l : List α} {v v1 : Value} {l2 : List α} {p : α} (hi : Γ[i]? = some (obTw d e hf hz A c l v l2)) (hR : d.R e w1 0 (fun _ => True) v1 (l2 ++ [p])) (hc : Grew w w1 v v1 l2.length) :
    St w0 w1 (Γ.set i (obTw d e hf hz A c l v1 (l2 ++ [p]))) := by
  have ht : Twin d e w A c l v l2 := h.get i hi
  have hT : SL.Touch (obTw d e hf hz A c l v l2).own w w1 := Touch.grew hc (fun b hb => List.mem_append.2 (.inr hb))
  have key : ∀ o ∈ [obTw d e hf hz A c l v1 (l2 ++ [p])], ∀ b ∈ o.all, b ∈ (obTw d e hf hz A c l v l2).own ∨ w.heap.size ≤ b := fun o ho b hb => by
    obtain rfl := List.mem_singleton.1 ho
    rcases List.mem_append.1 hb with hb | hb
    · exact .inl (List.mem_append.2 (.inl hb))
    · rcases hc.own b hb with hb | hb
      · exact .inl (List.mem_append.2 (.inr hb))
      · exact .inr hb
  have := h.upd i hi hT (obTw d e hf hz A c l v1 (l2 ++ [p])) [] (fun o ho => by obtain rfl := List.mem_singleton.1 ho; exact ht.more hf hz hR hc) (fun o ho b hb => key o ho b (o.sub b hb)) key (List.pairwise_singleton _ _)
  rwa [List.append_nil] at this
/-- One element appended to a row of one's own. -/
theorem St.grewW (h : St w0 w Γ) {hf : Flat d} (i : Nat) {v v1 : Value} {xs : List α} {p : α} (hi : Γ[i]? = some (obW d e hf v xs)) (hR : d.R e w1 0 (fun _ => True) v1 (xs ++ [p])) (hc : Grew w w1 v v1 xs.length) : St w0 w1 (Γ.set i (obW d e hf v1 (xs ++ [p]))) := by
  have hT : SL.Touch (obW d e hf v xs).own w w1 := Touch.grew hc (fun b hb => hb)
  have key : ∀ o ∈ [obW d e hf v1 (xs ++ [p])], ∀ b ∈ o.all, b ∈ (obW d e hf v xs).own ∨ w.heap.size ≤ b := fun o ho b hb => by
    obtain rfl := List.mem_singleton.1 ho
    exact hc.own b hb
  have := h.upd i hi hT (obW d e hf v1 (xs ++ [p])) [] (fun o ho => by obtain rfl := List.mem_singleton.1 ho; exact hR) (fun o ho b hb => key o ho b (o.sub b hb)) key (List.pairwise_singleton _ _)
  rwa [List.append_nil] at this
/-- An element of a row of one's own has been written. -/
theorem St.storeW (h : St w0 w Γ) {hf : Flat d} (i : Nat) {g n cap : Nat} {xs ys : List α} (hi : Γ[i]? = some (obW d e hf (.slice (some ⟨g, 0, none⟩) n cap) xs)) (hR : d.R e w1 0 (fun _ => True) (.slice (some ⟨g, 0, none⟩) n cap) ys) (hg : w.grownBy w1 (some g)) : St w0 w1 (Γ.set i (obW d e hf (.slice (some ⟨g, 0, none⟩) n cap) ys)) :=
  h.growW i hi hR (by simpa [Value.ownBlock] using hg) (.inl rfl)
/-- The cells of an element of a row of one's own. -/
theorem St.formW (h : St w0 w Γ) {hf : Flat d} (i : Nat) {v : Value} {xs : List α} (hi : Γ[i]? = some (obW d e hf v xs)) (hn : 0 < xs.length) : ∃ g cap, v = .slice (some ⟨g, 0, none⟩) xs.length cap ∧ xs.length ≤ cap := by
  obtain ⟨A, c, hv, hc, _⟩ := Kd.R_reads (h.get i hi)
  obtain ⟨inner, ho⟩ := Kd.R_own (h.get i hi)
  obtain ⟨g, cap, hv2, _, _⟩ := ho.form hn
  rw [hv2] at hv
  injection hv with _ _ h3
  exact ⟨g, cap, hv2, by omega⟩
/-- Those in front. -/
theorem St.front {Δ : List Ob} (h : St w0 w (Γ ++ Δ)) : St w0 w Γ := by
  have key : ∀ (i : Nat) (o : Ob), Γ[i]? = some o → (Γ ++ Δ)[i]? = some o := fun i o hi => by
    have := (List.getElem?_eq_some_iff.1 hi).1
    rw [List.getElem?_append_left this]; exact hi
  exact ⟨h.bl, fun i o hi => h.ok i o (key i o hi), fun i o hi => h.base i o (key i o hi), fun i j a b hij hi hj => h.sep i j a b hij (key i a hi) (key j b hj)⟩
/-- Objects of a family. -/
def fam (n : Nat) (f : Nat → Ob) : List Ob := (List.range n).map f
theorem fam_get {n i : Nat} (f : Nat → Ob) (h : i < n) : (fam n f)[i]? = some (f i) := by
  unfold fam
  rw [List.getElem?_map, List.getElem?_range h]
  rfl
theorem fam_len (n : Nat) (f : Nat → Ob) : (fam n f).length = n := by unfold fam; rw [List.length_map, List.length_range]
theorem fam_congr {n : Nat} {f g : Nat → Ob} (h : ∀ j, j < n → f j = g j) : fam n f = fam n g := by
  unfold fam
  exact List.map_congr_left (fun j hj => h j (List.mem_range.1 hj))
theorem fam_snoc (n : Nat) (f : Nat → Ob) : fam (n + 1) f = fam n f ++ [f n] := by
  unfold fam
  rw [List.range_succ, List.map_append]
  rfl
theorem fam_set {n i : Nat} {f g : Nat → Ob} {x : Ob} (h : ∀ j, j < n → g j = if j = i then x else f j) : (fam n f).set i x = fam n g := by
  apply List.ext_getElem?
  intro j
  rcases Nat.lt_or_ge j n with hj | hj
  · rw [fam_get g hj, h j hj, List.getElem?_set]
    by_cases c : i = j
    · subst c
      rw [if_pos rfl, if_pos rfl, if_pos (by rw [fam_len]; exact hj)]
    · rw [if_neg c, if_neg (fun e => c e.symm), fam_get f hj]
  · rw [List.getElem?_eq_none (by rw [List.length_set, fam_len]; exact hj), List.getElem?_eq_none (by rw [fam_len]; exact hj)]
theorem app_get (F : List Ob) {n i : Nat} (f : Nat → Ob) (h : i < n) : (F ++ fam n f)[F.length + i]? = some (f i) := by
  rw [List.getElem?_append_right (by omega), show F.length + i - F.length = i by omega]
  exact fam_get f h
theorem St.famSet {F : List Ob} {n i : Nat} {f g : Nat → Ob} {x : Ob} (h : St w0 w ((F ++ fam n f).set (F.length + i) x)) (hg : ∀ j, j < n → g j = if j = i then x else f j) : St w0 w (F ++ fam n g) := by
  rw [List.set_append_right _ _ (by omega), show F.length + i - F.length = i by omega, fam_set hg] at h
  exact h
theorem St.famEq {F : List Ob} {n : Nat} {f g : Nat → Ob} (h : St w0 w (F ++ fam n f)) (hg : ∀ j, j < n → f j = g j) : St w0 w (F ++ fam n g) := by
  rw [← fam_congr hg]; exact h
end
/-- Headers of lists, as elements of a list. -/
def kSl : Kd (Option Addr × Nat × Nat) := Kd.scalar (fun s => .slice s.1 s.2.1 s.2.2) (fun _ => rfl)
theorem flatSl : Flat kSl := fun _ _ _ _ _ _ h => h
theorem flatI (k : IntKind) : Flat (Kd.int k) := fun _ _ _ _ _ _ h => h
/-- A list written full, step by step. -/
def filled {α : Type} (m : α) (k : Nat) (l : List α) : List α := List.replicate k m ++ l.drop k
theorem filled_len {α : Type} (m : α) {k : Nat} {l : List α} (h : k ≤ l.length) : (filled m k l).length = l.length := by
  unfold filled; rw [List.length_append, List.length_replicate, List.length_drop]; omega
theorem filled_step {α : Type} (m : α) {k : Nat} {l : List α} (h : k < l.length) : (filled m k l).set k m = filled m (k + 1) l := by
  unfold filled
  rw [List.set_append_right _ _ (by rw [List.length_replicate]; omega), List.length_replicate, Nat.sub_self, List.drop_eq_getElem_cons h, List.set_cons_zero, List.replicate_succ', List.append_assoc]
  rfl
theorem filled_all {α : Type} (m : α) (l : List α) : filled m l.length l = List.replicate l.length m := by
  unfold filled; rw [List.drop_length, List.append_nil]
theorem filled_zero {α : Type} (m : α) (l : List α) : filled m 0 l = l := rfl
theorem rep_snoc {α : Type} (m : α) (k : Nat) : List.replicate k m ++ [m] = List.replicate (k + 1) m := (List.replicate_succ').symm
end Go.Proofs.YtdinkhhaomblcaaDoor.SL
namespace Go.Proofs.YtdinkhhaomblcaaDoor.SL
open Go.RowKit Go.Proofs.YtdinkhhaomblcaaDoorW.PrintWords Go.Proofs.YtdinkhhaomblcaaDoorW.PrintLast Go.Proofs.YtdinkhhaomblcaaDoorW.PrintMore
section
variable {P : Program} {ops : Array Oper} {rest : List Oper} {o : Oper} {a : Act} {Q : Exit → Act → World → Prop} {α : Type} {w0 W : World} {Γ : List Ob} {e : Nat}
theorem blw0 (w : World) : Below 0 w w := ⟨rfl, rfl, rfl, Nat.le_refl _, fun _ h => absurd h (Nat.not_lt_zero _)⟩
/-- l[k] = x: a whole element of a list of one's own is written. -/
theorem wpList_store_St (d : Kd α) {hf : Flat d} (h : St w0 W Γ) (i : Nat) {g n cap : Nat} {xs : List α} (hi : Γ[i]? = some (obW d e hf (.slice (some ⟨g, 0, none⟩) n cap) xs)) (hN : o.dst = none) (hgd : o.guard = none) (t : TypeId) (p x : Operand) (ho : o.op = .store t p x)
    (k : Int) (h0 : 0 ≤ k) (hk : k < n) (x' : α) (u : Value) (seg : List Value) (haddr : a.eval p = .pointer (some ⟨g, k.toNat * d.sz, none⟩)) (hx : a.eval x = u) (hu : u.cells.toList = seg) (ht : (P.info? t).map (·.size) = some seg.length) (hseg : seg.length = d.sz) (hK : d.K W x' seg)
    (hgo : ∀ w1, Hid (St w0 w1 (Γ.set i (obW d e hf (.slice (some ⟨g, 0, none⟩) n cap) (xs.set k.toNat x')))) → wpList P ops Q rest a w1) : wpList P ops Q (o :: rest) a W := by
  have hR : d.R e W 0 (fun _ => True) (.slice (some ⟨g, 0, none⟩) n cap) xs := h.get i hi
  have hn := (Kd.R_reads' hR).1
  obtain ⟨z, hz⟩ : ∃ z, xs[k.toNat]? = some z := ⟨xs[k.toNat]'(by omega), List.getElem?_eq_getElem (by omega)⟩
  obtain ⟨c, hcl, hM, hcc, _⟩ := Kd.R_elem hR z k h0 hk
  have hcs : c.take 0 ++ seg ++ c.drop (0 + seg.length) = seg := by
    rw [List.take_zero, List.nil_append, List.drop_eq_nil_of_le (by omega), List.append_nil]
  refine Kd.R_store d 0 hN hgd t p x ho e k 0 xs x' u seg c (fun _ => True) (fun _ => False) (w0 := W) haddr rfl hx hu ht (d.K_one hK) hR h0 hk hcl (fun j u hu => by have := hcc j u hu; exact this) (by omega) (by rw [hcs]; exact hf W W 0 _ x' seg hK) (fun _ h => h.elim) (blw0 W) ?_
  intro w1 hR1 _ hg
  exact hgo w1 (h.storeW i hi hR1 hg)
/-- append(l, x), one element, to a list of one's own. -/
theorem wpList_append_St (d : Kd α) {hf : Flat d} (h : St w0 W Γ) (i : Nat) {v : Value} {xs : List α} (hi : Γ[i]? = some (obW d e hf v xs)) (hgd : o.guard = none) (s x : Operand) (t : TypeId) (z : Value) (bytes : Nat)
    (ho : o.op = .call { callee := .builtin .append, args := #[s, x], argTypes := #[t, t] })
    (ht : P.underlying t = some (.slice e)) (hinfo : (P.info? e).map (fun i => (i.zero, i.size, i.bytes)) = some (some z, d.sz, bytes)) (hz : z.cells.size = d.sz) (hs0 : 0 < d.sz) (hb0 : 0 < bytes)
    (p : α) (cs : List Value) (hs : a.eval s = v) (hx : a.eval x = .slice (some ⟨W.heap.size, 0, none⟩) 1 1) (hp : d.K W p cs) (hl : (xs.length + 1) * bytes ≤ 140737488355328)
    (hgo : ∀ v1 w1, Hid (Grew W w1 v v1 xs.length) → Hid (St w0 w1 (Γ.set i (obW d e hf v1 (xs ++ [p])))) → wpList P ops Q rest (a.put o.dst v1) w1) :
    wpList P ops Q (o :: rest) a (W.alloc (.cells cs.toArray e)) :=
  wpList_append_two d hf hgd s x t e z bytes ho ht hinfo hz hs0 hb0 v xs p cs hs hx hp (h.get i hi) hl fun v1 w1 hR hc => hgo v1 w1 hc (h.grewW i hi hR hc)
/-- append(x, y), x the longer of two twins. -/
theorem wpList_append_Tw (d : Kd α) {hf : Flat d} {hsz : 0 < d.sz} (h : St w0 W Γ) (i : Nat) {A : Option Addr} {c : Nat} {l : List α} {v : Value} {xs : List α} (hi : Γ[i]? = some (obTw d e hf hsz A c l v xs)) (hgd : o.guard = none) (s x : Operand) (t : TypeId) (z : Value) (bytes : Nat)
    (ho : o.op = .call { callee := .builtin .append, args := #[s, x], argTypes := #[t, t] })
    (ht : P.underlying t = some (.slice e)) (hinfo : (P.info? e).map (fun i => (i.zero, i.size, i.bytes)) = some (some z, d.sz, bytes)) (hz : z.cells.size = d.sz) (hb0 : 0 < bytes)
    (p : α) (cs : List Value) (hs : a.eval s = v) (hx : a.eval x = .slice (some ⟨W.heap.size, 0, none⟩) 1 1) (hp : d.K W p cs) (hl : (xs.length + 1) * bytes ≤ 140737488355328)
    (hgo : ∀ v1 w1, Hid (Grew W w1 v v1 xs.length) → Hid (St w0 w1 (Γ.set i (obTw d e hf hsz A c l v1 (xs ++ [p])))) → wpList P ops Q rest (a.put o.dst v1) w1) :
    wpList P ops Q (o :: rest) a (W.alloc (.cells cs.toArray e)) :=
  wpList_append_two d hf hgd s x t e z bytes ho ht hinfo hz hsz hb0 v xs p cs hs hx hp (show Twin d e W A c l v xs from h.get i hi).row hl fun v1 w1 hR hc => hgo v1 w1 hc (h.twin i hi hR hc)
/-- append(l, ys...) to a list of one's own. -/
theorem wpList_append_rows_St (d : Kd α) {hf : Flat d} (h : St w0 W Γ) (i : Nat) {v : Value} {xs : List α} (hi : Γ[i]? = some (obW d e hf v xs)) (hgd : o.guard = none) (s x : Operand) (t : TypeId) (z : Value) (bytes : Nat)
    (ho : o.op = .call { callee := .builtin .append, args := #[s, x], argTypes := #[t, t] })
    (ht : P.underlying t = some (.slice e)) (hinfo : (P.info? e).map (fun i => (i.zero, i.size, i.bytes)) = some (some z, d.sz, bytes)) (hz : z.cells.size = d.sz) (hs0 : 0 < d.sz) (hb0 : 0 < bytes)
    (ys : List α) (A : Option Addr) (m c : Nat) (hs : a.eval s = v) (hx : a.eval x = .slice A m c) (HR : d.C W A m ys) (hl : (xs.length + m) * bytes ≤ 140737488355328)
    (hgo : ∀ v1 w1, Hid (∃ B c, v1 = .slice B (xs ++ ys).length c) → Hid (St w0 w1 (Γ.set i (obW d e hf v1 (xs ++ ys)))) → wpList P ops Q rest (a.put o.dst v1) w1) :
    wpList P ops Q (o :: rest) a W :=
  Kd.R_append_rows d (Rr := d.K W) 0 (w0 := W) hgd s x t e z bytes ho ht hinfo hz hs0 hb0 v xs ys A m c (fun _ => True) (fun _ => False) hs hx (h.get i hi) HR (fun x cs hk => hf W W 0 _ x cs hk) (fun _ h => h.elim) (fun _ _ => trivial) (blw0 W) (Nat.zero_le _) hl
    fun v1 w1 hR _ hg hat => hgo v1 w1 (Kd.R_slice hR) (h.growW i hi hR hg hat)
/-- append(T(nil), ys...): a copy. -/
theorem wpList_append_new_St (d : Kd α) (hf : Flat d) (h : St w0 W Γ) (hgd : o.guard = none) (s x : Operand) (t : TypeId) (z : Value) (bytes : Nat)
    (ho : o.op = .call { callee := .builtin .append, args := #[s, x], argTypes := #[t, t] })
    (ht : P.underlying t = some (.slice e)) (hinfo : (P.info? e).map (fun i => (i.zero, i.size, i.bytes)) = some (some z, d.sz, bytes)) (hz : z.cells.size = d.sz) (hs0 : 0 < d.sz) (hb0 : 0 < bytes)
    (ys : List α) (A : Option Addr) (m c : Nat) (hs : a.eval s = .slice none 0 0) (hx : a.eval x = .slice A m c) (HR : d.C W A m ys) (hl : m * bytes ≤ 140737488355328)
    (hgo : ∀ v1 w1, Hid (∃ B c, v1 = .slice B ys.length c) → Hid (St w0 w1 (Γ ++ [obW d e hf v1 ys])) → wpList P ops Q rest (a.put o.dst v1) w1) :
    wpList P ops Q (o :: rest) a W :=
  Kd.R_append_rows d (Rr := d.K W) W.heap.size (w0 := W) hgd s x t e z bytes ho ht hinfo hz hs0 hb0 (.slice none 0 0) [] ys A m c (fun _ => True) (fun _ => False) hs hx (Kd.R_nil _ _ _ _ _) HR (fun x cs hk => hf W W _ _ x cs hk) (fun _ h => h.elim) (fun _ _ => trivial) (Below.refl _ _) (Nat.le_refl _) (by simpa using hl)
    fun v1 w1 hR hb _ _ => hgo v1 w1 (Kd.R_slice (by simpa using hR)) (h.addW hf hb (by simpa using hR))
end
end Go.Proofs.YtdinkhhaomblcaaDoor.SL
namespace Go.Proofs.YtdinkhhaomblcaaDoor.SL
open Go.RowKit Go.Proofs.YtdinkhhaomblcaaDoorW.PrintWords Go.Proofs.YtdinkhhaomblcaaDoorW.PrintLast Go.Proofs.YtdinkhhaomblcaaDoorW.PrintMore
abbrev Hdr := Option Addr × Nat × Nat
abbrev hv (s : Hdr) : Value := .slice s.1 s.2.1 s.2.2
def hd (hs : List Hdr) (i : Nat) : Hdr := hs.getD i (none, 0, 0)
theorem hd_set (hs : List Hdr) (k j : Nat) (s : Hdr) (h : k < hs.length) : hd (hs.set k s) j = if j = k then s else hd hs j := by
  unfold hd
  rw [List.getD_eq_getElem?_getD, List.getD_eq_getElem?_getD, List.getElem?_set]
  by_cases c : k = j
  · subst c
    rw [if_pos rfl, if_pos rfl, if_pos h]
    rfl
  · rw [if_neg c, if_neg (fun e => c e.symm)]
theorem hd_snoc (vs : List Hdr) (v : Hdr) : hd (vs ++ [v]) vs.length = v := by
  unfold hd
  simp [List.getD_eq_getElem?_getD]
theorem hd_old (vs : List Hdr) (v : Hdr) (j : Nat) (h : j < vs.length) : hd (vs ++ [v]) j = hd vs j := by
  unfold hd
  simp [List.getD_eq_getElem?_getD, List.getElem?_append_left h]
section
variable {α : Type}
def mixL (l' l : List α) (m : Nat) : List α := l'.take m ++ l.drop m
theorem mixL_len {l' l : List α} (h : l'.length = l.length) (m : Nat) : (mixL l' l m).length = l.length := by
  unfold mixL
  rw [List.length_append, List.length_take, List.length_drop]
  omega
theorem mixL_step {l' l : List α} (h : l'.length = l.length) {m : Nat} (hm : m < l.length) {x : α} (hx : l'[m]? = some x) : (mixL l' l m).set m x = mixL l' l (m + 1) := by
  unfold mixL
  have e : (l'.take m).length = m := by rw [List.length_take]; omega
  have hx' : l'[m]'(by omega) = x := (List.getElem?_eq_some_iff.1 hx).2
  rw [List.set_append_right _ _ (by omega), e, Nat.sub_self, List.drop_eq_getElem_cons hm, List.set_cons_zero, List.take_succ_eq_append_getElem (by omega), List.append_assoc, hx']
  rfl
theorem mixL_all {l' l : List α} (h : l'.length = l.length) : mixL l' l l.length = l' := by
  unfold mixL
  rw [List.drop_length, List.append_nil, List.take_of_length_le (by omega)]
theorem mixL_zero (l' l : List α) : mixL l' l 0 = l := rfl
variable (d : Kd α) (e : Nat) (hf : Flat d) (hz : 0 < d.sz)
abbrev famL (hs : List Hdr) (c : Nat → List α) (j : Nat) : Ob := obW d e hf (hv (hd hs j)) (c j)
/-- The lists ahead of k are written. -/
def stC (c fc : Nat → List α) (k j : Nat) : List α := if j < k then fc j else c j
/-- While list k is written. -/
def flC (c fc : Nat → List α) (k m j : Nat) : List α := if j = k then mixL (fc k) (c k) m else stC c fc k j
theorem stC_zero (c fc : Nat → List α) (j : Nat) : stC c fc 0 j = c j := if_neg (by omega)
theorem flC_zero (c fc : Nat → List α) (k j : Nat) : stC c fc k j = flC c fc k 0 j := by
  unfold flC
  by_cases h : j = k
  · subst h
    rw [if_pos rfl, stC, if_neg (by omega)]
    rfl
  · rw [if_neg h]
theorem flC_at (c fc : Nat → List α) (k m : Nat) : flC c fc k m k = mixL (fc k) (c k) m := if_pos rfl
theorem flC_step (c fc : Nat → List α) (k m m' j : Nat) : flC c fc k m' j = if j = k then mixL (fc k) (c k) m' else flC c fc k m j := by
  unfold flC
  by_cases h : j = k
  · rw [if_pos h, if_pos h]
  · rw [if_neg h, if_neg h, if_neg h]
theorem flC_end (c fc : Nat → List α) (k j : Nat) (h : (fc k).length = (c k).length) : flC c fc k (c k).length j = stC c fc (k + 1) j := by
  unfold flC
  by_cases h2 : j = k
  · subst h2
    rw [if_pos rfl, stC, if_pos (by omega), mixL_all h]
  · rw [if_neg h2]
    unfold stC
    by_cases h3 : j < k
    · rw [if_pos h3, if_pos (by omega)]
    · rw [if_neg h3, if_neg (by omega)]
abbrev obP (s : Hdr) (l : List α) (v : Value) (l2 : List α) : Ob := obTw d e hf hz s.1 s.2.2 l v l2
/-- The longer copies ahead of k are there. -/
def twG (hs vs : List Hdr) (fc : Nat → List α) (mk : Nat → α) (E k j : Nat) : Ob :=
  if j < k then obP d e hf hz (hd hs j) (fc j) (hv (hd vs j)) (fc j ++ List.replicate E (mk j)) else obW d e hf (hv (hd hs j)) (fc j)
/-- While copy k is lengthened. -/
def twKG (hs vs : List Hdr) (fc : Nat → List α) (mk : Nat → α) (E k : Nat) (v : Hdr) (m j : Nat) : Ob :=
  if j = k then obP d e hf hz (hd hs j) (fc j) (hv v) (fc j ++ List.replicate m (mk j)) else twG d e hf hz hs vs fc mk E k j
variable {hs vs : List Hdr} {fc : Nat → List α} {mk : Nat → α} {E k : Nat}
theorem twG_zero (c : Nat → List α) (n j : Nat) (h : j < n) : famL d e hf hs (stC c fc n) j = twG d e hf hz hs vs fc mk E 0 j := by
  unfold twG
  rw [if_neg (by omega)]
  show obW _ _ _ _ _ = obW _ _ _ _ _
  rw [stC, if_pos h]
theorem twG_at : twG d e hf hz hs vs fc mk E k k = obW d e hf (hv (hd hs k)) (fc k) := if_neg (by omega)
theorem twG_old (j : Nat) (h : j < k) : twG d e hf hz hs vs fc mk E k j = obP d e hf hz (hd hs j) (fc j) (hv (hd vs j)) (fc j ++ List.replicate E (mk j)) := if_pos h
theorem twKG_start (j : Nat) : twKG d e hf hz hs vs fc mk E k (hd hs k) 0 j = if j = k then obP d e hf hz (hd hs k) (fc k) (hv (hd hs k)) (fc k) else twG d e hf hz hs vs fc mk E k j := by
  unfold twKG
  by_cases h : j = k
  · subst h
    rw [if_pos rfl, if_pos rfl, List.replicate_zero, List.append_nil]
  · rw [if_neg h, if_neg h]
theorem twKG_at (v : Hdr) (m : Nat) : twKG d e hf hz hs vs fc mk E k v m k = obP d e hf hz (hd hs k) (fc k) (hv v) (fc k ++ List.replicate m (mk k)) := if_pos rfl
theorem twKG_step (v v' : Hdr) (m j : Nat) : twKG d e hf hz hs vs fc mk E k v' (m + 1) j = if j = k then obP d e hf hz (hd hs k) (fc k) (hv v') ((fc k ++ List.replicate m (mk k)) ++ [mk k]) else twKG d e hf hz hs vs fc mk E k v m j := by
  unfold twKG
  by_cases h : j = k
  · subst h
    rw [if_pos rfl, if_pos rfl, List.append_assoc, rep_snoc]
  · rw [if_neg h, if_neg h, if_neg h]
theorem twKG_end {ws : List Hdr} (v : Hdr) (hk : hd ws k = v) (ho : ∀ j, j < k → hd ws j = hd vs j) (j : Nat) : twKG d e hf hz hs vs fc mk E k v E j = twG d e hf hz hs ws fc mk E (k + 1) j := by
  unfold twKG
  by_cases h : j = k
  · subst h
    rw [if_pos rfl, twG_old _ _ _ _ _ (by omega), hk]
  · rw [if_neg h]
    unfold twG
    by_cases h2 : j < k
    · rw [if_pos h2, if_pos (by omega), ho j h2]
    · rw [if_neg h2, if_neg (by omega)]
end
section
variable {w0 w : World} {Γ : List Ob}
theorem fam_at (F : List Ob) {n i : Nat} (f : Nat → Ob) (D : List Ob) (h : i < n) : (F ++ (fam n f ++ D))[F.length + i]? = some (f i) := by
  rw [← List.append_assoc, List.getElem?_append_left (by rw [List.length_append, fam_len]; omega)]
  exact app_get F f h
theorem St.famPut {F D : List Ob} {n i : Nat} {f g : Nat → Ob} {x : Ob} (h : St w0 w ((F ++ (fam n f ++ D)).set (F.length + i) x)) (hi : i < n) (hg : ∀ j, j < n → g j = if j = i then x else f j) : St w0 w (F ++ (fam n g ++ D)) := by
  rw [List.set_append_right _ _ (by omega), show F.length + i - F.length = i by omega, List.set_append_left _ _ (by rw [fam_len]; exact hi), fam_set hg] at h
  exact h
theorem St.famEq2 {F D : List Ob} {n : Nat} {f g : Nat → Ob} (h : St w0 w (F ++ (fam n f ++ D))) (hg : ∀ j, j < n → f j = g j) : St w0 w (F ++ (fam n g ++ D)) := by
  rw [← fam_congr hg]; exact h
/-- A block of headers. -/
abbrev obA (b : Nat) (ks : List Hdr) (T : TypeId) : Ob := obB b (ks.map hv).toArray T
theorem St.setB (h : St w0 w Γ) (i : Nat) {b : Nat} {cs : Array Value} {T : TypeId} (hi : Γ[i]? = some (obB b cs T)) (j : Nat) (u : Value) : St w0 (w.setCell ⟨b, j, none⟩ u) (Γ.set i (obB b (cs.setIfInBounds j u) T)) := by
  have hb : w.heap[b]? = some (.cells cs T (0, 0)) := h.get i hi
  have := h.upd i hi ((Touch.refl [b] w).setCell (p := ⟨b, j, none⟩) (.inl List.mem_cons_self) u) (obB b (cs.setIfInBounds j u) T) [] (fun o ho => by obtain rfl := List.mem_singleton.1 ho; exact blk_set hb j u)
    (fun o ho b' hb' => by obtain rfl := List.mem_singleton.1 ho; exact .inl hb') (fun o ho b' hb' => by obtain rfl := List.mem_singleton.1 ho; exact .inl hb') (List.pairwise_singleton _ _)
  rwa [List.append_nil] at this
theorem St.setA (h : St w0 w Γ) (i : Nat) {b : Nat} {ks : List Hdr} {T : TypeId} (hi : Γ[i]? = some (obA b ks T)) (j : Nat) (s : Hdr) : St w0 (w.setCell ⟨b, j, none⟩ (hv s)) (Γ.set i (obA b (ks.set j s) T)) := by
  have := h.setB i hi j (hv s)
  have e : (ks.map hv).toArray.setIfInBounds j (hv s) = ((ks.set j s).map hv).toArray := by
    simp [List.map_set]
  rwa [e] at this
theorem St.cellA (h : St w0 w Γ) (i : Nat) {b : Nat} {ks : List Hdr} {T : TypeId} (hi : Γ[i]? = some (obA b ks T)) (j : Nat) (hj : j < ks.length) : w.cell? ⟨b, j, none⟩ = some (hv (hd ks j)) ∧ w.frozen? ⟨b, j, none⟩ = false := by
  have hb : w.heap[b]? = some (.cells (ks.map hv).toArray T (0, 0)) := h.get i hi
  refine ⟨?_, blk_frozen hb j⟩
  rw [blk_cell hb j]
  simp [hd, List.getD_eq_getElem?_getD, hj]
end
end Go.Proofs.YtdinkhhaomblcaaDoor.SL
