/- The statements' operations as a list that is read; what a script's step leaves. No condition. -/
import Derived.Test.YtgcafklieblldaaBC
namespace Go.Proofs.Ytgcafklieblldaa.SL
open Go.RowKit Go.Proofs.YtgcafklieblldaaW.PrintWords Go.Proofs.YtgcafklieblldaaW.PrintLast Go.Proofs.YtgcafklieblldaaW.PrintMore
structure OpT where
  k : Int
  who : Int
  n : Int
  a : Ad
def oL (x : OpT) : List Value := .int .i64 x.k :: .int .i64 x.who :: .int .i64 x.n :: aL x.a
theorem oL_len (x : OpT) : (oL x).length = 20 := by unfold oL; rw [List.length_cons, List.length_cons, List.length_cons, aL_len]
theorem oL_one (x : OpT) : ∀ u ∈ oL x, u.oneCell' = true := fun u hu => by
  rcases List.mem_cons.1 hu with rfl | hu
  · rfl
  rcases List.mem_cons.1 hu with rfl | hu
  · rfl
  rcases List.mem_cons.1 hu with rfl | hu
  · rfl
  · exact aL_one _ u hu
def kO : Kd OpT := kF 20 oL oL_len oL_one
theorem flO : Flat kO := flatF
theorem szO : 0 < kO.sz := by decide
def zO : OpT := ⟨0, 0, 0, zA 0⟩
abbrev obS (A : Option Addr) (c : Nat) (s : List OpT) : Ob := obRd kO flO szO A c s
/-- The k-th operation's cells. -/
def OpAt (w : World) (ad : Addr) (k : Nat) (x : OpT) : Prop :=
  w.cell? (ad.add (k * 20)) = some (.int .i64 x.k) ∧ w.cell? ⟨(ad.add (k * 20)).block, (ad.add (k * 20)).off + 1, none⟩ = some (.int .i64 x.who) ∧ w.cell? ⟨(ad.add (k * 20)).block, (ad.add (k * 20)).off + 2, none⟩ = some (.int .i64 x.n) ∧ w.rangeAt (ad.add (k * 20)).block ((ad.add (k * 20)).off + 3) (aL x.a)
theorem op_at {w : World} {A : Option Addr} {s : List OpT} (h : kO.C w A s.length s) (k : Nat) (hk : k < s.length) : ∃ ad, A = some ad ∧ OpAt w ad k (s.getD k zO) := by
  obtain ⟨ad, c, hA, _, hK, hc⟩ := Kd.C_get h zO (k : Int) (by omega) (by omega)
  obtain rfl : c = oL (s.getD (k : Int).toNat zO) := hK
  rw [Int.toNat_natCast] at hc
  have hc' : ∀ j u, (oL (s.getD k zO))[j]? = some u → w.cell? (ad.add (k * 20 + j)) = some u := hc
  refine ⟨ad, hA, hc' 0 _ rfl, ?_, ?_, fun j u hu => ?_⟩
  · rw [← add_field _ _ 1 (by omega)]; exact hc' 1 _ rfl
  · rw [← add_field _ _ 2 (by omega)]; exact hc' 2 _ rfl
  · have := hc' (3 + j) u (by
      unfold oL
      rw [show 3 + j = j + 1 + 1 + 1 by omega, List.getElem?_cons_succ, List.getElem?_cons_succ, List.getElem?_cons_succ]
      exact hu)
    rw [add_field _ _ (3 + j) (by omega)] at this
    rw [Nat.add_assoc]
    exact this
theorem OpAt.same {w w' : World} {ad : Addr} {k : Nat} {x : OpT} (h : OpAt w ad k x) (hb : w'.heap[ad.block]? = w.heap[ad.block]?) : OpAt w' ad k x := by
  have hbl : (ad.add (k * 20)).block = ad.block := add_block' _ _
  obtain ⟨h1, h2, h3, h4⟩ := h
  have key : ∀ q : Addr, q.block = ad.block → w'.cell? q = w.cell? q := fun q hq => World.cell?_of_block (w := w) (by rw [hq]; exact hb)
  exact ⟨(key _ hbl).trans h1, (key ⟨(ad.add (k * 20)).block, _, none⟩ hbl).trans h2, (key ⟨(ad.add (k * 20)).block, _, none⟩ hbl).trans h3, fun j u hu => (key ⟨(ad.add (k * 20)).block, _, none⟩ hbl).trans (h4 j u hu)⟩
theorem OpAt.lt {w : World} {ad : Addr} {k : Nat} {x : OpT} (h : OpAt w ad k x) : ad.block < w.heap.size := by
  have := World.block_lt_of_cell? w _ h.1
  rwa [add_block'] at this
theorem OpAt.below {w w' : World} {ad : Addr} {k : Nat} {x : OpT} (h : OpAt w ad k x) (hb : Below w.heap.size w w') : OpAt w' ad k x := h.same (hb.block _ h.lt)
/-- What the table can be, behind so many calls. -/
structure Sz (most g : Int) (l : List Bd) (k : Nat) : Prop where
  m : most ≤ 32
  g0 : 0 ≤ g
  g1 : g ≤ k
  l : l.length ≤ 32
theorem bindS_le (most g : Int) (l : List Bd) (a : Ad) (port : Int) : g ≤ (bindS most g l a port).g ∧ (bindS most g l a port).g ≤ g + 1 ∧ ((bindS most g l a port).l.length ≤ l.length ∨ ((bindS most g l a port).l.length = l.length + 1 ∧ (l.length : Int) < most)) := by
  unfold bindS
  repeat' split
  all_goals simp
  all_goals omega
theorem Sz.bind {most g : Int} {l : List Bd} {k : Nat} (h : Sz most g l k) (a : Ad) (port : Int) : Sz most (bindS most g l a port).g (bindS most g l a port).l (k + 1) := by
  obtain ⟨h1, h2, h3⟩ := bindS_le most g l a port
  obtain ⟨a1, a2, a3, a4⟩ := h
  exact ⟨a1, by omega, by push_cast; omega, by rcases h3 with h3 | ⟨h3, h4⟩ <;> omega⟩
theorem closeL_le (l : List Bd) (n : Int) : (closeL l n).length ≤ l.length := by
  unfold closeL
  split
  · rw [List.length_eraseIdx]; split <;> omega
  · exact Nat.le_refl _
theorem Sz.close {most g : Int} {l : List Bd} {k : Nat} (h : Sz most g l k) (n : Int) : Sz most g (closeL l n) k := ⟨h.m, h.g0, h.g1, Nat.le_trans (closeL_le l n) h.l⟩
theorem Sz.up {most g : Int} {l : List Bd} {k k' : Nat} (h : Sz most g l k) (hk : k ≤ k') : Sz most g l k' := ⟨h.m, h.g0, by have := h.g1; omega, h.l⟩
end Go.Proofs.Ytgcafklieblldaa.SL
