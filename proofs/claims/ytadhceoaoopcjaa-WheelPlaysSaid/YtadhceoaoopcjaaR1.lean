/- The reference wheel as objects, and its calls that change nothing: Now, Len, At, least, Next; New. No condition but sizes. -/
import Derived.Test.YtadhceoaoopcjaaF5
namespace Go.Proofs.Ytadhceoaoopcjaa.SL
open Go.RowKit Go.Proofs.YtadhceoaoopcjaaW.PrintWords Go.Proofs.YtadhceoaoopcjaaW.PrintLast Go.Proofs.YtadhceoaoopcjaaW.PrintMore
abbrev obTi (v : Value) (l : List Du) : Ob := obW kD 97 flD v l
structure RSt where
  p : Nat
  A : Option Addr
  c : Nat
  s : Wh
abbrev rfV (s : Wh) (v : Value) : Array Value := #[.int .i64 s.now, .int .i64 s.last, v]
def RSt.v (x : RSt) : Value := .slice x.A x.s.L.length x.c
def RSt.G (x : RSt) : List Ob := [obB x.p (rfV x.s x.v) 82, obTi x.v x.s.L]
def obRf (x : RSt) : Ob := obGrp x.G
structure RSt.Is (x : RSt) (p : Nat) (s : Wh) : Prop where
  hp : x.p = p
  hs : x.s = s
/-- The first of the least, of the first k. -/
def bestI (L : List Du) : Nat → Int
  | 0 => -1
  | k + 1 => if bestI L k < 0 ∨ (L.getD k ⟨0, 0, 0⟩).t < (L.getD (bestI L k).toNat ⟨0, 0, 0⟩).t then (k : Int) else bestI L k
theorem bestI_rng (L : List Du) : ∀ k, -1 ≤ bestI L k ∧ bestI L k < (k : Int) ∧ (0 < k → 0 ≤ bestI L k)
  | 0 => ⟨by unfold bestI; decide, by unfold bestI; decide, fun h => absurd h (Nat.lt_irrefl 0)⟩
  | k + 1 => by
    obtain ⟨h1, h2, h3⟩ := bestI_rng L k
    unfold bestI
    split
    · omega
    · rename_i h
      have : ¬ bestI L k < 0 := fun e => h (.inl e)
      omega
theorem bestI_le (L : List Du) : ∀ k, ∀ j, j < k → (L.getD (bestI L k).toNat ⟨0, 0, 0⟩).t ≤ (L.getD j ⟨0, 0, 0⟩).t ∧ ((j : Int) < bestI L k → (L.getD (bestI L k).toNat ⟨0, 0, 0⟩).t < (L.getD j ⟨0, 0, 0⟩).t)
  | 0, j, hj => absurd hj (Nat.not_lt_zero _)
  | k + 1, j, hj => by
    obtain ⟨h1, h2, h3⟩ := bestI_rng L k
    have ih := bestI_le L k
    unfold bestI
    by_cases h : bestI L k < 0 ∨ (L.getD k ⟨0, 0, 0⟩).t < (L.getD (bestI L k).toNat ⟨0, 0, 0⟩).t
    · rw [if_pos h, Int.toNat_natCast]
      rcases Nat.lt_or_eq_of_le (Nat.le_of_lt_succ hj) with hl | rfl
      · have h4 := h3 (by omega)
        have h5 := (ih j hl).1
        rcases h with h | h <;> omega
      · exact ⟨Int.le_refl _, fun e => absurd e (by omega)⟩
    · rw [if_neg h]
      have hn : ¬ bestI L k < 0 := fun e => h (.inl e)
      have hm : ¬ (L.getD k ⟨0, 0, 0⟩).t < (L.getD (bestI L k).toNat ⟨0, 0, 0⟩).t := fun e => h (.inr e)
      rcases Nat.lt_or_eq_of_le (Nat.le_of_lt_succ hj) with hl | rfl
      · exact ih j hl
      · exact ⟨by omega, fun e => absurd e (by omega)⟩
section
variable {w0 w : World} {Γ Δ : List Ob}
theorem RSt.cells {x : RSt} (h : St w0 w (x.G ++ Δ)) : w.cell? ⟨x.p, 0, none⟩ = some (.int .i64 x.s.now) ∧ w.cell? ⟨x.p, 1, none⟩ = some (.int .i64 x.s.last) ∧ w.cell? ⟨x.p, 2, none⟩ = some x.v :=
  ⟨h.cellB 0 rfl 0 rfl, h.cellB 0 rfl 1 rfl, h.cellB 0 rfl 2 rfl⟩
theorem rnow_raw (x : RSt) (h : St w0 w (x.G ++ Δ)) : Calls Try.prog 43 #[.pointer (some ⟨x.p, 0, none⟩)] w fun e w' => e = .returned (.int .i64 x.s.now) ∧ w' = w := by
  obtain ⟨c0, c1, c2⟩ := RSt.cells h
  clear h
  go_enter Try.func43, Try.ntmps43
  go_wp2
  go_ret
  exact ⟨rfl, rfl⟩
theorem rlen_raw (x : RSt) (h : St w0 w (x.G ++ Δ)) : Calls Try.prog 44 #[.pointer (some ⟨x.p, 0, none⟩)] w fun e w' => e = .returned (.int .i64 (x.s.L.length : Int)) ∧ w' = w := by
  obtain ⟨c0, c1, c2⟩ := RSt.cells h
  replace c2 : w.cell? ⟨x.p, 2, none⟩ = some (.slice x.A x.s.L.length x.c) := c2
  clear h
  go_enter Try.func44, Try.ntmps44
  go_wp2
  go_ret
  exact ⟨rfl, rfl⟩
end
end Go.Proofs.Ytadhceoaoopcjaa.SL
