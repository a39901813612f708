/- The document's Bind as an object's call: it tells what the program's Bind tells; the walk of one step on both tables. No condition but sizes. -/
import Derived.Test.YtgcafklieblldaaP7
namespace Go.Proofs.Ytgcafklieblldaa.SL
open Go.RowKit Go.Proofs.YtgcafklieblldaaW.PrintWords Go.Proofs.YtgcafklieblldaaW.PrintLast Go.Proofs.YtgcafklieblldaaW.PrintMore
section
variable {w0 w : World} {Γ : List Ob} {p : Nat} {v : Value} {most g : Int} {l : List Bd}
theorem St.sameU (h : St w0 w Γ) (i : Nat) (hi : Γ[i]? = some (obU p v most g l)) {w' : World} (hb : Below w.heap.size w w') : St w0 w' (Γ.set i (obU p v most g l)) := by
  rw [h.set_same i hi]; exact h.below hb
theorem d_bind (h : St w0 w Γ) (i : Nat) (hi : Γ[i]? = some (obU p v most g l)) (hwf : WF l g) (hg1 : g < 4000000000000000000) (h32 : l.length ≤ 32) (a : Ad) (hok : bOk a.b) (port : Int) :
    Calls Try.prog 25 #[.pointer (some ⟨p, 0, none⟩), .agg (aV a), .int .i64 port] w fun e w' => ∃ v', e = .returned (.tuple #[.int .i64 (bindS most g l a port).n, .int .i64 (bindS most g l a port).q, .int .i64 (bindS most g l a port).e]) ∧ St w0 w' (Γ.set i (obU p v' most (bindS most g l a port).g (bindS most g l a port).l)) := by
  have hT : UAt w p v most g l := h.get i hi
  have hsm : (l.length : Int) ≤ 1000 := by omega
  have hg0 := hwf.1
  have hv2 : ∀ {v' : Value}, (v'.ownBlock = v.ownBlock ∨ ∃ b, v'.ownBlock = some b ∧ w.heap.size ≤ b) → ∀ b, v'.ownBlock = some b → v.ownBlock = some b ∨ w.heap.size ≤ b := fun hv b hb => by
    rcases hv with h1 | ⟨b', h1, h2⟩
    · exact .inl (h1.symm.trans hb)
    · obtain rfl : b' = b := Option.some.inj (h1.symm.trans hb)
      exact .inr h2
  unfold bindS
  by_cases h1 : ¬ (kindA a = 1 ∨ kindA a = 5) ∨ port < 0 ∨ 65535 < port
  · rw [if_pos h1]
    have hc : Calls Try.prog 25 #[.pointer (some ⟨p, 0, none⟩), .agg (aV a), .int .i64 port] w fun e w' => e = .returned (.tuple #[.int .i64 0, .int .i64 0, .int .i64 1]) ∧ Below w.heap.size w w' := by
      by_cases hk : kindA a = 1 ∨ kindA a = 5
      · by_cases hn : port < 0
        · exact bindR_neg p v most g l a port w hT hsm hok hk hn
        · exact bindR_big p v most g l a port w hT hsm hok hk (by rcases h1 with h1 | h1 | h1 <;> first | exact absurd hk h1 | omega)
      · exact bindR_kind p v most g l a port w hT hsm hok hk
    exact hc.mono fun e w' ⟨he, hb⟩ => ⟨v, he, h.sameU i hi hb⟩
  · rw [if_neg h1]
    have hk : kindA a = 1 ∨ kindA a = 5 := Classical.byContradiction fun hn => h1 (.inl hn)
    have hp0 : 0 ≤ port := Classical.byContradiction fun hn => h1 (.inr (.inl (by omega)))
    have hp1 : port ≤ 65535 := Classical.byContradiction fun hn => h1 (.inr (.inr (by omega)))
    by_cases h2 : 0 < port ∧ 0 < findB l ⟨a, port⟩
    · rw [if_pos h2]
      exact (bindR_use p v most g l a port w hT hsm hok hk h2.1 hp1 ((jx_find hwf _).2 h2.2)).mono fun e w' ⟨he, hb⟩ => ⟨v, he, h.sameU i hi hb⟩
    · rw [if_neg h2]
      have hj : 0 < port → ¬ 0 ≤ jx l ⟨a, port⟩ := fun hp hx => h2 ⟨hp, (jx_find hwf _).1 hx⟩
      by_cases h3 : most ≤ (l.length : Int)
      · rw [if_pos h3]
        by_cases hz : port = 0
        · exact (bindR_full0 p v most g l a port w hT hsm hok hk hz h3).mono fun e w' ⟨he, hb⟩ => ⟨v, he, h.sameU i hi hb⟩
        · exact (bindR_full p v most g l a port w hT hsm hok hk (by omega) hp1 (hj (by omega)) h3).mono fun e w' ⟨he, hb⟩ => ⟨v, he, h.sameU i hi hb⟩
      · rw [if_neg h3]
        by_cases hz : port = 0
        · rw [if_pos hz, if_neg (free_ne a h32)]
          obtain ⟨f1, f2, f3, f4⟩ := free_in a h32
          exact (bindR_yes0 p v most g l a port w hT hsm hok hg0 hg1 hk hz (by omega) (freeB l a) ⟨f1, f2⟩ ((find_zero hwf _).1 f3) (fun i h5 h6 => by
            rcases Int.lt_or_le (jx l ⟨a, i⟩) 0 with hq | hq
            · exact absurd (jx_neg hq).2 (f4 i h5 h6)
            · exact hq)).mono fun e w' ⟨v', he, hT', ht, hv⟩ => ⟨v', he, h.putU i hi hT' ht (hv2 hv)⟩
        · rw [if_neg hz]
          exact (bindR_yes p v most g l a port w hT hsm hok hg0 hg1 hk (by omega) hp1 (hj (by omega)) (by omega)).mono fun e w' ⟨v', he, hT', ht, hv⟩ => ⟨v', he, h.putU i hi hT' ht (hv2 hv)⟩
end
end Go.Proofs.Ytgcafklieblldaa.SL
