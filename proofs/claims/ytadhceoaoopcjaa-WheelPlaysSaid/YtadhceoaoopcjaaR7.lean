/- The reference's Add. No condition but sizes. -/
import Derived.Test.YtadhceoaoopcjaaR6
namespace Go.Proofs.Ytadhceoaoopcjaa.SL
open Go.RowKit Go.Proofs.YtadhceoaoopcjaaW.PrintWords Go.Proofs.YtadhceoaoopcjaaW.PrintLast Go.Proofs.YtadhceoaoopcjaaW.PrintMore
section
variable {w0 w : World} {Γ Δ : List Ob}
theorem rf_more {p : Nat} {a : Addr} {c c' n : Nat} {A : Option Addr} {now last t v : Int} {L : List Du} (h : St w0 w (obB p (rfV ⟨now, last, L⟩ (.slice A n c)) 82 :: obTi (.slice (some a) (L.length + 1) c') (L ++ [⟨last, t, v⟩]) :: Δ)) :
    St w0 (w.setCell ⟨p, 2, none⟩ (.slice (some a) (L.length + 1) c')) (RSt.G ⟨p, some a, c', ⟨now, last, L ++ [⟨last, t, v⟩]⟩⟩ ++ Δ) := by
  have e : L.length + 1 = (L ++ [(⟨last, t, v⟩ : Du)]).length := by rw [List.length_append]; rfl
  rw [e] at h ⊢
  exact h.setB 0 rfl 2 _
set_option maxHeartbeats 8000000 in
set_option maxRecDepth 100000 in
theorem radd_raw (x : RSt) (hx : WOk x.s) (hl : x.s.last < 4000000000000000000) (h : St w0 w (x.G ++ Δ)) (t v : Int) :
    Calls Try.prog 37 #[.pointer (some ⟨x.p, 0, none⟩), .int .i64 t, .int .i64 v] w fun e w' => e = .returned (.tuple #[.int .i64 (addR x.s t), .int .i64 (addE x.s t)]) ∧ RAt w0 Δ x.p (addS x.s t v) w' := by
  have HX := Lib.hid hx
  obtain ⟨p, A, c, now, last, L⟩ := x
  have HS := Lib.hid h
  obtain ⟨c0, c1, c2⟩ := RSt.cells h
  replace c2 : w.cell? ⟨p, 2, none⟩ = some (.slice A L.length c) := c2
  have f1 := h.freeB 0 rfl 1
  have hL4 : L.length ≤ 4096 := hx.len
  have hl0 : 0 ≤ last := hx.l0
  have hl' : last < 4000000000000000000 := hl
  have HR : Hid (addE ⟨now, last, L⟩ t = if t < now ∨ 1099511627776 < t then 1 else if 4096 ≤ (L.length : Int) then 270 else 0) := Lib.hid rfl
  show Calls Try.prog 37 #[.pointer (some ⟨p, 0, none⟩), .int .i64 t, .int .i64 v] w _
  clear h hx hl
  by_cases h1 : t < now ∨ 1099511627776 < t
  · have HE : Hid (addE ⟨now, last, L⟩ t = 1) := Lib.hid (HR.out.trans (if_pos h1))
    have HF : Hid (Ending.returned (.tuple #[.int .i64 0, .int .i64 1]) = .returned (.tuple #[.int .i64 (addR ⟨now, last, L⟩ t), .int .i64 (addE ⟨now, last, L⟩ t)]) ∧ RAt w0 Δ p (addS ⟨now, last, L⟩ t v) w) := Lib.hid
      ⟨by unfold addR; rw [HE.out]; rfl, ⟨p, A, c, now, last, L⟩, rfl, by unfold addS; rw [HE.out]; rfl, HS.out⟩
    clear HR
    by_cases h2 : t < now
    · clear h1
      go_enter Try.func37, Try.ntmps37
      go_wp2
      go_ret2
      exact HF.out
    · have h3 : 1099511627776 < t := by omega
      clear h1
      go_enter Try.func37, Try.ntmps37
      go_wp2
      go_ret2
      exact HF.out
  have h2 : ¬ t < now := fun e => h1 (.inl e)
  have h3 : ¬ 1099511627776 < t := fun e => h1 (.inr e)
  by_cases h4 : 4096 ≤ (L.length : Int)
  · have HE : Hid (addE ⟨now, last, L⟩ t = 270) := Lib.hid (HR.out.trans ((if_neg h1).trans (if_pos h4)))
    have HF : Hid (Ending.returned (.tuple #[.int .i64 0, .int .i64 270]) = .returned (.tuple #[.int .i64 (addR ⟨now, last, L⟩ t), .int .i64 (addE ⟨now, last, L⟩ t)]) ∧ RAt w0 Δ p (addS ⟨now, last, L⟩ t v) w) := Lib.hid
      ⟨by unfold addR; rw [HE.out]; rfl, ⟨p, A, c, now, last, L⟩, rfl, by unfold addS; rw [HE.out]; rfl, HS.out⟩
    clear HR h1
    go_enter Try.func37, Try.ntmps37
    go_wp2
    go_ret2
    exact HF.out
  have HE : Hid (addE ⟨now, last, L⟩ t = 0) := Lib.hid (HR.out.trans ((if_neg h1).trans (if_neg h4)))
  have h4' : (L.length : Int) < 4096 := by omega
  clear HR h1 h4
  have HW1 : Hid (St w0 (w.setCell ⟨p, 1, none⟩ (.int .i64 (last + 1))) (obB p (rfV ⟨now, last + 1, L⟩ (.slice A L.length c)) 82 :: obTi (.slice A L.length c) L :: Δ)) := Lib.hid (HS.out.setB 0 rfl 1 (.int .i64 (last + 1)))
  have HEnd : Hid (∀ (a : Addr) (c' : Nat) (w' : World), St w0 w' (obB p (rfV ⟨now, last + 1, L⟩ (.slice A L.length c)) 82 :: obTi (.slice (some a) (L.length + 1) c') (L ++ [⟨last + 1, t, v⟩]) :: Δ) →
      Ending.returned (.tuple #[.int .i64 (last + 1), .int .i64 0]) = .returned (.tuple #[.int .i64 (addR ⟨now, last, L⟩ t), .int .i64 (addE ⟨now, last, L⟩ t)]) ∧ RAt w0 Δ p (addS ⟨now, last, L⟩ t v) (w'.setCell ⟨p, 2, none⟩ (.slice (some a) (L.length + 1) c'))) := Lib.hid fun a c' w' h => 
    ⟨by unfold addR; rw [HE.out]; rfl, ⟨p, some a, c', addW ⟨now, last, L⟩ t v⟩, rfl, by unfold addS; rw [HE.out]; rfl, rf_more h⟩
  have HB : Hid ((L.length + 1) * 24 ≤ 140737488355328) := Lib.hid (by omega)
  go_enter Try.func37, Try.ntmps37
  go_wp2_with fail
  generalize w.setCell ⟨p, 1, none⟩ (.int .i64 (last + 1)) = W1 at *
  have c1 := HW1.out.cellB 0 rfl 1 rfl
  have c2 := HW1.out.cellB 0 rfl 2 rfl
  have d2 : (W1.alloc (.cells (dV ⟨last + 1, t, v⟩) 97)).cell? ⟨p, 2, none⟩ = some (.slice A L.length c) := by
    rw [World.cell?_of_block (w := W1) (heap_alloc_old W1 _ (World.block_lt_of_cell? W1 _ c2))]; exact c2
  have H4 := Lib.hid HW1.out.drew
  go_region_law (refine step_append_St kD H4.out 1 rfl rfl (.tmp 35) (.tmp 43) 80 (.agg (dV ⟨0, 0, 0⟩)) 24 rfl Try.underlying80 infoT rfl (by decide) (by decide) ⟨last + 1, t, v⟩ (dL ⟨last + 1, t, v⟩) (by first | (go_simp; done) | (go_simp; rfl)) (by first | (go_simp; done) | (go_simp; rfl)) rfl HB.out ?_; intro v1 w4 HG4 HS4; obtain ⟨X1, c4, rfl⟩ := HG4.out.slice; have e0 := HS4.out.cellB 0 rfl 2 rfl; have e1 := HS4.out.cellB 0 rfl 1 rfl; have e3 := HS4.out.freeB 0 rfl 2; clear HG4)
  all_goals
    go_wp2_with fail
    go_ret2
    exact HEnd.out _ _ _ HS4.out
end
end Go.Proofs.Ytadhceoaoopcjaa.SL
