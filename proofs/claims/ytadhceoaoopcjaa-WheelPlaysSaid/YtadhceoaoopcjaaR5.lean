/- The reference's without. No condition but sizes. -/
import Derived.Test.YtadhceoaoopcjaaR4
namespace Go.Proofs.Ytadhceoaoopcjaa.SL
open Go.RowKit Go.Proofs.YtadhceoaoopcjaaW.PrintWords Go.Proofs.YtadhceoaoopcjaaW.PrintLast Go.Proofs.YtadhceoaoopcjaaW.PrintMore
section
variable {w0 w : World} {Γ Δ : List Ob}
set_option maxHeartbeats 4000000 in
theorem without_raw (h : St w0 w Γ) (j : Nat) {A : Option Addr} {c : Nat} {l : List Du} (hj : Γ[j]? = some (obTi (.slice A l.length c) l)) (hl : l.length ≤ 4096) (i : Nat) (hi : i < l.length) :
    Calls Try.prog 51 #[.slice A l.length c, .int .i64 (i : Int)] w fun e w' => ∃ B c', e = .returned (.slice B (l.eraseIdx i).length c') ∧ St w0 w' (obTi (.slice B (l.eraseIdx i).length c') (l.eraseIdx i) :: Γ) := by
  obtain ⟨g, rfl, -⟩ := h.cellT j hj i l[i] (List.getElem?_eq_getElem hi)
  have hc := (Kd.R_reads' (h.get j hj)).2.1
  have H := Lib.hid h
  have HJ := Lib.hid hj
  have hi0 : (0 : Int) ≤ (i : Int) := by omega
  have hi1 : (i : Int) < (l.length : Int) := by omega
  have hi2 : (i : Int) ≤ (c : Int) := by omega
  have hi3 : (i : Int) + 1 ≤ (l.length : Int) := by omega
  have hc2 : (l.length : Int) ≤ (c : Int) := by omega
  clear h hj
  go_enter Try.func51, Try.ntmps51
  have hl1 : (l.take i).length = i := by rw [List.length_take]; omega
  have HL1 := Lib.hid hl1
  have HC1 : Hid (kD.C w (some ⟨g, 0, none⟩) i (l.take i)) := Lib.hid (by have := Kd.C_take (m := i) (Kd.R_reads' (H.out.get j HJ.out)).2.2 (by omega); rw [HL1.out] at this; exact this)
  have hb1 : i * 24 ≤ 140737488355328 := by omega
  clear hl1
  have HER : Hid (l.take i ++ l.drop (i + 1) = l.eraseIdx i) := Lib.hid (List.eraseIdx_eq_take_drop_succ ..).symm
  by_cases hce : c = i + 1
  · subst hce
    have HC2 : Hid (∀ W o, St w0 W (o :: Γ) → kD.C W (some ⟨g, 0, none⟩) 0 (l.drop (i + 1))) := Lib.hid fun W o h => by
      have := Kd.C_drop (m := i + 1) (Kd.R_reads' (h.get (j + 1) (by rw [List.getElem?_cons_succ]; exact HJ.out))).2.2 (by omega) (show l.length ≤ i + 1 by omega)
      rw [List.length_drop] at this
      rw [if_pos rfl, show l.length - (i + 1) = 0 by omega] at this; exact this
    go_wp2_with (first
      | (have _g := HS3; at_builtin; go_must (refine wpList_append_rows_St kD HS3.out 0 rfl rfl (.tmp 11) (.tmp 15) 80 (.agg (dV ⟨0, 0, 0⟩)) 24 rfl Try.underlying80 infoT rfl (by decide) (by decide) (l.drop (i + 1)) (some ⟨g, 0, none⟩) 0 0 rfl rfl (HC2.out _ _ HS3.out) (by rw [HL1.out]; omega) ?_; intro v1 w5 hv1 HS4; rw [HER.out] at hv1 HS4; obtain ⟨B2, c2, rfl⟩ := hv1.out; have HS5 : Hid (St w0 w5 (obTi (.slice B2 (l.eraseIdx i).length c2) (l.eraseIdx i) :: Γ)) := HS4; clear hv1 HS4))
      | (at_builtin; (refine wpList_append_new_St kD flD H.out rfl (.tmp 6) (.tmp 9) 80 (.agg (dV ⟨0, 0, 0⟩)) 24 rfl Try.underlying80 infoT rfl (by decide) (by decide) (l.take i) (some ⟨g, 0, none⟩) i _ rfl rfl HC1.out hb1 ?_; intro v1 w3 hv1 HS2; rw [HL1.out] at hv1; obtain ⟨B1, c1, rfl⟩ := hv1.out; have HS3 : Hid (St w0 w3 (obTi (.slice B1 i c1) (l.take i) :: Γ)) := Lib.hid HS2.out.front1; clear hv1 HS2)))
    go_ret
    exact ⟨B2, c2, rfl, HS5.out⟩
  · have hce2 : ¬ (c : Int) = (i : Int) + 1 := by omega
    have HC2 : Hid (∀ W o, St w0 W (o :: Γ) → kD.C W (some ⟨g, (i + 1) * 3, none⟩) (l.length - (i + 1)) (l.drop (i + 1))) := Lib.hid fun W o h => by
      have := Kd.C_drop (m := i + 1) (Kd.R_reads' (h.get (j + 1) (by rw [List.getElem?_cons_succ]; exact HJ.out))).2.2 (by omega) (show l.length ≤ c by omega)
      rw [List.length_drop] at this
      rw [if_neg hce] at this; have hadd : (⟨g, 0, none⟩ : Addr).add ((i + 1) * 3) = ⟨g, (i + 1) * 3, none⟩ := (by unfold Addr.add; split <;> simp_all); rw [← hadd]; exact this
    go_wp2_with (first
      | (have _g := HS3; at_builtin; go_must (refine wpList_append_rows_St kD HS3.out 0 rfl rfl (.tmp 11) (.tmp 15) 80 (.agg (dV ⟨0, 0, 0⟩)) 24 rfl Try.underlying80 infoT rfl (by decide) (by decide) (l.drop (i + 1)) (some ⟨g, (i + 1) * 3, none⟩) (l.length - (i + 1)) (c - (i + 1)) rfl rfl (HC2.out _ _ HS3.out) (by rw [HL1.out]; omega) ?_; intro v1 w5 hv1 HS4; rw [HER.out] at hv1 HS4; obtain ⟨B2, c2, rfl⟩ := hv1.out; have HS5 : Hid (St w0 w5 (obTi (.slice B2 (l.eraseIdx i).length c2) (l.eraseIdx i) :: Γ)) := HS4; clear hv1 HS4))
      | (at_builtin; (refine wpList_append_new_St kD flD H.out rfl (.tmp 6) (.tmp 9) 80 (.agg (dV ⟨0, 0, 0⟩)) 24 rfl Try.underlying80 infoT rfl (by decide) (by decide) (l.take i) (some ⟨g, 0, none⟩) i _ rfl rfl HC1.out hb1 ?_; intro v1 w3 hv1 HS2; rw [HL1.out] at hv1; obtain ⟨B1, c1, rfl⟩ := hv1.out; have HS3 : Hid (St w0 w3 (obTi (.slice B1 i c1) (l.take i) :: Γ)) := Lib.hid HS2.out.front1; clear hv1 HS2)))
    go_ret
    exact ⟨B2, c2, rfl, HS5.out⟩
end
end Go.Proofs.Ytadhceoaoopcjaa.SL
