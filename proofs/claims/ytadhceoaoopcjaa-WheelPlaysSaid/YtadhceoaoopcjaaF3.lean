/- The plain law of the statement WheelFar. No condition. -/
import Derived.Test.YtadhceoaoopcjaaF1
namespace Go.Proofs.Ytadhceoaoopcjaa.SL
open Go.RowKit Go.Proofs.YtadhceoaoopcjaaW.PrintWords Go.Proofs.YtadhceoaoopcjaaW.PrintLast Go.Proofs.YtadhceoaoopcjaaW.PrintMore
/-- While timers are added: the ticks are kept beside. -/
structure FarI (now : Int) (s : Wh) (ats : List Int) : Prop where
  ok : WOk s
  n : s.now = now
  l : s.last = ats.length
  t : s.L.map (·.t) = ats
theorem FarI.start {now : Int} (h : 0 ≤ now ∧ now ≤ 1099511627776) : FarI now ⟨now, 0, []⟩ [] :=
  ⟨⟨h.1, h.2, List.Pairwise.nil, fun _ hd => (by cases hd), fun _ hd => (by cases hd), Int.le_refl _, Nat.zero_le _⟩, rfl, rfl, rfl⟩
theorem FarI.len {now : Int} {s : Wh} {ats : List Int} (h : FarI now s ats) : s.L.length = ats.length := by rw [← h.t, List.length_map]
theorem FarI.addE {now : Int} {s : Wh} {ats : List Int} (h : FarI now s ats) {t : Int} (h1 : now ≤ t) (h2 : t ≤ 1099511627776) (hl : ats.length < 4096) : SL.addE s t = 0 := by
  unfold SL.addE
  rw [if_neg (by rw [h.n]; omega), if_neg (by rw [h.len]; omega)]
theorem FarI.add {now : Int} {s : Wh} {ats : List Int} (h : FarI now s ats) {t : Int} (x : Int) (h1 : now ≤ t) (h2 : t ≤ 1099511627776) (hl : ats.length < 4096) : addR s t = (ats.length : Int) + 1 ∧ SL.addE s t = 0 ∧ FarI now (addS s t x) (ats ++ [t]) := by
  have he := h.addE h1 h2 hl
  refine ⟨by unfold addR; rw [if_pos he, h.l], he, ?_⟩
  unfold addS
  rw [if_pos he]
  refine ⟨add_ok h.ok x he, h.n, ?_, ?_⟩
  · show s.last + 1 = _
    rw [h.l, List.length_append, List.length_singleton]
    omega
  · show (s.L ++ [_]).map _ = _
    rw [List.map_append, h.t]
    rfl
/-- How many ticks are not behind a now. -/
def upTo (tk : Int) (l : List Int) : Nat := (l.filter fun t => decide (t ≤ tk)).length
theorem upTo_succ (tk : Int) (l : List Int) {k : Nat} (hk : k < l.length) : upTo tk (l.take (k + 1)) = upTo tk (l.take k) + if l[k] ≤ tk then 1 else 0 := by
  unfold upTo
  rw [List.take_succ_eq_append_getElem hk, List.filter_append, List.length_append]
  by_cases h : l[k] ≤ tk
  · rw [List.filter_cons_of_pos (by simpa using h), if_pos h]; rfl
  · rw [List.filter_cons_of_neg (by simpa using h), if_neg h]; rfl
theorem upTo_le (tk : Int) (l : List Int) : upTo tk l ≤ l.length := List.length_filter_le _ _
/-- While time goes by: what was told is what is not behind c. -/
structure FarJ (L0 : List Du) (s : Wh) (told : Int) : Prop where
  ok : WOk s
  c : ∃ c, c ≤ s.now ∧ s.L = L0.filter fun d => !dueP c d
  e : told = (L0.length : Int) - s.L.length
  nd : (L0.map (·.id)).Nodup
theorem FarJ.start {now : Int} {s : Wh} {ats : List Int} (h : FarI now s ats) : FarJ s.L s 0 := by
  refine ⟨h.ok, ⟨now - 1, by rw [h.n]; omega, ?_⟩, by omega, h.ok.nodup⟩
  refine (List.filter_eq_self.2 fun d hd => ?_).symm
  have := (h.ok.t1 d hd).1
  rw [h.n] at this
  unfold dueP
  simp
  omega
theorem FarJ.adv {L0 : List Du} {s : Wh} {told : Int} (h : FarJ L0 s told) {tk : Int} (h1 : s.now ≤ tk) (h2 : tk ≤ 1099511627776) :
    advE s tk = 0 ∧ FarJ L0 (advS s tk) (told + (dueL s tk).length) ∧ (∀ d ∈ dueL s tk, d.t ≤ tk) ∧ told + ((dueL s tk).length : Int) = (upTo tk (L0.map (·.t)) : Nat) ∧ ((advS s tk).L.length : Int) = (L0.length : Int) - (upTo tk (L0.map (·.t)) : Nat) ∧ (dueL s tk).length ≤ 4096 := by
  have he : advE s tk = 0 := if_neg (by omega)
  obtain ⟨c, hc, hL⟩ := h.c
  have hdl : (dueL s tk).Perm (s.L.filter (dueP tk)) := by
    unfold dueL
    rw [if_pos he]
    exact (ordT_spec (h.ok.nodup.sublist (List.filter_sublist.map _))).2
  have hs : advS s tk = advW s tk := by unfold advS; rw [if_pos he]
  have hpart := (part_perm (fun _ => true) (dueP tk) (fun d => !dueP tk d) s.L (fun x _ => by cases dueP tk x <;> rfl) (fun x _ h => by rw [h]; rfl)).length_eq
  rw [List.filter_eq_self.2 fun _ _ => rfl, List.length_append, ← hdl.length_eq] at hpart
  have hpart0 := (part_perm (fun _ => true) (dueP tk) (fun d => !dueP tk d) L0 (fun x _ => by cases dueP tk x <;> rfl) (fun x _ h => by rw [h]; rfl)).length_eq
  rw [List.filter_eq_self.2 fun _ _ => rfl, List.length_append] at hpart0
  have hu : upTo tk (L0.map (·.t)) = (L0.filter (dueP tk)).length := by
    unfold upTo
    rw [filter_map', List.length_map]
    rfl
  have hLL : s.L.filter (fun d => !dueP tk d) = L0.filter fun d => !dueP tk d := by
    rw [hL, List.filter_filter]
    refine List.filter_congr fun d _ => ?_
    unfold dueP
    rw [Bool.eq_iff_iff]
    simp
    omega
  have he2 := h.e
  rw [hLL] at hpart
  have hlen : ((advW s tk).L.length : Int) = (L0.length : Int) - (upTo tk (L0.map (·.t)) : Nat) := by
    show ((s.L.filter fun d => !dueP tk d).length : Int) = _
    rw [hLL, hu]
    omega
  refine ⟨he, ⟨by rw [hs]; exact adv_ok h.ok h1 h2, ⟨tk, by rw [hs]; exact Int.le_refl _, by rw [hs]; exact hLL⟩, ?_, h.nd⟩, fun d hd => ?_, ?_, by rw [hs]; exact hlen, ?_⟩
  · rw [hs]
    show told + _ = (L0.length : Int) - ((s.L.filter fun d => !dueP tk d).length : Nat)
    rw [hLL]
    omega
  · exact of_decide_eq_true (List.mem_filter.1 (hdl.mem_iff.1 hd)).2
  · rw [hu]
    omega
  · rw [hdl.length_eq]
    exact Nat.le_trans (List.length_filter_le _ _) h.ok.len
end Go.Proofs.Ytadhceoaoopcjaa.SL
