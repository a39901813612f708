/- The plain law and the walk of the statement WheelFull. No condition. -/
import Derived.Test.YtadhceoaoopcjaaL1
namespace Go.Proofs.Ytadhceoaoopcjaa.SL
open Go.RowKit Go.Proofs.YtadhceoaoopcjaaW.PrintWords Go.Proofs.YtadhceoaoopcjaaW.PrintLast Go.Proofs.YtadhceoaoopcjaaW.PrintMore
def fillD (now : Int) (k : Nat) : Du := ⟨(k : Int) + 1, now + (k : Int) % 7, k⟩
def fillW (now : Int) (i : Nat) : Wh := ⟨now, i, (List.range i).map (fillD now)⟩
theorem fill_len (now : Int) (i : Nat) : (fillW now i).L.length = i := by unfold fillW; simp
theorem fill_addE {now : Int} (h2 : now ≤ 549755813888) {i : Nat} (hi : i < 4096) : addE (fillW now i) (now + (i : Int) % 7) = 0 := by
  unfold addE
  rw [if_neg (by show ¬ (now + (i : Int) % 7 < now ∨ _); omega), if_neg (by rw [fill_len]; omega)]
theorem fill_addS {now : Int} (h2 : now ≤ 549755813888) {i : Nat} (hi : i < 4096) : addS (fillW now i) (now + (i : Int) % 7) i = fillW now (i + 1) := by
  unfold addS
  rw [if_pos (fill_addE h2 hi)]
  unfold addW fillW
  rw [List.range_succ, List.map_append]
  rfl
theorem fill_addR {now : Int} (h2 : now ≤ 549755813888) {i : Nat} (hi : i < 4096) : addR (fillW now i) (now + (i : Int) % 7) = (i : Int) + 1 := by
  unfold addR
  rw [if_pos (fill_addE h2 hi)]
  rfl
theorem filter_notId {l : List Du} (hn : (l.map (·.id)).Nodup) (id : Int) : l.length ≤ (l.filter (notId id)).length + 1 := by
  induction l with
  | nil => exact Nat.zero_le _
  | cons d l ih =>
    rw [List.map_cons, List.nodup_cons] at hn
    by_cases e : d.id = id
    · rw [List.filter_cons_of_neg (by unfold notId; simp [e]), List.filter_eq_self.2 fun x hx => ?_]
      · simp
      · unfold notId
        have : x.id ≠ id := fun e2 => hn.1 (List.mem_map.2 ⟨x, hx, e2.trans e.symm⟩)
        simpa using this
    · rw [List.filter_cons_of_pos (by unfold notId; simpa using e), List.length_cons, List.length_cons]
      have := ih hn.2
      omega
theorem notId_one {l : List Du} (hn : (l.map (·.id)).Nodup) {d : Du} (hd : d ∈ l) : (l.filter (notId d.id)).length + 1 = l.length := by
  induction l with
  | nil => cases hd
  | cons y l ih =>
    rw [List.map_cons, List.nodup_cons] at hn
    by_cases e : y.id = d.id
    · rw [List.filter_cons_of_neg (by unfold notId; simp [e]), List.filter_eq_self.2 fun x hx => ?_]
      · rfl
      · unfold notId
        have : x.id ≠ d.id := fun e2 => hn.1 (List.mem_map.2 ⟨x, hx, e2.trans e.symm⟩)
        simpa using this
    · rw [List.filter_cons_of_pos (by unfold notId; simpa using e), List.length_cons, List.length_cons]
      rcases List.mem_cons.1 hd with rfl | hd
      · exact absurd rfl e
      · rw [ih hn.2 hd]
theorem seven : ((List.range 4096).filter fun k => decide (k % 7 = 0)).length = 586 := by decide +kernel
theorem filter_map' {α β : Type} (f : α → β) (p : β → Bool) (l : List α) : (l.map f).filter p = (l.filter fun x => p (f x)).map f := by
  induction l with
  | nil => rfl
  | cons x l ih =>
    rw [List.map_cons]
    by_cases h : p (f x) = true
    · rw [List.filter_cons_of_pos h, List.filter_cons_of_pos (p := fun x => p (f x)) h, List.map_cons, ih]
    · rw [List.filter_cons_of_neg h, List.filter_cons_of_neg (p := fun x => p (f x)) h, ih]
theorem fill_due (now : Int) {N : Nat} (hN : N = 4096) : ((fillW now N).L.filter (dueP now)).length = 586 := by
  unfold fillW
  simp only
  rw [filter_map', List.length_map, ← seven, ← hN]
  congr 1
  refine List.filter_congr fun k _ => ?_
  unfold dueP fillD
  rw [Bool.eq_iff_iff, decide_eq_true_eq, decide_eq_true_eq]
  show now + (k : Int) % 7 ≤ now ↔ _
  omega
theorem fill_ok {now : Int} {N : Nat} (hN : N = 4096) (h1 : 0 ≤ now) (h2 : now ≤ 549755813888) : WOk (fillW now N) := by
  refine ⟨h1, by show now ≤ _; omega, ?_, ?_, ?_, by show (0 : Int) ≤ ((N : Nat) : Int); omega, by rw [fill_len]; omega⟩
  · show ((List.range N).map (fillD now)).Pairwise _
    rw [List.pairwise_map]
    exact List.pairwise_lt_range.imp fun {a b} h => by show (a : Int) + 1 < (b : Int) + 1; omega
  · intro d hd
    obtain ⟨k, hk, rfl⟩ := List.mem_map.1 hd
    have := List.mem_range.1 hk
    show 1 ≤ (k : Int) + 1 ∧ (k : Int) + 1 ≤ ((N : Nat) : Int)
    omega
  · intro d hd
    obtain ⟨k, hk, rfl⟩ := List.mem_map.1 hd
    show now ≤ now + (k : Int) % 7 ∧ now + (k : Int) % 7 ≤ _
    omega
/-- What stands behind the cancelling. -/
structure FullF (N : Nat) (now at1 id : Int) : Prop where
  r1 : addR (fillW now N) at1 = 0
  e1 : addE (fillW now N) at1 = 270
  s1 : addS (fillW now N) at1 1 = fillW now N
  r2 : addR (fillW now N) (now - 1) = 0
  e2 : addE (fillW now N) (now - 1) = 1
  s2 : addS (fillW now N) (now - 1) 1 = fillW now N
  r3 : addR (fillW now N) 1099511627777 = 0
  e3 : addE (fillW now N) 1099511627777 = 1
  s3 : addS (fillW now N) 1099511627777 1 = fillW now N
  f : (findW (fillW now N) id).isSome = true
  r4 : addR (cutW (fillW now N) id) at1 = 4097
  e4 : addE (cutW (fillW now N) id) at1 = 0
  r5 : addR (addS (cutW (fillW now N) id) at1 2) at1 = 0
  e5 : addE (addS (cutW (fillW now N) id) at1 2) at1 = 270
  s5 : addS (addS (cutW (fillW now N) id) at1 2) at1 3 = addS (cutW (fillW now N) id) at1 2
  e6 : advE (addS (cutW (fillW now N) id) at1 2) now = 0
  l6 : 585 ≤ (dueL (addS (cutW (fillW now N) id) at1 2) now).length
  l7 : (dueL (addS (cutW (fillW now N) id) at1 2) now).length < 9000000
  r7 : addR (advS (addS (cutW (fillW now N) id) at1 2) now) now = 4098
  e7 : addE (advS (addS (cutW (fillW now N) id) at1 2) now) now = 0
theorem fullF {N : Nat} (hN : N = 4096) {now at1 id : Int} (h1 : 0 ≤ now) (h2 : now ≤ 549755813888) (h3 : now ≤ at1) (h4 : at1 ≤ 1099511627776) (h5 : 1 ≤ id) (h6 : id ≤ 4096) : FullF N now at1 id := by
  have hk := fill_ok hN h1 h2
  have e1 : addE (fillW now N) at1 = 270 := by
    unfold addE
    rw [if_neg (by show ¬ (at1 < now ∨ _); omega), if_pos (by rw [fill_len]; omega)]
  have e2 : addE (fillW now N) (now - 1) = 1 := if_pos (.inl (by show now - 1 < now; omega))
  have e3 : addE (fillW now N) 1099511627777 = 1 := if_pos (.inr (by omega))
  have hd : fillD now (id - 1).toNat ∈ (fillW now N).L := List.mem_map.2 ⟨_, List.mem_range.2 (by omega), rfl⟩
  have hdi : (fillD now (id - 1).toNat).id = id := by show (((id - 1).toNat : Nat) : Int) + 1 = id; omega
  have hf : (findW (fillW now N) id).isSome = true := by
    cases hc : findW (fillW now N) id with
    | some d => rfl
    | none => exact absurd hdi (findW_none hc _ hd)
  have hlen : (cutW (fillW now N) id).L.length = 4095 := by
    have := notId_one hk.nodup hd
    rw [hdi, fill_len] at this
    show ((fillW now N).L.filter (notId id)).length = 4095
    omega
  have hck := cut_ok hk id
  have e4 : addE (cutW (fillW now N) id) at1 = 0 := by
    unfold addE
    rw [if_neg (by show ¬ (at1 < now ∨ _); omega), if_neg (by rw [hlen]; omega)]
  have r4 : addR (cutW (fillW now N) id) at1 = 4097 := by unfold addR; rw [if_pos e4]; show ((N : Nat) : Int) + 1 = 4097; omega
  have s4 : addS (cutW (fillW now N) id) at1 2 = addW (cutW (fillW now N) id) at1 2 := by unfold addS; rw [if_pos e4]
  have hk4 := add_ok hck 2 e4
  have hl4 : (addW (cutW (fillW now N) id) at1 2).L.length = 4096 := by
    show ((cutW (fillW now N) id).L ++ [_]).length = 4096
    rw [List.length_append, hlen, List.length_singleton]
  have e5 : addE (addW (cutW (fillW now N) id) at1 2) at1 = 270 := by
    unfold addE
    rw [if_neg (by show ¬ (at1 < now ∨ _); omega), if_pos (by rw [hl4]; omega)]
  have e6 : advE (addW (cutW (fillW now N) id) at1 2) now = 0 := if_neg (by show ¬ (now < now ∨ _); omega)
  have hdl : (dueL (addW (cutW (fillW now N) id) at1 2) now).length = ((addW (cutW (fillW now N) id) at1 2).L.filter (dueP now)).length := by
    unfold dueL
    rw [if_pos e6]
    exact (ordT_spec (hk4.nodup.sublist (List.filter_sublist.map _))).2.length_eq
  have hge : 585 ≤ ((addW (cutW (fillW now N) id) at1 2).L.filter (dueP now)).length := by
    show 585 ≤ (((cutW (fillW now N) id).L ++ [_]).filter (dueP now)).length
    rw [List.filter_append, List.length_append]
    have hc : (((fillW now N).L.filter (notId id)).filter (dueP now)) = ((fillW now N).L.filter (dueP now)).filter (notId id) := by
      rw [List.filter_filter, List.filter_filter]
      exact List.filter_congr fun x _ => Bool.and_comm _ _
    have h7 := filter_notId (hk.nodup.sublist ((List.filter_sublist (p := dueP now)).map _)) id
    rw [fill_due now hN, ← hc] at h7
    show 585 ≤ (((fillW now N).L.filter (notId id)).filter (dueP now)).length + _
    omega
  have hle : ((addW (cutW (fillW now N) id) at1 2).L.filter (dueP now)).length ≤ 4096 := Nat.le_trans (List.length_filter_le _ _) (by rw [hl4]; exact Nat.le_refl _)
  have s7 : advS (addW (cutW (fillW now N) id) at1 2) now = advW (addW (cutW (fillW now N) id) at1 2) now := by unfold advS; rw [if_pos e6]
  have hlt : (advW (addW (cutW (fillW now N) id) at1 2) now).L.length < 4096 := by
    have hp := part_perm (fun _ => true) (dueP now) (fun d => !dueP now d) (addW (cutW (fillW now N) id) at1 2).L (fun x _ => by cases dueP now x <;> rfl) (fun x _ h => by rw [h]; rfl)
    have := hp.length_eq
    rw [List.filter_eq_self.2 fun _ _ => rfl, List.length_append, hl4] at this
    show ((addW (cutW (fillW now N) id) at1 2).L.filter fun d => !dueP now d).length < 4096
    omega
  have e7 : addE (advW (addW (cutW (fillW now N) id) at1 2) now) now = 0 := by
    unfold addE
    rw [if_neg (by show ¬ (now < now ∨ _); omega), if_neg (by omega)]
  refine ⟨?_, e1, ?_, ?_, e2, ?_, ?_, e3, ?_, hf, r4, e4, ?_, by rw [s4]; exact e5, ?_, by rw [s4]; exact e6, by rw [s4, hdl]; exact hge, by rw [s4, hdl]; omega, ?_, by rw [s4, s7]; exact e7⟩
  · unfold addR; rw [e1]; rfl
  · unfold addS; rw [e1]; rfl
  · unfold addR; rw [e2]; rfl
  · unfold addS; rw [e2]; rfl
  · unfold addR; rw [e3]; rfl
  · unfold addS; rw [e3]; rfl
  · rw [s4]; unfold addR; rw [e5]; rfl
  · rw [s4]; unfold addS; rw [e5]; rfl
  · rw [s4, s7]; unfold addR; rw [if_pos e7]; show ((N : Nat) : Int) + 1 + 1 = 4098; omega
end Go.Proofs.Ytadhceoaoopcjaa.SL
