/- The reference's Advance. No condition but sizes. -/
import Derived.Test.YtadhceoaoopcjaaR7
namespace Go.Proofs.Ytadhceoaoopcjaa.SL
open Go.RowKit Go.Proofs.YtadhceoaoopcjaaW.PrintWords Go.Proofs.YtadhceoaoopcjaaW.PrintLast Go.Proofs.YtadhceoaoopcjaaW.PrintMore
/-- While the least are told: o is told, R is left of L. -/
structure RAI (L : List Du) (tk : Int) (o R : List Du) : Prop where
  told : o ++ ordT (R.filter (dueP tk)) = ordT (L.filter (dueP tk))
  rest : (R.filter fun d => !dueP tk d) = L.filter fun d => !dueP tk d
  ids : R.Pairwise fun a b => a.id < b.id
  len : o.length + R.length = L.length
theorem RAI.start {s : Wh} (hk : WOk s) (tk : Int) : RAI s.L tk [] s.L := ⟨rfl, rfl, hk.ids, Nat.zero_add _⟩
theorem ids_nodup {R : List Du} (h : R.Pairwise fun a b => a.id < b.id) : (R.map (·.id)).Nodup := by
  rw [List.nodup_iff_pairwise_ne, List.pairwise_map]
  exact h.imp fun {a b} h => by omega
theorem ord_best {R : List Du} {tk : Int} {b : Nat} (hi : R.Pairwise fun a b => a.id < b.id) (hb : bestI R R.length = (b : Int)) (hbl : b < R.length) (hd : dueP tk R[b] = true) :
    ordT (R.filter (dueP tk)) = R[b] :: ordT ((R.eraseIdx b).filter (dueP tk)) := by
  have hle := bestI_le R R.length
  rw [hb, Int.toNat_natCast, getD_mem hbl] at hle
  have hs2 : ((R.eraseIdx b).filter (dueP tk)).Pairwise fun a b => a.id < b.id := (hi.sublist (List.eraseIdx_sublist _ _)).filter _
  have sp := ordT_spec (ids_nodup hs2)
  refine (ordT_of (ids_nodup (hi.filter _)) ?_ ?_).symm
  · refine List.pairwise_cons.2 ⟨fun y hy => ?_, sp.1⟩
    have hy1 := (List.mem_filter.1 (sp.2.mem_iff.1 hy)).1
    obtain ⟨j, hj, hne, rfl⟩ := List.mem_eraseIdx_iff_getElem.1 hy1
    have := hle j hj
    rw [getD_mem hj] at this
    unfold ltD
    rw [decide_eq_true_eq]
    rcases Nat.lt_or_gt_of_ne hne with h1 | h1
    · have := this.2 (by omega); omega
    · have h2 := List.pairwise_iff_getElem.1 hi b j hbl hj h1
      omega
  · have h1 : (R[b] :: R.eraseIdx b).Perm R := perm_out (List.getElem?_eq_getElem hbl)
    have h2 := h1.filter (dueP tk)
    rw [List.filter_cons_of_pos hd] at h2
    exact (sp.2.cons _).trans h2
theorem rest_erase {R : List Du} {tk : Int} {b : Nat} (hbl : b < R.length) (hd : dueP tk R[b] = true) : ((R.eraseIdx b).filter fun d => !dueP tk d) = R.filter fun d => !dueP tk d := by
  have e : R = R.take b ++ R[b] :: R.drop (b + 1) := by rw [List.getElem_cons_drop, List.take_append_drop]
  conv => rhs; rw [e]
  rw [List.eraseIdx_eq_take_drop_succ, List.filter_append, List.filter_append, List.filter_cons_of_neg (by rw [hd]; decide)]
theorem RAI.step {L o R : List Du} {tk : Int} {b : Nat} (h : RAI L tk o R) (hb : bestI R R.length = (b : Int)) (hbl : b < R.length) (hd : R[b].t ≤ tk) : RAI L tk (o ++ [R[b]]) (R.eraseIdx b) := by
  have hd' : dueP tk R[b] = true := decide_eq_true hd
  refine ⟨?_, (rest_erase hbl hd').trans h.rest, h.ids.sublist (List.eraseIdx_sublist _ _), ?_⟩
  · rw [List.append_assoc, List.singleton_append, ← ord_best h.ids hb hbl hd']
    exact h.told
  · have := h.len
    rw [List.length_append, List.length_eraseIdx_of_lt hbl, List.length_singleton]
    omega
theorem RAI.done {L o R : List Du} {tk : Int} (h : RAI L tk o R) (hall : ∀ d ∈ R, tk < d.t) : o = ordT (L.filter (dueP tk)) ∧ R = L.filter fun d => !dueP tk d := by
  have e1 : R.filter (dueP tk) = [] := List.filter_eq_nil_iff.2 fun d hd => by
    have := hall d hd
    unfold dueP
    rw [decide_eq_true_eq]
    omega
  have e2 : (R.filter fun d => !dueP tk d) = R := List.filter_eq_self.2 fun d hd => by
    have := hall d hd
    unfold dueP
    rw [Bool.not_eq_true', decide_eq_false_iff_not]
    omega
  refine ⟨?_, ?_⟩
  · rw [← h.told, e1, show ordT [] = [] from rfl, List.append_nil]
  · rw [← h.rest, e2]
theorem RAI.doneNil {L o R : List Du} {tk : Int} (h : RAI L tk o R) (hb : bestI R R.length < 0) : o = ordT (L.filter (dueP tk)) ∧ R = L.filter fun d => !dueP tk d := by
  obtain ⟨r1, r2, r3⟩ := bestI_rng R R.length
  refine h.done fun d hd => ?_
  have := r3 (List.length_pos_of_mem hd)
  omega
theorem RAI.doneLate {L o R : List Du} {tk : Int} {b : Nat} (h : RAI L tk o R) (hb : bestI R R.length = (b : Int)) (hbl : b < R.length) (hd : tk < R[b].t) : o = ordT (L.filter (dueP tk)) ∧ R = L.filter fun d => !dueP tk d := by
  have hle := bestI_le R R.length
  rw [hb, Int.toNat_natCast, getD_mem hbl] at hle
  refine h.done fun d hdm => ?_
  obtain ⟨j, hj, rfl⟩ := List.getElem_of_mem hdm
  have := (hle j hj).1
  rw [getD_mem hj] at this
  omega
def lenOf : Value → Nat
  | .slice _ n _ => n
  | _ => 0
/-- What the reference's Advance tells, and leaves. -/
def RAdvP (w0 : World) (Δ : List Ob) (p : Nat) (s : Wh) (tk : Int) (e : Ending) (w' : World) : Prop :=
  ∃ A c, e = .returned (.tuple #[.slice A (dueL s tk).length c, .int .i64 (advE s tk)]) ∧ RAt w0 (obTi (.slice A (dueL s tk).length c) (dueL s tk) :: Δ) p (advS s tk) w'
section
variable {w0 w : World} {Γ Δ : List Ob}
set_option maxHeartbeats 4000000 in
theorem radv_bad (x : RSt) (h : St w0 w (x.G ++ Δ)) (tk : Int) (hb : tk < x.s.now ∨ 1099511627776 < tk) :
    Calls Try.prog 39 #[.pointer (some ⟨x.p, 0, none⟩), .int .i64 tk] w (RAdvP w0 Δ x.p x.s tk) := by
  have HE := Lib.hid (show advE x.s tk = 1 from if_pos hb)
  have HL : Hid (dueL x.s tk = []) := Lib.hid (by unfold dueL; rw [HE.out]; rfl)
  have HS : Hid (advS x.s tk = x.s) := Lib.hid (by unfold advS; rw [HE.out]; rfl)
  have HF : Hid (RAdvP w0 Δ x.p x.s tk (.returned (.tuple #[.slice none 0 0, .int .i64 1])) w) := Lib.hid (by
    refine ⟨none, 0, by rw [HL.out, HE.out]; rfl, x, rfl, HS.out.symm, ?_⟩
    rw [HL.out]
    have h1 := h.addQuiet [obTi (.slice none 0 0) []] fun o ho => by
      obtain rfl := List.mem_singleton.1 ho
      exact ⟨rfl, rfl, Kd.R_nil _ _ _ _ _⟩
    exact h1.perm (List.perm_middle (l₁ := x.G)))
  obtain ⟨p, A, c, now, last, L⟩ := x
  have c0 := (RSt.cells h).1
  have hb' : tk < now ∨ 1099511627776 < tk := hb
  show Calls Try.prog 39 #[.pointer (some ⟨p, 0, none⟩), .int .i64 tk] w (RAdvP w0 Δ p ⟨now, last, L⟩ tk)
  clear h hb HE HL HS
  by_cases h1 : tk < now
  · clear hb'
    go_enter Try.func39, Try.ntmps39
    go_wp2
    go_ret2
    exact HF.out
  · have h2 : 1099511627776 < tk := by omega
    clear hb'
    go_enter Try.func39, Try.ntmps39
    go_wp2
    go_ret2
    exact HF.out
set_option maxHeartbeats 8000000 in
theorem radv_good (x : RSt) (hx : WOk x.s) (h : St w0 w (x.G ++ Δ)) (tk : Int) (hb1 : x.s.now ≤ tk) (hb2 : tk ≤ 1099511627776) :
    Calls Try.prog 39 #[.pointer (some ⟨x.p, 0, none⟩), .int .i64 tk] w (RAdvP w0 Δ x.p x.s tk) := by
  have HE := Lib.hid (show advE x.s tk = 0 from if_neg (by omega))
  have HI0 := Lib.hid (RAI.start hx tk)
  obtain ⟨p, A, c, now, last, L⟩ := x
  have hLL : L.length ≤ 4096 := hx.len
  have HLL := Lib.hid hLL
  have HEnd : Hid (∀ (o R : List Du) (A' A1 : Option Addr) (c' c1 : Nat) (w' : World), (o = ordT (L.filter (dueP tk)) ∧ R = L.filter fun d => !dueP tk d) → St w0 w' (RSt.G ⟨p, A1, c1, ⟨tk, last, R⟩⟩ ++ (obTi (.slice A' o.length c') o :: Δ)) →
      RAdvP w0 Δ p ⟨now, last, L⟩ tk (.returned (.tuple #[.slice A' o.length c', .int .i64 0])) w') := Lib.hid fun o R A' A1 c' c1 w' ⟨h1, h2⟩ h => by
    have e1 : dueL ⟨now, last, L⟩ tk = o := by unfold dueL; rw [HE.out, if_pos rfl]; exact h1.symm
    have e2 : advS ⟨now, last, L⟩ tk = ⟨tk, last, R⟩ := by unfold advS; rw [HE.out, if_pos rfl, h2]; rfl
    refine ⟨A', c', by rw [e1, HE.out], ⟨p, A1, c1, ⟨tk, last, R⟩⟩, rfl, e2.symm, ?_⟩
    rw [e1]
    exact h
  have c0 := (RSt.cells h).1
  have f0 := h.freeB 0 rfl 0
  have h1 : ¬ tk < now := by have : now ≤ tk := hb1; omega
  have h2 : ¬ 1099511627776 < tk := by omega
  have HW : Hid (St w0 (w.setCell ⟨p, 0, none⟩ (.int .i64 tk)) (RSt.G ⟨p, A, c, ⟨tk, last, L⟩⟩ ++ (obTi (.slice none 0 0) [] :: Δ))) := Lib.hid (by
    have q1 : St w0 (w.setCell ⟨p, 0, none⟩ (.int .i64 tk)) (RSt.G ⟨p, A, c, ⟨tk, last, L⟩⟩ ++ Δ) := h.setB 0 rfl 0 (.int .i64 tk)
    have q2 := q1.addQuiet [obTi (.slice none 0 0) []] fun o ho => by
      obtain rfl := List.mem_singleton.1 ho
      exact ⟨rfl, rfl, Kd.R_nil _ _ _ _ _⟩
    exact q2.perm (List.perm_middle (l₁ := RSt.G ⟨p, A, c, ⟨tk, last, L⟩⟩)))
  show Calls Try.prog 39 #[.pointer (some ⟨p, 0, none⟩), .int .i64 tk] w (RAdvP w0 Δ p ⟨now, last, L⟩ tk)
  clear h hx hb1 hb2 HE
  go_enter Try.func39, Try.ntmps39
  go_wp2_with fail
  generalize w.setCell ⟨p, 0, none⟩ (.int .i64 tk) = W1 at HW ⊢
  clear c0 f0 h1 h2
  go_loopw [6] (fun v wr => ∃ (o R : List Du) (A' A1 : Option Addr) (c' c1 : Nat), v = .slice A' o.length c' ∧ Hid (RAI L tk o R) ∧ Hid (St w0 wr (RSt.G ⟨p, A1, c1, ⟨tk, last, R⟩⟩ ++ (obTi (.slice A' o.length c') o :: Δ)))) (fun v _ => L.length - lenOf v)
  case atStart => exact ⟨[], L, none, A, 0, c, rfl, HI0, HW⟩
  case round =>
    clear HI0 HW
    obtain ⟨o, R, A', A1, c', c1, rfl, HI, HW⟩ := hrel
    have hRl : R.length ≤ 4096 := by have := HI.out.len; omega
    have hol : o.length ≤ 4096 := by have := HI.out.len; omega
    have HLE : Hid (Calls Try.prog 52 #[.pointer (some ⟨p, 0, none⟩)] wr fun e w' => e = .returned (.int .i64 (bestI R R.length)) ∧ Below wr.heap.size wr w') := Lib.hid (least_raw ⟨p, A1, c1, ⟨tk, last, R⟩⟩ hRl HW.out)
    have HDN : Hid (bestI R R.length < 0 → o = ordT (L.filter (dueP tk)) ∧ R = L.filter fun d => !dueP tk d) := Lib.hid HI.out.doneNil
    have HDL : Hid (∀ b : Nat, bestI R R.length = (b : Int) → ∀ hb : b < R.length, tk < R[b].t → o = ordT (L.filter (dueP tk)) ∧ R = L.filter fun d => !dueP tk d) := Lib.hid fun b h1 h2 h3 => HI.out.doneLate h1 h2 h3
    have HST : Hid (∀ b : Nat, bestI R R.length = (b : Int) → ∀ hb : b < R.length, R[b].t ≤ tk → RAI L tk (o ++ [R[b]]) (R.eraseIdx b)) := Lib.hid fun b h1 h2 h3 => HI.out.step h1 h2 h3
    obtain ⟨r1, r2, r3⟩ := bestI_rng R R.length
    generalize bestI R R.length = b at *
    clear r3
    by_cases hneg : b < 0
    · go_wp2_with (go_at_call 52; refine HLE.out.mono ?_; rintro e w1 ⟨rfl, hb⟩; have HS1 := Lib.hid (HW.out.below hb); clear hb)
      go_ret2
      exact HEnd.out _ _ _ _ _ _ _ (HDN.out hneg) HS1.out
    · obtain ⟨B, rfl⟩ : ∃ B : Nat, b = (B : Int) := ⟨b.toNat, by omega⟩
      have hB0 : (0 : Int) ≤ (B : Int) := by omega
      have hBl : B < R.length := by omega
      have HBL := Lib.hid hBl
      have HY : Hid (R[B]? = some R[B]) := Lib.hid (List.getElem?_eq_getElem hBl)
      replace HDL := Lib.hid (HDL.out B rfl hBl)
      replace HST := Lib.hid (HST.out B rfl hBl)
      obtain ⟨g, rfl, -⟩ := HW.out.cellT 1 rfl B R[B] HY.out
      have HC : Hid (∀ W, Below wr.heap.size wr W → W.cell? ⟨p, 2, none⟩ = some (.slice (some ⟨g, 0, none⟩) R.length c1) ∧ W.cell? ⟨g, B * 3, none⟩ = some (.int .i64 R[B].id) ∧ W.cell? ⟨g, B * 3 + 1, none⟩ = some (.int .i64 R[B].t) ∧ W.cell? ⟨g, B * 3 + 2, none⟩ = some (.int .i64 R[B].x)) := Lib.hid fun W hW => by
        obtain ⟨g', e', q⟩ := (HW.out.below hW).cellT 1 rfl B R[B] HY.out
        obtain rfl : g = g' := by injection e' with e'; injection e'
        exact ⟨(RSt.cells (HW.out.below hW)).2.2, q⟩
      generalize hyy : R[B] = y at *
      clear HDN HY hyy r1
      by_cases hlt : tk < y.t
      · have HD := Lib.hid (HDL.out hlt)
        clear HDL HST HI
        go_wp2_with (go_at_call 52; refine HLE.out.mono ?_; rintro e w1 ⟨rfl, hb⟩; obtain ⟨c2, y0, y1, y2⟩ := HC.out w1 hb; have HS1 := Lib.hid (HW.out.below hb); clear hb)
        go_ret2
        exact HEnd.out _ _ _ _ _ _ _ HD.out HS1.out
      · have HN := Lib.hid (HST.out (by omega))
        clear HDL HST HI
        have hol2 : (o.length + 1) * 24 ≤ 140737488355328 := by omega
        go_wp2_with (first
          | (go_at_call 52; refine HLE.out.mono ?_; rintro e w1 ⟨rfl, hb⟩; obtain ⟨c2, y0, y1, y2⟩ := HC.out w1 hb; have HS1 := Lib.hid (HW.out.below hb); clear hb)
          | (at_builtin; go_must (refine wpList_append_St kD HS1.out 2 rfl rfl (.tmp 39) (.tmp 47) 80 (.agg (dV ⟨0, 0, 0⟩)) 24 rfl Try.underlying80 infoT rfl (by decide) (by decide) y (dL y) rfl rfl rfl hol2 ?_; intro v1 w2 HG2 HS2; obtain ⟨X2, c3, rfl⟩ := HG2.out.slice; have e2 := HS2.out.cellB 0 rfl 2 rfl; have e2f := HS2.out.freeB 0 rfl 2; clear HG2 c2 y0 y1 y2))
          | (go_at_call 51; refine (without_raw HS2.out 1 rfl hRl B HBL.out).mono ?_; rintro e w3 ⟨B3, c4, rfl, hs⟩; have c9 := hs.cellB 1 rfl 2 rfl; have e9 := hs.freeB 1 rfl 2; have HS3 := Lib.hid (rf_list hs); clear hs e2 e2f))
        go_roundw
        case rel => exact ⟨o ++ [y], R.eraseIdx B, some X2, B3, c3, c4, by rw [List.length_append]; rfl, HN, by have h5 := HS3; rw [List.length_append]; exact h5⟩
        case measure => simp [lenOf]; have := HN.out.len; rw [List.length_append, List.length_singleton] at this; omega
end
end Go.Proofs.Ytadhceoaoopcjaa.SL
