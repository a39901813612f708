/- append to a list of one's own at a step of a region that draws its order. No condition but the sizes. -/
import Derived.Test.YtadhceoaoopcjaaTm
import Derived.Deep.RegionLaw
namespace Go.Proofs.Ytadhceoaoopcjaa.SL
open Go.RowKit Go.Proofs.YtadhceoaoopcjaaW.PrintWords Go.Proofs.YtadhceoaoopcjaaW.PrintLast Go.Proofs.YtadhceoaoopcjaaW.PrintMore
section
variable {P : Program} {ops : Array Oper} {rest : List Oper} {o : Oper} {a : Act} {Q : Exit → Act → World → Prop} {α : Type} {e : Nat}
/-- One element appended to a row of one's own, told apart. (The element lies in a block of its own, just made.) -/
theorem step_append_two (d : Kd α) (hf : Flat d) {W : World} {K : Act → World → Prop} {E' : Prop} (hw : Region.wanted o (yielded ops a.tmps) = true) (s x : Operand) (t e : TypeId) (z : Value) (bytes : Nat)
    (ho : o.op = .call { callee := .builtin .append, args := #[s, x], argTypes := #[t, t] })
    (ht : P.underlying t = some (.slice e)) (hinfo : (P.info? e).map (fun i => (i.zero, i.size, i.bytes)) = some (some z, d.sz, bytes)) (hz : z.cells.size = d.sz) (hs0 : 0 < d.sz) (hb0 : 0 < bytes)
    (v : Value) (xs : List α) (p : α) (cs : List Value) (hs : a.eval s = v) (hx : a.eval x = .slice (some ⟨W.heap.size, 0, none⟩) 1 1) (hp : d.K W p cs)
    (HO : d.R e W 0 (fun _ => True) v xs) (hl : (xs.length + 1) * bytes ≤ 140737488355328)
    (h : ∀ v1 w1, d.R e w1 0 (fun _ => True) v1 (xs ++ [p]) → ((∃ g cap, v = .slice (some ⟨g, 0, none⟩) xs.length cap ∧ v1 = .slice (some ⟨g, 0, none⟩) (xs.length + 1) cap ∧ W.grownBy w1 (some g)) ∨
        (∃ g cap, W.heap.size ≤ g ∧ v1 = .slice (some ⟨g, 0, none⟩) (xs.length + 1) cap ∧ Below W.heap.size W w1)) → K (a.put o.dst v1) w1) :
    if Region.wanted o (yielded ops a.tmps) = true then Oper.wp P o a (W.alloc (.cells cs.toArray e)) K Q else E' := by
  obtain ⟨i0, hi, hzz⟩ := Option.map_eq_some_iff.1 hinfo
  simp only [Prod.mk.injEq] at hzz
  obtain ⟨hz0, hz1, hz2⟩ := hzz
  have hlen : xs.length + 1 ≤ 140737488355328 := Nat.le_trans (Nat.le_mul_of_pos_right _ hb0) hl
  obtain ⟨h0, inner, hown, hr⟩ := HO
  have hcl := d.K_len hp
  have hown' := hown.alloc (.cells cs.toArray e)
  obtain ⟨v1, w1, hrun, hown1, hcase⟩ := run_append_two (P := P) (W.alloc (.cells cs.toArray e)) 0 t o.type e i0 z d.sz bytes ht hi hz0 hz1 hz2 hz hs0 v xs.length inner hown' ⟨W.heap.size, 0, none⟩ 1 1 cs (by rw [hcl, Nat.one_mul]) (fun j u hu => by
    rw [add_plain, cell_of_row _ _ _ _ _ _ (heap_alloc_new W _)]
    simpa using hu) (d.K_one hp) (by omega) (by simp only [maxLen]; omega) hl (Nat.zero_le _)
  have hB : Below W.heap.size W (W.alloc (.cells cs.toArray e)) := Below.alloc (Below.refl _ _) (Nat.le_refl _) _
  have hK : ∀ x c, d.M W 0 (fun k => (fun _ => True) k ∧ some k ≠ v.ownBlock) x c → d.M w1 0 (fun k => (fun _ => True) k ∧ some k ≠ v1.ownBlock) x c := fun x c hm => hf W w1 0 _ x c (d.K_of_M hm)
  have hR : d.R e w1 0 (fun _ => True) v1 (xs ++ [p]) := by
    refine ⟨fun _ _ => trivial, inner ++ cs, ?_, ?_⟩
    · rw [List.length_append, List.length_singleton]; exact hown1
    · exact (hr.imp_ hK).snoc (hf W w1 0 _ p cs hp) hcl
  rw [if_pos hw]
  have hgo := h v1 w1 hR (by
    rcases hcase with ⟨g, cap, e1, e2, hg⟩ | ⟨cap, e2, hb⟩
    · refine .inl ⟨g, cap, e1, e2, ⟨hg.os, hg.tape, hg.output, Nat.le_trans (by simp) hg.size, fun k hk hne => ?_⟩⟩
      exact (hg.block k (by simp; omega) hne).trans (heap_alloc_old W _ hk)
    · exact .inr ⟨_, cap, by simp, e2, hB.trans (hb.mono (by simp))⟩)
  unfold Oper.wp execOp
  simp only [ho, resolve, invoke, builtin, Sem.run_bind, Sem.run_pure, Result.andThen_ok, List.map_toArray, List.map_cons, List.map_nil, hs, hx, hrun]
  exact hgo
/-- append(l, x), one element, to a list of one's own. -/
theorem step_append_St (d : Kd α) {hf : Flat d} {w0 W : World} {Γ : List Ob} {K : Act → World → Prop} {E' : Prop} (h : St w0 W Γ) (i : Nat) {v : Value} {xs : List α} (hi : Γ[i]? = some (obW d e hf v xs)) (hw : Region.wanted o (yielded ops a.tmps) = true) (s x : Operand) (t : TypeId) (z : Value) (bytes : Nat)
    (ho : o.op = .call { callee := .builtin .append, args := #[s, x], argTypes := #[t, t] })
    (ht : P.underlying t = some (.slice e)) (hinfo : (P.info? e).map (fun i => (i.zero, i.size, i.bytes)) = some (some z, d.sz, bytes)) (hz : z.cells.size = d.sz) (hs0 : 0 < d.sz) (hb0 : 0 < bytes)
    (p : α) (cs : List Value) (hs : a.eval s = v) (hx : a.eval x = .slice (some ⟨W.heap.size, 0, none⟩) 1 1) (hp : d.K W p cs) (hl : (xs.length + 1) * bytes ≤ 140737488355328)
    (hgo : ∀ v1 w1, Hid (Grew W w1 v v1 xs.length) → Hid (St w0 w1 (Γ.set i (obW d e hf v1 (xs ++ [p])))) → K (a.put o.dst v1) w1) :
    if Region.wanted o (yielded ops a.tmps) = true then Oper.wp P o a (W.alloc (.cells cs.toArray e)) K Q else E' :=
  step_append_two d hf hw s x t e z bytes ho ht hinfo hz hs0 hb0 v xs p cs hs hx hp (h.get i hi) hl fun v1 w1 hR hc => hgo v1 w1 hc (h.grewW i hi hR hc)
end
end Go.Proofs.Ytadhceoaoopcjaa.SL
