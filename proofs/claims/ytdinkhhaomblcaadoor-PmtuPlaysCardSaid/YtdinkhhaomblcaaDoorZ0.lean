/- Objects: front and part, taken together as one; a quiet one is added. No condition. -/
import Derived.Test.YtdinkhhaomblcaaDoorBx
import Derived.Test.YtdinkhhaomblcaaDoorTm
import Derived.Deep.RegionLaw
namespace Go.Proofs.YtdinkhhaomblcaaDoor.SL
open Go.RowKit Go.Proofs.YtdinkhhaomblcaaDoorW.PrintWords Go.Proofs.YtdinkhhaomblcaaDoorW.PrintLast Go.Proofs.YtdinkhhaomblcaaDoorW.PrintMore
/-! ### front and part -/
theorem St.front1 {w0 w : World} {Γ : List Ob} {x : Ob} (h : St w0 w (Γ ++ [x])) : St w0 w (x :: Γ) := h.perm (List.perm_append_singleton x Γ).symm
theorem St.sub {w0 w : World} {Γ Δ : List Ob} (h : St w0 w Γ) (hs : Δ.Sublist Γ) : St w0 w Δ := by
  refine ⟨h.bl, fun i o hi => ?_, fun i o hi => ?_, Apart.pair.2 ((Apart.pair.1 h.sep).sublist hs)⟩
  · obtain ⟨j, hj, he⟩ := List.getElem_of_mem (hs.subset (List.mem_of_getElem? hi))
    exact h.ok j o (by rw [List.getElem?_eq_getElem hj, he])
  · obtain ⟨j, hj, he⟩ := List.getElem_of_mem (hs.subset (List.mem_of_getElem? hi))
    exact h.base j o (by rw [List.getElem?_eq_getElem hj, he])
theorem St.boxF {w0 w : World} {Γ : List Ob} (h : St w0 w Γ) (cs : Array Value) (T : TypeId) : St w0 (w.alloc (.cells cs T)) (obB w.heap.size cs T :: Γ) := (h.box cs T).front1
/-- Objects taken together as one. -/
def obGrp (G : List Ob) : Ob where
  own := G.flatMap (·.own)
  all := G.flatMap (·.all)
  holds w := (∀ o ∈ G, o.holds w) ∧ G.Pairwise Apart
  sub := fun b hb => by
    obtain ⟨o, ho, hb⟩ := List.mem_flatMap.1 hb
    exact List.mem_flatMap.2 ⟨o, ho, o.sub b hb⟩
  lt := fun w h b hb => by
    obtain ⟨o, ho, hb⟩ := List.mem_flatMap.1 hb
    exact o.lt w (h.1 o ho) b hb
  stab := fun w w' h hs => ⟨fun o ho => o.stab w w' (h.1 o ho) fun b hb => hs b (List.mem_flatMap.2 ⟨o, ho, hb⟩), h.2⟩
theorem St.mk' {w0 w : World} {Γ : List Ob} (hb : Below w0.heap.size w0 w) (h1 : ∀ o ∈ Γ, o.holds w) (h2 : ∀ o ∈ Γ, ∀ b ∈ o.own, w0.heap.size ≤ b) (h3 : Γ.Pairwise Apart) : St w0 w Γ :=
  ⟨hb, fun _ o hi => h1 o (List.mem_of_getElem? hi), fun _ o hi => h2 o (List.mem_of_getElem? hi), Apart.pair.2 h3⟩
theorem St.holdsM {w0 w : World} {Γ : List Ob} (h : St w0 w Γ) {o : Ob} (ho : o ∈ Γ) : o.holds w := by
  obtain ⟨j, hj, he⟩ := List.getElem_of_mem ho
  exact h.ok j o (by rw [List.getElem?_eq_getElem hj, he])
theorem St.baseM {w0 w : World} {Γ : List Ob} (h : St w0 w Γ) {o : Ob} (ho : o ∈ Γ) : ∀ b ∈ o.own, w0.heap.size ≤ b := by
  obtain ⟨j, hj, he⟩ := List.getElem_of_mem ho
  exact h.base j o (by rw [List.getElem?_eq_getElem hj, he])
theorem St.ungrp {w0 w : World} {G Γ : List Ob} (h : St w0 w (obGrp G :: Γ)) : St w0 w (G ++ Γ) := by
  obtain ⟨g1, g2⟩ := (show (obGrp G).holds w from h.get 0 rfl)
  have hp := List.pairwise_cons.1 (Apart.pair.1 h.sep)
  refine St.mk' h.bl (fun o ho => ?_) (fun o ho => ?_) ?_
  · rcases List.mem_append.1 ho with ho | ho
    · exact g1 o ho
    · exact h.holdsM (List.mem_cons_of_mem _ ho)
  · rcases List.mem_append.1 ho with ho | ho
    · exact fun b hb => h.baseM List.mem_cons_self b (List.mem_flatMap.2 ⟨o, ho, hb⟩)
    · exact h.baseM (List.mem_cons_of_mem _ ho)
  · refine List.pairwise_append.2 ⟨g2, hp.2, fun a ha b hb => ?_⟩
    obtain ⟨q1, q2⟩ := hp.1 b hb
    exact ⟨fun x hx hxb => q1 x (List.mem_flatMap.2 ⟨a, ha, hx⟩) hxb, fun x hx hxa => q2 x hx (List.mem_flatMap.2 ⟨a, ha, hxa⟩)⟩
theorem St.grp {w0 w : World} {G Γ : List Ob} (h : St w0 w (G ++ Γ)) : St w0 w (obGrp G :: Γ) := by
  obtain ⟨p1, p2, p3⟩ := List.pairwise_append.1 (Apart.pair.1 h.sep)
  refine St.mk' h.bl (fun o ho => ?_) (fun o ho => ?_) (List.pairwise_cons.2 ⟨fun b hb => ⟨fun x hx hxb => ?_, fun x hx hxa => ?_⟩, p2⟩)
  · rcases List.mem_cons.1 ho with rfl | ho
    · exact ⟨fun o ho => h.holdsM (List.mem_append_left _ ho), p1⟩
    · exact h.holdsM (List.mem_append_right _ ho)
  · rcases List.mem_cons.1 ho with rfl | ho
    · intro b hb
      obtain ⟨o, ho, hb⟩ := List.mem_flatMap.1 hb
      exact h.baseM (List.mem_append_left _ ho) b hb
    · exact h.baseM (List.mem_append_right _ ho)
  · obtain ⟨a, ha, hx⟩ := List.mem_flatMap.1 hx
    exact (p3 a ha b hb).1 x hx hxb
  · obtain ⟨a, ha, hxa⟩ := List.mem_flatMap.1 hxa
    exact (p3 a ha b hb).2 x hx hxa
theorem perm_out {α : Type} : ∀ {l : List α} {i : Nat} {x : α}, l[i]? = some x → (x :: l.eraseIdx i).Perm l
  | [], _, _, h => by simp at h
  | y :: l, 0, x, h => by
    obtain rfl : y = x := by simpa using h
    exact List.Perm.refl _
  | y :: l, i + 1, x, h => by
    have ih := perm_out (l := l) (i := i) (x := x) (by simpa using h)
    rw [List.eraseIdx_cons_succ]
    exact (List.Perm.swap y x _).trans (List.Perm.cons y ih)
theorem perm_in {α : Type} : ∀ {l : List α} {i : Nat} {x y : α}, l[i]? = some x → (l.set i y).Perm (y :: l.eraseIdx i)
  | [], _, _, _, h => by simp at h
  | z :: l, 0, x, y, _ => by simp
  | z :: l, i + 1, x, y, h => by
    have ih := perm_in (l := l) (i := i) (x := x) (y := y) (by simpa using h)
    rw [List.set_cons_succ, List.eraseIdx_cons_succ]
    exact (List.Perm.cons z ih).trans (List.Perm.swap y z _)
theorem St.focus {w0 w : World} {Γ G : List Ob} (h : St w0 w Γ) {i : Nat} (hi : Γ[i]? = some (obGrp G)) : St w0 w (G ++ Γ.eraseIdx i) := (h.perm (perm_out hi)).ungrp
theorem St.unfocus {w0 w : World} {Γ G : List Ob} {x : Ob} {i : Nat} (hi : Γ[i]? = some x) (h : St w0 w (G ++ Γ.eraseIdx i)) : St w0 w (Γ.set i (obGrp G)) := h.grp.perm (perm_in hi)
section
variable {w0 w : World} {Γ Δ : List Ob}
theorem St.addQuiet (h : St w0 w Γ) (G : List Ob) (h1 : ∀ o ∈ G, o.own = [] ∧ o.all = [] ∧ o.holds w) : St w0 w (G ++ Γ) := by
  refine St.mk' h.bl (fun o ho => ?_) (fun o ho => ?_) (List.pairwise_append.2 ⟨?_, Apart.pair.1 h.sep, fun a ha b hb => ?_⟩)
  · rcases List.mem_append.1 ho with ho | ho
    · exact (h1 o ho).2.2
    · exact h.holdsM ho
  · rcases List.mem_append.1 ho with ho | ho
    · rw [(h1 o ho).1]; simp
    · exact h.baseM ho
  · refine List.pairwise_iff_getElem.2 fun i j hi hj _ => Apart.quiet (h1 _ (List.getElem_mem hi)).1 (h1 _ (List.getElem_mem hj)).1
  · exact ⟨by rw [(h1 a ha).1]; simp, by rw [(h1 a ha).2.1]; simp⟩
end
theorem set_same {α : Type} {l : List α} {i : Nat} {x : α} (h : l[i]? = some x) : l.set i x = l := by
  apply List.ext_getElem?
  intro j
  rw [List.getElem?_set]
  split
  · rename_i e
    subst e
    rw [if_pos (List.getElem?_eq_some_iff.1 h).1, h]
  · rfl
set_option maxHeartbeats 8000000 in
section
variable {P : Program} {ops : Array Oper} {rest : List Oper} {o : Oper} {a : Act} {Q : Exit → Act → World → Prop} {α : Type} {e : Nat}
/-- One element appended to a row of one's own, told apart. (The element lies in a block of its own, just made.) -/
theorem step_append_two (d : Kd α) (hf : Flat d) {W : World} {K : Act → World → Prop} {E' : Prop} (hw : Region.wanted o (yielded ops a.tmps) = true) (s x : Operand) (t e : TypeId) (z : Value) (bytes : Nat)
    (ho : o.op = .call { callee := .builtin .append, args := #[s, x], argTypes := #[t, t] })
    (ht : P.underlying t = some (.slice e)) (hinfo : (P.info? e).map (fun i => (i.zero, i.size, i.bytes)) = some (some z, d.sz, bytes)) (hz : z.cells.size = d.sz) (hs0 : 0 < d.sz) (hb0 : 0 < bytes)
    (v : Value) (xs : List α) (p : α) (cs : List Value) (hs : a.eval s = v) (hx : a.eval x = .slice (some ⟨W.heap.size, 0, none⟩) 1 1) (hp : d.K W p cs)
    (HO : d.R e W 0 (fun _ => True) v xs) (hl : (xs.length + 1) * bytes ≤ 140737488355328)
    (h : ∀ v1 w1, d.R e w1 0 (fun _ => True) v1 (xs ++ [p]) → ((∃ g cap, v = .slice (some ⟨g, 0, none⟩) xs.length cap ∧ v1 = .slice (some ⟨g, 0, none⟩) (xs.length + 1) cap ∧ W.grownBy w1 (some g)) ∨
        (∃ g cap, W.heap.size ≤ g ∧ v1 = .slice (some ⟨g, 0, none⟩) (xs.length + 1) cap ∧ Below W.heap.size W w1)) → K (a.put o.dst v1) w1) :
    if Region.wanted o (yielded ops a.tmps) = true then Oper.wp P o a (W.alloc (.cells cs.toArray e)) K Q else E' := by
  obtain ⟨i0, hi, hzz⟩ := Option.map_eq_some_iff.1 hinfo
  simp only [Prod.mk.injEq] at hzz
  obtain ⟨hz0, hz1, hz2⟩ := hzz
  have hlen : xs.length + 1 ≤ 140737488355328 := Nat.le_trans (Nat.le_mul_of_pos_right _ hb0) hl
  obtain ⟨h0, inner, hown, hr⟩ := HO
  have hcl := d.K_len hp
  have hown' := hown.alloc (.cells cs.toArray e)
  obtain ⟨v1, w1, hrun, hown1, hcase⟩ := run_append_two (P := P) (W.alloc (.cells cs.toArray e)) 0 t o.type e i0 z d.sz bytes ht hi hz0 hz1 hz2 hz hs0 v xs.length inner hown' ⟨W.heap.size, 0, none⟩ 1 1 cs (by rw [hcl, Nat.one_mul]) (fun j u hu => by
    rw [add_plain, cell_of_row _ _ _ _ _ _ (heap_alloc_new W _)]
    simpa using hu) (d.K_one hp) (by omega) (by simp only [maxLen]; omega) hl (Nat.zero_le _)
  have hB : Below W.heap.size W (W.alloc (.cells cs.toArray e)) := Below.alloc (Below.refl _ _) (Nat.le_refl _) _
  have hK : ∀ x c, d.M W 0 (fun k => (fun _ => True) k ∧ some k ≠ v.ownBlock) x c → d.M w1 0 (fun k => (fun _ => True) k ∧ some k ≠ v1.ownBlock) x c := fun x c hm => hf W w1 0 _ x c (d.K_of_M hm)
  have hR : d.R e w1 0 (fun _ => True) v1 (xs ++ [p]) := by
    refine ⟨fun _ _ => trivial, inner ++ cs, ?_, ?_⟩
    · rw [List.length_append, List.length_singleton]; exact hown1
    · exact (hr.imp_ hK).snoc (hf W w1 0 _ p cs hp) hcl
  rw [if_pos hw]
  have hgo := h v1 w1 hR (by
    rcases hcase with ⟨g, cap, e1, e2, hg⟩ | ⟨cap, e2, hb⟩
    · refine .inl ⟨g, cap, e1, e2, ⟨hg.os, hg.tape, hg.output, Nat.le_trans (by simp) hg.size, fun k hk hne => ?_⟩⟩
      exact (hg.block k (by simp; omega) hne).trans (heap_alloc_old W _ hk)
    · exact .inr ⟨_, cap, by simp, e2, hB.trans (hb.mono (by simp))⟩)
  unfold Oper.wp execOp
  simp only [ho, resolve, invoke, builtin, Sem.run_bind, Sem.run_pure, Result.andThen_ok, List.map_toArray, List.map_cons, List.map_nil, hs, hx, hrun]
  exact hgo
/-- append(l, x), one element, to a list of one's own. -/
theorem step_append_St (d : Kd α) {hf : Flat d} {w0 W : World} {Γ : List Ob} {K : Act → World → Prop} {E' : Prop} (h : St w0 W Γ) (i : Nat) {v : Value} {xs : List α} (hi : Γ[i]? = some (obW d e hf v xs)) (hw : Region.wanted o (yielded ops a.tmps) = true) (s x : Operand) (t : TypeId) (z : Value) (bytes : Nat)
    (ho : o.op = .call { callee := .builtin .append, args := #[s, x], argTypes := #[t, t] })
    (ht : P.underlying t = some (.slice e)) (hinfo : (P.info? e).map (fun i => (i.zero, i.size, i.bytes)) = some (some z, d.sz, bytes)) (hz : z.cells.size = d.sz) (hs0 : 0 < d.sz) (hb0 : 0 < bytes)
    (p : α) (cs : List Value) (hs : a.eval s = v) (hx : a.eval x = .slice (some ⟨W.heap.size, 0, none⟩) 1 1) (hp : d.K W p cs) (hl : (xs.length + 1) * bytes ≤ 140737488355328)
    (hgo : ∀ v1 w1, Hid (Grew W w1 v v1 xs.length) → Hid (St w0 w1 (Γ.set i (obW d e hf v1 (xs ++ [p])))) → K (a.put o.dst v1) w1) :
    if Region.wanted o (yielded ops a.tmps) = true then Oper.wp P o a (W.alloc (.cells cs.toArray e)) K Q else E' :=
  step_append_two d hf hw s x t e z bytes ho ht hinfo hz hs0 hb0 v xs p cs hs hx hp (h.get i hi) hl fun v1 w1 hR hc => hgo v1 w1 hc (h.grewW i hi hR hc)
end
end Go.Proofs.YtdinkhhaomblcaaDoor.SL
