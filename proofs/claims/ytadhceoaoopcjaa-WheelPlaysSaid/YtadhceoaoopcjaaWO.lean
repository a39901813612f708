/- A wheel as objects: its block, its map, its lists; objects taken together as one. No condition. -/
import Derived.Test.YtadhceoaoopcjaaMi
import Derived.Test.YtadhceoaoopcjaaWP
import Derived.Maps.OwnOps
namespace Go.Proofs.Ytadhceoaoopcjaa.SL
open Go.RowKit Go.Proofs.YtadhceoaoopcjaaW.PrintWords Go.Proofs.YtadhceoaoopcjaaW.PrintLast Go.Proofs.YtadhceoaoopcjaaW.PrintMore
/-- A kind whose cells are a function of the value. -/
def kF {α : Type} (n : Nat) (enc : α → List Value) (hl : ∀ x, (enc x).length = n) (h1 : ∀ x, ∀ u ∈ enc x, u.oneCell' = true) : Kd α where
  sz := n
  E := []
  K := fun _ x cs => cs = enc x
  M := fun _ _ _ x cs => cs = enc x
  K_len := fun h => by rw [h]; exact hl _
  K_one := fun h u hu => by rw [h] at hu; exact h1 _ u hu
  K_below := fun _ h => h
  K_of_M := fun h => h
  M_mono := fun _ h => h
  M_bound := fun h => h
  M_move := fun _ h => h
  M_lower := fun _ h => h
theorem flatF {α : Type} {n : Nat} {enc : α → List Value} {hl : ∀ x, (enc x).length = n} {h1 : ∀ x, ∀ u ∈ enc x, u.oneCell' = true} : Flat (kF n enc hl h1) := fun _ _ _ _ _ _ h => h
def dL (d : Du) : List Value := [.int .i64 d.id, .int .i64 d.t, .int .i64 d.x]
theorem dL_len (d : Du) : (dL d).length = 3 := rfl
theorem dL_one (d : Du) : ∀ u ∈ dL d, u.oneCell' = true := fun u hu => by
  unfold dL at hu
  simp only [List.mem_cons, List.not_mem_nil, or_false] at hu
  rcases hu with rfl | rfl | rfl <;> rfl
abbrev dV (d : Du) : Array Value := #[.int .i64 d.id, .int .i64 d.t, .int .i64 d.x]
abbrev kD : Kd Du := kF 3 dL dL_len dL_one
theorem flD : Flat kD := flatF
abbrev obD (v : Value) (l : List Du) : Ob := obW kD 36 flD v l
abbrev kI : Kd Int := Kd.int .i64
theorem flI : Flat kI := flatI .i64
/-! ### front and part -/
theorem St.front1 {w0 w : World} {Γ : List Ob} {x : Ob} (h : St w0 w (Γ ++ [x])) : St w0 w (x :: Γ) := h.perm (List.perm_append_singleton x Γ).symm
theorem St.sub {w0 w : World} {Γ Δ : List Ob} (h : St w0 w Γ) (hs : Δ.Sublist Γ) : St w0 w Δ := by
  refine ⟨h.bl, fun i o hi => ?_, fun i o hi => ?_, Apart.pair.2 ((Apart.pair.1 h.sep).sublist hs)⟩
  · obtain ⟨j, hj, he⟩ := List.getElem_of_mem (hs.subset (List.mem_of_getElem? hi))
    exact h.ok j o (by rw [List.getElem?_eq_getElem hj, he])
  · obtain ⟨j, hj, he⟩ := List.getElem_of_mem (hs.subset (List.mem_of_getElem? hi))
    exact h.base j o (by rw [List.getElem?_eq_getElem hj, he])
theorem St.boxF {w0 w : World} {Γ : List Ob} (h : St w0 w Γ) (cs : Array Value) (T : TypeId) : St w0 (w.alloc (.cells cs T)) (obB w.heap.size cs T :: Γ) := (h.box cs T).front1
/-- Objects taken together as one. -/
def obGrp (G : List Ob) : Ob where
  own := G.flatMap (·.own)
  all := G.flatMap (·.all)
  holds w := (∀ o ∈ G, o.holds w) ∧ G.Pairwise Apart
  sub := fun b hb => by
    obtain ⟨o, ho, hb⟩ := List.mem_flatMap.1 hb
    exact List.mem_flatMap.2 ⟨o, ho, o.sub b hb⟩
  lt := fun w h b hb => by
    obtain ⟨o, ho, hb⟩ := List.mem_flatMap.1 hb
    exact o.lt w (h.1 o ho) b hb
  stab := fun w w' h hs => ⟨fun o ho => o.stab w w' (h.1 o ho) fun b hb => hs b (List.mem_flatMap.2 ⟨o, ho, hb⟩), h.2⟩
theorem St.mk' {w0 w : World} {Γ : List Ob} (hb : Below w0.heap.size w0 w) (h1 : ∀ o ∈ Γ, o.holds w) (h2 : ∀ o ∈ Γ, ∀ b ∈ o.own, w0.heap.size ≤ b) (h3 : Γ.Pairwise Apart) : St w0 w Γ :=
  ⟨hb, fun _ o hi => h1 o (List.mem_of_getElem? hi), fun _ o hi => h2 o (List.mem_of_getElem? hi), Apart.pair.2 h3⟩
theorem St.holdsM {w0 w : World} {Γ : List Ob} (h : St w0 w Γ) {o : Ob} (ho : o ∈ Γ) : o.holds w := by
  obtain ⟨j, hj, he⟩ := List.getElem_of_mem ho
  exact h.ok j o (by rw [List.getElem?_eq_getElem hj, he])
theorem St.baseM {w0 w : World} {Γ : List Ob} (h : St w0 w Γ) {o : Ob} (ho : o ∈ Γ) : ∀ b ∈ o.own, w0.heap.size ≤ b := by
  obtain ⟨j, hj, he⟩ := List.getElem_of_mem ho
  exact h.base j o (by rw [List.getElem?_eq_getElem hj, he])
theorem St.ungrp {w0 w : World} {G Γ : List Ob} (h : St w0 w (obGrp G :: Γ)) : St w0 w (G ++ Γ) := by
  obtain ⟨g1, g2⟩ := (show (obGrp G).holds w from h.get 0 rfl)
  have hp := List.pairwise_cons.1 (Apart.pair.1 h.sep)
  refine St.mk' h.bl (fun o ho => ?_) (fun o ho => ?_) ?_
  · rcases List.mem_append.1 ho with ho | ho
    · exact g1 o ho
    · exact h.holdsM (List.mem_cons_of_mem _ ho)
  · rcases List.mem_append.1 ho with ho | ho
    · exact fun b hb => h.baseM List.mem_cons_self b (List.mem_flatMap.2 ⟨o, ho, hb⟩)
    · exact h.baseM (List.mem_cons_of_mem _ ho)
  · refine List.pairwise_append.2 ⟨g2, hp.2, fun a ha b hb => ?_⟩
    obtain ⟨q1, q2⟩ := hp.1 b hb
    exact ⟨fun x hx hxb => q1 x (List.mem_flatMap.2 ⟨a, ha, hx⟩) hxb, fun x hx hxa => q2 x hx (List.mem_flatMap.2 ⟨a, ha, hxa⟩)⟩
theorem St.grp {w0 w : World} {G Γ : List Ob} (h : St w0 w (G ++ Γ)) : St w0 w (obGrp G :: Γ) := by
  obtain ⟨p1, p2, p3⟩ := List.pairwise_append.1 (Apart.pair.1 h.sep)
  refine St.mk' h.bl (fun o ho => ?_) (fun o ho => ?_) (List.pairwise_cons.2 ⟨fun b hb => ⟨fun x hx hxb => ?_, fun x hx hxa => ?_⟩, p2⟩)
  · rcases List.mem_cons.1 ho with rfl | ho
    · exact ⟨fun o ho => h.holdsM (List.mem_append_left _ ho), p1⟩
    · exact h.holdsM (List.mem_append_right _ ho)
  · rcases List.mem_cons.1 ho with rfl | ho
    · intro b hb
      obtain ⟨o, ho, hb⟩ := List.mem_flatMap.1 hb
      exact h.baseM (List.mem_append_left _ ho) b hb
    · exact h.baseM (List.mem_append_right _ ho)
  · obtain ⟨a, ha, hx⟩ := List.mem_flatMap.1 hx
    exact (p3 a ha b hb).1 x hx hxb
  · obtain ⟨a, ha, hxa⟩ := List.mem_flatMap.1 hxa
    exact (p3 a ha b hb).2 x hx hxa
theorem perm_out {α : Type} : ∀ {l : List α} {i : Nat} {x : α}, l[i]? = some x → (x :: l.eraseIdx i).Perm l
  | [], _, _, h => by simp at h
  | y :: l, 0, x, h => by
    obtain rfl : y = x := by simpa using h
    exact List.Perm.refl _
  | y :: l, i + 1, x, h => by
    have ih := perm_out (l := l) (i := i) (x := x) (by simpa using h)
    rw [List.eraseIdx_cons_succ]
    exact (List.Perm.swap y x _).trans (List.Perm.cons y ih)
theorem perm_in {α : Type} : ∀ {l : List α} {i : Nat} {x y : α}, l[i]? = some x → (l.set i y).Perm (y :: l.eraseIdx i)
  | [], _, _, _, h => by simp at h
  | z :: l, 0, x, y, _ => by simp
  | z :: l, i + 1, x, y, h => by
    have ih := perm_in (l := l) (i := i) (x := x) (y := y) (by simpa using h)
    rw [List.set_cons_succ, List.eraseIdx_cons_succ]
    exact (List.Perm.cons z ih).trans (List.Perm.swap y z _)
theorem St.focus {w0 w : World} {Γ G : List Ob} (h : St w0 w Γ) {i : Nat} (hi : Γ[i]? = some (obGrp G)) : St w0 w (G ++ Γ.eraseIdx i) := (h.perm (perm_out hi)).ungrp
theorem St.unfocus {w0 w : World} {Γ G : List Ob} {x : Ob} {i : Nat} (hi : Γ[i]? = some x) (h : St w0 w (G ++ Γ.eraseIdx i)) : St w0 w (Γ.set i (obGrp G)) := h.grp.perm (perm_in hi)
/-! ### the wheel's block and map -/
def whV (now last : Int) (hs : List Hdr) (b : Nat) : Array Value := (.int .i64 now :: .int .i64 last :: (hs.map hv ++ [.map (some b)])).toArray
abbrev obH (p b : Nat) (now last : Int) (hs : List Hdr) : Ob := obB p (whV now last hs b) 64
def obMp (b : Nat) (M : Mp) : Ob where
  own := [b]
  all := [b]
  holds w := MpAt w b M
  sub := fun _ h => h
  lt := fun w h x hx => by obtain rfl := List.mem_singleton.1 hx; exact h.lt
  stab := fun w w' h hs => h.same (hs b (List.mem_singleton.2 rfl))
section
variable {w0 w : World} {Γ : List Ob} {p b : Nat} {now last : Int} {hs : List Hdr} {M : Mp}
theorem St.hNow (h : St w0 w Γ) (i : Nat) (hi : Γ[i]? = some (obH p b now last hs)) : w.cell? ⟨p, 0, none⟩ = some (.int .i64 now) := h.cellB i hi 0 rfl
theorem St.hLast (h : St w0 w Γ) (i : Nat) (hi : Γ[i]? = some (obH p b now last hs)) : w.cell? ⟨p, 1, none⟩ = some (.int .i64 last) := h.cellB i hi 1 rfl
theorem whV_at (now last : Int) (hs : List Hdr) (b j : Nat) (hj : j < hs.length) : (whV now last hs b)[2 + j]? = some (hv (hd hs j)) := by
  unfold whV
  rw [List.getElem?_toArray, show 2 + j = j + 1 + 1 by omega, List.getElem?_cons_succ, List.getElem?_cons_succ, List.getElem?_append_left (by simpa using hj)]
  simp [hd, List.getD_eq_getElem?_getD, hj]
theorem whV_map (now last : Int) (hs : List Hdr) (b : Nat) (hl : hs.length = 448) : (whV now last hs b)[450]? = some (.map (some b)) := by
  unfold whV
  rw [List.getElem?_toArray, show 450 = 448 + 1 + 1 by omega, List.getElem?_cons_succ, List.getElem?_cons_succ, List.getElem?_append_right (by simp [hl])]
  simp [hl]
theorem St.hAt (h : St w0 w Γ) (i : Nat) (hi : Γ[i]? = some (obH p b now last hs)) (j : Nat) (hj : j < hs.length) : w.cell? ⟨p, 2 + j, none⟩ = some (hv (hd hs j)) := h.cellB i hi _ (whV_at now last hs b j hj)
theorem St.hMap (h : St w0 w Γ) (i : Nat) (hi : Γ[i]? = some (obH p b now last hs)) (hl : hs.length = 448) : w.cell? ⟨p, 450, none⟩ = some (.map (some b)) := h.cellB i hi _ (whV_map now last hs b hl)
theorem whV_now (now last : Int) (hs : List Hdr) (b : Nat) (n : Int) : (whV now last hs b).setIfInBounds 0 (.int .i64 n) = whV n last hs b := by unfold whV; simp
theorem whV_last (now last : Int) (hs : List Hdr) (b : Nat) (n : Int) : (whV now last hs b).setIfInBounds 1 (.int .i64 n) = whV now n hs b := by unfold whV; simp
theorem whV_set (now last : Int) (hs : List Hdr) (b : Nat) (j : Nat) (hj : j < hs.length) (s : Hdr) : (whV now last hs b).setIfInBounds (2 + j) (hv s) = whV now last (hs.set j s) b := by
  unfold whV
  rw [show 2 + j = j + 1 + 1 by omega]
  simp only [List.setIfInBounds_toArray, List.set_cons_succ]
  rw [List.set_append_left _ _ (by simpa using hj), List.map_set]
theorem St.setNow (h : St w0 w Γ) (i : Nat) (hi : Γ[i]? = some (obH p b now last hs)) (n : Int) : St w0 (w.setCell ⟨p, 0, none⟩ (.int .i64 n)) (Γ.set i (obH p b n last hs)) := by
  have := h.setB i hi 0 (.int .i64 n)
  rwa [whV_now] at this
theorem St.setLast (h : St w0 w Γ) (i : Nat) (hi : Γ[i]? = some (obH p b now last hs)) (n : Int) : St w0 (w.setCell ⟨p, 1, none⟩ (.int .i64 n)) (Γ.set i (obH p b now n hs)) := by
  have := h.setB i hi 1 (.int .i64 n)
  rwa [whV_last] at this
theorem St.setAt (h : St w0 w Γ) (i : Nat) (hi : Γ[i]? = some (obH p b now last hs)) (j : Nat) (hj : j < hs.length) (s : Hdr) : St w0 (w.setCell ⟨p, 2 + j, none⟩ (hv s)) (Γ.set i (obH p b now last (hs.set j s))) := by
  have := h.setB i hi (2 + j) (hv s)
  rwa [whV_set _ _ _ _ _ hj] at this
theorem touch_setBlock (h : MpAt w b M) {es : Array MapEntry} {clock : Nat} : Touch [b] w (ChangeMaps.setBlock w b (.map es clock)) := by
  obtain ⟨es0, ck0, hb, _⟩ := h.ex
  refine ⟨rfl, rfl, rfl, by simp [ChangeMaps.setBlock], fun k hk hn => ?_⟩
  exact ChangeMaps.heap_setBlock_other hb _ (fun e => hn (List.mem_singleton.2 e))
theorem St.putMp (h : St w0 w Γ) (i : Nat) (hi : Γ[i]? = some (obMp b M)) {w' : World} {M' : Mp} (hM : MpAt w' b M') (ht : Touch [b] w w') : St w0 w' (Γ.set i (obMp b M')) := by
  have := h.upd i hi (show Touch (obMp b M).own w w' from ht) (obMp b M') [] (fun o ho => by obtain rfl := List.mem_singleton.1 ho; exact hM) (fun o ho x hx => by obtain rfl := List.mem_singleton.1 ho; exact .inl hx) (fun o ho x hx => by obtain rfl := List.mem_singleton.1 ho; exact .inl hx) (List.pairwise_singleton _ _)
  rwa [List.append_nil] at this
end
/-! ### the map's operations at the walk -/
section
variable {ops : Array Oper} {rest : List Oper} {o : Oper} {a : Act} {Q : Exit → Act → World → Prop} {w0 w : World} {Γ : List Ob} {b : Nat} {M : Mp}
theorem wpList_lookM (hg : o.guard = none) (m x : Operand) (ok : Bool) (hop : o.op = Op.lookup 60 m x ok) (hm : a.eval m = .map (some b)) (k : Int) (hx : a.eval x = .int .i64 k) (h : MpAt w b M)
    (hK : wpList Try.prog ops Q rest (a.put o.dst (if ok then .tuple #[beV ((lookM M k).getD 0), .bool (lookM M k).isSome] else beV ((lookM M k).getD 0))) w) : wpList Try.prog ops Q (o :: rest) a w := by
  refine wpList_plain hg fun K' hK' => ?_
  have hrun := run_lookM h k ok
  unfold Oper.wp
  simp only [execOp, hop, hm, hx, Sem.run_bind, hrun, Result.andThen_ok, Sem.run_pure]
  exact hK' _ _ hK
theorem St.putK (h : St w0 w Γ) (i : Nat) (hi : Γ[i]? = some (obMp b M)) (k v : Int) : ∃ w', (Instr.mapUpdate 60 (.map (some b)) (.int .i64 k) (.int .i64 v)).run Try.prog w = .ok () w' ∧ St w0 w' (Γ.set i (obMp b (putM M k v))) := by
  obtain ⟨es, ck, hrun, hM⟩ := run_putM (show MpAt w b M from h.get i hi) k v
  exact ⟨_, hrun, h.putMp i hi hM (touch_setBlock (show MpAt w b M from h.get i hi))⟩
theorem St.delK (h : St w0 w Γ) (i : Nat) (hi : Γ[i]? = some (obMp b M)) (k : Int) (ty : TypeId) : ∃ w', (Builtin.delete_ #[60, 3] ty #[.map (some b), .int .i64 k]).run Try.prog w = .ok (.tuple #[]) w' ∧ St w0 w' (Γ.set i (obMp b (delM M k))) := by
  obtain ⟨es, ck, hrun, hM⟩ := run_delM (show MpAt w b M from h.get i hi) k ty
  exact ⟨_, hrun, h.putMp i hi hM (touch_setBlock (show MpAt w b M from h.get i hi))⟩
theorem len_map (w : World) (b : Nat) (M : Mp) (h : MpAt w b M) (ty : TypeId) : (Builtin.len_ #[60] ty #[.map (some b)]).run Try.prog w = .ok (.int .i64 (M.length : Int)) w := by
  obtain ⟨es, clock, hb, he, _⟩ := h.ex
  have hlen : es.size = M.length := by
    have := congrArg List.length he
    simpa using this
  simp [Builtin.len_, run_underlying Try.underlying60, MapKept.run_getObj_map hb, Result.andThen, hlen]
  rfl
end
/-! ### the pairs of the timers -/
def prD (L : List Du) : Mp := L.map fun d => (d.id, d.t)
theorem pr_look (s : Wh) (id : Int) : lookM (prD s.L) id = (findW s id).map (·.t) := by
  unfold lookM findW prD
  induction s.L with
  | nil => rfl
  | cons d l ih =>
    rw [List.map_cons, List.find?_cons, List.find?_cons]
    by_cases e : id = d.id
    · rw [show isK id (d.id, d.t) = true from decide_eq_true e, show (d.id == id) = true by simp [e]]; rfl
    · rw [show isK id (d.id, d.t) = false from decide_eq_false e, show (d.id == id) = false by simpa using fun h : d.id = id => e h.symm]; exact ih
theorem pr_idx_none {L : List Du} {id : Int} (h : ∀ d ∈ L, d.id ≠ id) : idxM (prD L) id = none := by
  unfold idxM prD
  rw [List.findIdx?_eq_none_iff]
  intro x hx
  obtain ⟨d, hd, rfl⟩ := List.mem_map.1 hx
  exact decide_eq_false fun e => h d hd e.symm
theorem pr_put {L : List Du} {d : Du} (h : ∀ e ∈ L, e.id ≠ d.id) : putM (prD L) d.id d.t = prD (L ++ [d]) := by
  unfold putM
  rw [pr_idx_none h]
  unfold prD
  rw [List.map_append]; rfl
theorem pr_del : ∀ {L : List Du} (id : Int), (L.map (·.id)).Nodup → delM (prD L) id = prD (L.filter (notId id))
  | [], _, _ => rfl
  | d :: l, id, h => by
    rw [List.map_cons, List.nodup_cons] at h
    have ih := pr_del (L := l) id h.2
    unfold delM idxM prD at *
    rw [List.map_cons, List.findIdx?_cons]
    by_cases e : id = d.id
    · rw [show isK id (d.id, d.t) = true from decide_eq_true e, if_pos rfl]
      rw [List.filter_cons_of_neg (by unfold notId; simp [e]), List.filter_eq_self.2 fun x hx => ?_]
      · rfl
      · unfold notId
        have : x.id ≠ id := fun e2 => h.1 (List.mem_map.2 ⟨x, hx, e2.trans e⟩)
        simpa using this
    · rw [show isK id (d.id, d.t) = false from decide_eq_false e, List.filter_cons_of_pos (by unfold notId; simpa using fun h : d.id = id => e h.symm), List.map_cons]
      simp only [Bool.false_eq_true, if_false]
      cases hi : (l.map fun d => (d.id, d.t)).findIdx? (isK id) with
      | none => rw [hi] at ih; simp only at ih; rw [← ih]; rfl
      | some k => rw [hi] at ih; simp only at ih; rw [← ih]; rfl
end Go.Proofs.Ytadhceoaoopcjaa.SL
