/- Lists that are kept while a copy of the header is appended to, stores and appends to lists that are objects, families of such lists. No condition but the sizes. -/
import Derived.Test.YtadhceoaoopcjaaSX
import Derived.Deep.AppendLies
import Derived.Lib.Hide
namespace Go.Proofs.Ytadhceoaoopcjaa.SL
open Go.RowKit Go.Proofs.YtadhceoaoopcjaaW.PrintWords Go.Proofs.YtadhceoaoopcjaaW.PrintLast Go.Proofs.YtadhceoaoopcjaaW.PrintMore
section
variable {α : Type} {d : Kd α} {e : Nat} {w0 w w1 : World} {Γ : List Ob}
/-- The kept header's list l, and the longer value v, whose list begins with l. -/
structure Twin (d : Kd α) (e : Nat) (w : World) (A : Option Addr) (c : Nat) (l : List α) (v : Value) (l2 : List α) : Prop where
  rd : d.C w A l.length l
  cap : l.length ≤ c
  row : d.R e w 0 (fun _ => True) v l2
  pre : l2.take l.length = l
  one : ∀ a, A = some a → l ≠ [] → a.spot = none ∧ a.off = 0
/-- What an append of one element has done. -/
def Grew (w w1 : World) (v v1 : Value) (n : Nat) : Prop :=
  (∃ g cap, v = .slice (some ⟨g, 0, none⟩) n cap ∧ v1 = .slice (some ⟨g, 0, none⟩) (n + 1) cap ∧ w.grownBy w1 (some g)) ∨
    (∃ g cap, w.heap.size ≤ g ∧ v1 = .slice (some ⟨g, 0, none⟩) (n + 1) cap ∧ Below w.heap.size w w1)
theorem Grew.slice {v v1 : Value} {n : Nat} (h : Grew w w1 v v1 n) : ∃ A c, v1 = .slice (some A) (n + 1) c := by
  rcases h with ⟨g, cap, _, e, _⟩ | ⟨g, cap, _, e, _⟩ <;> exact ⟨_, _, e⟩
/-- Appending to the longer value leaves the kept list as it is. -/
theorem Twin.more (hf : Flat d) (hz : 0 < d.sz) {A : Option Addr} {c : Nat} {l : List α} {v v1 : Value} {l2 : List α} {p : α} (h : Twin d e w A c l v l2) (hR : d.R e w1 0 (fun _ => True) v1 (l2 ++ [p])) (hc : Grew w w1 v v1 l2.length) : Twin d e w1 A c l v1 (l2 ++ [p]) := by
  have hle : l.length ≤ l2.length := by rw [← h.pre, List.length_take]; omega
  have hpre : (l2 ++ [p]).take l.length = l := by rw [List.take_append_of_le_length hle]; exact h.pre
  refine ⟨?_, h.cap, hR, hpre, h.one⟩
  rcases hc with ⟨g, cap, e1, e2, hg⟩ | ⟨g, cap, hgs, e2, hb⟩
  · by_cases hl : l = []
    · subst hl
      exact ⟨rfl, by simp, fun hn => by simp at hn⟩
    · obtain ⟨ad, hA, _⟩ := h.rd.2.2 (List.length_pos_iff.2 hl)
      by_cases hgb : ad.block = g
      · obtain ⟨o1, o2⟩ := h.one ad hA hl
        have had : ad = ⟨g, 0, none⟩ := by
          cases ad
          simp only at o1 o2 hgb
          rw [o1, o2, hgb]
        subst e2
        have hC := (Kd.R_reads' hR).2.2
        have hT := Kd.C_take (m := l.length) hC (by rw [List.length_append]; omega)
        rw [hpre] at hT
        rw [hA, had]
        exact hT
      · exact C_same' hf h.rd (fun b hb => by
          have hb' : b ∈ blkOf A l := hb
          have hlt := C_lt' (d := d) hz h.rd b hb'
          unfold blkOf at hb'
          rw [if_neg hl, hA] at hb'
          obtain rfl : b = ad.block := by simpa using hb'
          exact hg.block _ hlt (fun e => hgb (Option.some.inj e)))
  · exact Kd.C_below h.rd hb
/-- The two as one object. -/
def obTw (d : Kd α) (e : Nat) (hf : Flat d) (hz : 0 < d.sz) (A : Option Addr) (c : Nat) (l : List α) (v : Value) (l2 : List α) : Ob where
  own := blkOf A l ++ v.ownBlock.toList
  all := blkOf A l ++ v.ownBlock.toList
  holds w := Twin d e w A c l v l2
  sub := fun _ h => h
  lt := fun w h b hb => by
    rcases List.mem_append.1 hb with hb | hb
    · exact C_lt' hz h.rd b hb
    · exact (obW d e hf v l2).lt w h.row b hb
  stab := fun w w' h hs => ⟨C_same' hf h.rd (fun b hb => hs b (List.mem_append.2 (.inl hb))), h.cap, (obW d e hf v l2).stab w w' h.row (fun b hb => hs b (List.mem_append.2 (.inr hb))), h.pre, h.one⟩
/-- A list of one's own is a twin of itself. -/
theorem Twin.of {A : Option Addr} {c : Nat} {l : List α} {n : Nat} (h : d.R e w 0 (fun _ => True) (.slice A n c) l) : Twin d e w A c l (.slice A n c) l := by
  obtain ⟨hn, hc, hC⟩ := Kd.R_reads' h
  refine ⟨hC, by omega, h, List.take_length, fun a hA hl => ?_⟩
  obtain ⟨inner, ho⟩ := Kd.R_own h
  obtain ⟨g, cap, hv, _, _⟩ := ho.form (List.length_pos_iff.2 hl)
  injection hv with h1 h2 h3
  rw [hA] at h1
  obtain rfl := Option.some.inj h1
  exact ⟨rfl, rfl⟩
/-- Known otherwise: the same memory. -/
theorem St.conv (h : St w0 w Γ) (i : Nat) {a : Ob} (hi : Γ[i]? = some a) (a' : Ob) (hh : a'.holds w) (ho : ∀ b ∈ a'.own, b ∈ a.own) (ha : ∀ b ∈ a'.all, b ∈ a.all) : St w0 w (Γ.set i a') := by
  have := h.upd i hi (.refl _ _) a' [] (fun o ho' => by obtain rfl := List.mem_singleton.1 ho'; exact hh) (fun o ho' b hb => by obtain rfl := List.mem_singleton.1 ho'; exact .inl (ho b hb))
    (fun o ho' b hb => by obtain rfl := List.mem_singleton.1 ho'; exact .inl (ha b hb)) (List.pairwise_singleton _ _)
  rwa [List.append_nil] at this
/-- A row of one's own becomes a pair of twins. -/
theorem St.toTw (h : St w0 w Γ) (hf : Flat d) (hz : 0 < d.sz) (i : Nat) {A : Option Addr} {n c : Nat} {l : List α} (hi : Γ[i]? = some (obW d e hf (.slice A n c) l)) : St w0 w (Γ.set i (obTw d e hf hz A c l (.slice A n c) l)) := by
  have hr : d.R e w 0 (fun _ => True) (.slice A n c) l := h.get i hi
  have key : ∀ b ∈ blkOf A l ++ (Value.slice A n c).ownBlock.toList, b ∈ (Value.slice A n c).ownBlock.toList := fun b hb => by
    rcases List.mem_append.1 hb with hb | hb
    · unfold blkOf at hb
      split at hb
      · cases hb
      · rename_i hl
        obtain ⟨inner, ho⟩ := Kd.R_own hr
        obtain ⟨g, cap, hv, _, _⟩ := ho.form (List.length_pos_iff.2 hl)
        injection hv with h1 h2 h3
        rw [h1] at hb ⊢
        simpa [Value.ownBlock] using hb
    · exact hb
  exact h.conv i hi _ (Twin.of hr) key key
theorem Touch.grew {S : List Nat} {v v1 : Value} {n : Nat} (h : Grew w w1 v v1 n) (hs : ∀ b ∈ v.ownBlock.toList, b ∈ S) : Touch S w w1 := by
  rcases h with ⟨g, cap, rfl, _, hg⟩ | ⟨_, _, _, _, hb⟩
  · exact Touch.grown (Touch.refl _ w) hg (fun k hk => .inl (hs k (by injection hk with hk; subst hk; simp [Value.ownBlock])))
  · exact .of_below hb
theorem Grew.own {v v1 : Value} {n : Nat} (h : Grew w w1 v v1 n) : ∀ b ∈ v1.ownBlock.toList, b ∈ v.ownBlock.toList ∨ w.heap.size ≤ b := by
  intro b hb
  rcases h with ⟨g, cap, rfl, rfl, _⟩ | ⟨g, cap, hgs, rfl, _⟩
  · exact .inl hb
  · obtain rfl : b = g := by simpa [Value.ownBlock] using hb
    exact .inr hgs
theorem St.twin (h : St w0 w Γ) {hf : Flat d} {hz : 0 < d.sz} (i : Nat) {A : Option Addr} {c : Nat} {l : List α} {v v1 : Value} {l2 : List α} {p : α} (hi : Γ[i]? = some (obTw d e hf hz A c l v l2)) (hR : d.R e w1 0 (fun _ => True) v1 (l2 ++ [p])) (hc : Grew w w1 v v1 l2.length) :
    St w0 w1 (Γ.set i (obTw d e hf hz A c l v1 (l2 ++ [p]))) := by
  have ht : Twin d e w A c l v l2 := h.get i hi
  have hT : SL.Touch (obTw d e hf hz A c l v l2).own w w1 := Touch.grew hc (fun b hb => List.mem_append.2 (.inr hb))
  have key : ∀ o ∈ [obTw d e hf hz A c l v1 (l2 ++ [p])], ∀ b ∈ o.all, b ∈ (obTw d e hf hz A c l v l2).own ∨ w.heap.size ≤ b := fun o ho b hb => by
    obtain rfl := List.mem_singleton.1 ho
    rcases List.mem_append.1 hb with hb | hb
    · exact .inl (List.mem_append.2 (.inl hb))
    · rcases hc.own b hb with hb | hb
      · exact .inl (List.mem_append.2 (.inr hb))
      · exact .inr hb
  have := h.upd i hi hT (obTw d e hf hz A c l v1 (l2 ++ [p])) [] (fun o ho => by obtain rfl := List.mem_singleton.1 ho; exact ht.more hf hz hR hc) (fun o ho b hb => key o ho b (o.sub b hb)) key (List.pairwise_singleton _ _)
  rwa [List.append_nil] at this
/-- One element appended to a row of one's own. -/
theorem St.grewW (h : St w0 w Γ) {hf : Flat d} (i : Nat) {v v1 : Value} {xs : List α} {p : α} (hi : Γ[i]? = some (obW d e hf v xs)) (hR : d.R e w1 0 (fun _ => True) v1 (xs ++ [p])) (hc : Grew w w1 v v1 xs.length) : St w0 w1 (Γ.set i (obW d e hf v1 (xs ++ [p]))) := by
  have hT : SL.Touch (obW d e hf v xs).own w w1 := Touch.grew hc (fun b hb => hb)
  have key : ∀ o ∈ [obW d e hf v1 (xs ++ [p])], ∀ b ∈ o.all, b ∈ (obW d e hf v xs).own ∨ w.heap.size ≤ b := fun o ho b hb => by
    obtain rfl := List.mem_singleton.1 ho
    exact hc.own b hb
  have := h.upd i hi hT (obW d e hf v1 (xs ++ [p])) [] (fun o ho => by obtain rfl := List.mem_singleton.1 ho; exact hR) (fun o ho b hb => key o ho b (o.sub b hb)) key (List.pairwise_singleton _ _)
  rwa [List.append_nil] at this
/-- An element of a row of one's own has been written. -/
theorem St.storeW (h : St w0 w Γ) {hf : Flat d} (i : Nat) {g n cap : Nat} {xs ys : List α} (hi : Γ[i]? = some (obW d e hf (.slice (some ⟨g, 0, none⟩) n cap) xs)) (hR : d.R e w1 0 (fun _ => True) (.slice (some ⟨g, 0, none⟩) n cap) ys) (hg : w.grownBy w1 (some g)) : St w0 w1 (Γ.set i (obW d e hf (.slice (some ⟨g, 0, none⟩) n cap) ys)) :=
  h.growW i hi hR (by simpa [Value.ownBlock] using hg) (.inl rfl)
/-- The cells of an element of a row of one's own. -/
theorem St.formW (h : St w0 w Γ) {hf : Flat d} (i : Nat) {v : Value} {xs : List α} (hi : Γ[i]? = some (obW d e hf v xs)) (hn : 0 < xs.length) : ∃ g cap, v = .slice (some ⟨g, 0, none⟩) xs.length cap ∧ xs.length ≤ cap := by
  obtain ⟨A, c, hv, hc, _⟩ := Kd.R_reads (h.get i hi)
  obtain ⟨inner, ho⟩ := Kd.R_own (h.get i hi)
  obtain ⟨g, cap, hv2, _, _⟩ := ho.form hn
  rw [hv2] at hv
  injection hv with _ _ h3
  exact ⟨g, cap, hv2, by omega⟩
/-- Those in front. -/
theorem St.front {Δ : List Ob} (h : St w0 w (Γ ++ Δ)) : St w0 w Γ := by
  have key : ∀ (i : Nat) (o : Ob), Γ[i]? = some o → (Γ ++ Δ)[i]? = some o := fun i o hi => by
    have := (List.getElem?_eq_some_iff.1 hi).1
    rw [List.getElem?_append_left this]; exact hi
  exact ⟨h.bl, fun i o hi => h.ok i o (key i o hi), fun i o hi => h.base i o (key i o hi), fun i j a b hij hi hj => h.sep i j a b hij (key i a hi) (key j b hj)⟩
/-- Objects of a family. -/
def fam (n : Nat) (f : Nat → Ob) : List Ob := (List.range n).map f
theorem fam_get {n i : Nat} (f : Nat → Ob) (h : i < n) : (fam n f)[i]? = some (f i) := by
  unfold fam
  rw [List.getElem?_map, List.getElem?_range h]
  rfl
theorem fam_len (n : Nat) (f : Nat → Ob) : (fam n f).length = n := by unfold fam; rw [List.length_map, List.length_range]
theorem fam_congr {n : Nat} {f g : Nat → Ob} (h : ∀ j, j < n → f j = g j) : fam n f = fam n g := by
  unfold fam
  exact List.map_congr_left (fun j hj => h j (List.mem_range.1 hj))
theorem fam_snoc (n : Nat) (f : Nat → Ob) : fam (n + 1) f = fam n f ++ [f n] := by
  unfold fam
  rw [List.range_succ, List.map_append]
  rfl
theorem fam_set {n i : Nat} {f g : Nat → Ob} {x : Ob} (h : ∀ j, j < n → g j = if j = i then x else f j) : (fam n f).set i x = fam n g := by
  apply List.ext_getElem?
  intro j
  rcases Nat.lt_or_ge j n with hj | hj
  · rw [fam_get g hj, h j hj, List.getElem?_set]
    by_cases c : i = j
    · subst c
      rw [if_pos rfl, if_pos rfl, if_pos (by rw [fam_len]; exact hj)]
    · rw [if_neg c, if_neg (fun e => c e.symm), fam_get f hj]
  · rw [List.getElem?_eq_none (by rw [List.length_set, fam_len]; exact hj), List.getElem?_eq_none (by rw [fam_len]; exact hj)]
theorem app_get (F : List Ob) {n i : Nat} (f : Nat → Ob) (h : i < n) : (F ++ fam n f)[F.length + i]? = some (f i) := by
  rw [List.getElem?_append_right (by omega), show F.length + i - F.length = i by omega]
  exact fam_get f h
theorem St.famSet {F : List Ob} {n i : Nat} {f g : Nat → Ob} {x : Ob} (h : St w0 w ((F ++ fam n f).set (F.length + i) x)) (hg : ∀ j, j < n → g j = if j = i then x else f j) : St w0 w (F ++ fam n g) := by
  rw [List.set_append_right _ _ (by omega), show F.length + i - F.length = i by omega, fam_set hg] at h
  exact h
theorem St.famEq {F : List Ob} {n : Nat} {f g : Nat → Ob} (h : St w0 w (F ++ fam n f)) (hg : ∀ j, j < n → f j = g j) : St w0 w (F ++ fam n g) := by
  rw [← fam_congr hg]; exact h
end
/-- Headers of lists, as elements of a list. -/
def kSl : Kd (Option Addr × Nat × Nat) := Kd.scalar (fun s => .slice s.1 s.2.1 s.2.2) (fun _ => rfl)
theorem flatSl : Flat kSl := fun _ _ _ _ _ _ h => h
theorem flatI (k : IntKind) : Flat (Kd.int k) := fun _ _ _ _ _ _ h => h
/-- A list written full, step by step. -/
def filled {α : Type} (m : α) (k : Nat) (l : List α) : List α := List.replicate k m ++ l.drop k
theorem filled_len {α : Type} (m : α) {k : Nat} {l : List α} (h : k ≤ l.length) : (filled m k l).length = l.length := by
  unfold filled; rw [List.length_append, List.length_replicate, List.length_drop]; omega
theorem filled_step {α : Type} (m : α) {k : Nat} {l : List α} (h : k < l.length) : (filled m k l).set k m = filled m (k + 1) l := by
  unfold filled
  rw [List.set_append_right _ _ (by rw [List.length_replicate]; omega), List.length_replicate, Nat.sub_self, List.drop_eq_getElem_cons h, List.set_cons_zero, List.replicate_succ', List.append_assoc]
  rfl
theorem filled_all {α : Type} (m : α) (l : List α) : filled m l.length l = List.replicate l.length m := by
  unfold filled; rw [List.drop_length, List.append_nil]
theorem filled_zero {α : Type} (m : α) (l : List α) : filled m 0 l = l := rfl
theorem rep_snoc {α : Type} (m : α) (k : Nat) : List.replicate k m ++ [m] = List.replicate (k + 1) m := (List.replicate_succ').symm
end Go.Proofs.Ytadhceoaoopcjaa.SL
namespace Go.Proofs.Ytadhceoaoopcjaa.SL
open Go.RowKit Go.Proofs.YtadhceoaoopcjaaW.PrintWords Go.Proofs.YtadhceoaoopcjaaW.PrintLast Go.Proofs.YtadhceoaoopcjaaW.PrintMore
section
variable {P : Program} {ops : Array Oper} {rest : List Oper} {o : Oper} {a : Act} {Q : Exit → Act → World → Prop} {α : Type} {w0 W : World} {Γ : List Ob} {e : Nat}
theorem blw0 (w : World) : Below 0 w w := ⟨rfl, rfl, rfl, Nat.le_refl _, fun _ h => absurd h (Nat.not_lt_zero _)⟩
/-- l[k] = x: a whole element of a list of one's own is written. -/
theorem wpList_store_St (d : Kd α) {hf : Flat d} (h : St w0 W Γ) (i : Nat) {g n cap : Nat} {xs : List α} (hi : Γ[i]? = some (obW d e hf (.slice (some ⟨g, 0, none⟩) n cap) xs)) (hN : o.dst = none) (hgd : o.guard = none) (t : TypeId) (p x : Operand) (ho : o.op = .store t p x)
    (k : Int) (h0 : 0 ≤ k) (hk : k < n) (x' : α) (u : Value) (seg : List Value) (haddr : a.eval p = .pointer (some ⟨g, k.toNat * d.sz, none⟩)) (hx : a.eval x = u) (hu : u.cells.toList = seg) (ht : (P.info? t).map (·.size) = some seg.length) (hseg : seg.length = d.sz) (hK : d.K W x' seg)
    (hgo : ∀ w1, Hid (St w0 w1 (Γ.set i (obW d e hf (.slice (some ⟨g, 0, none⟩) n cap) (xs.set k.toNat x')))) → wpList P ops Q rest a w1) : wpList P ops Q (o :: rest) a W := by
  have hR : d.R e W 0 (fun _ => True) (.slice (some ⟨g, 0, none⟩) n cap) xs := h.get i hi
  have hn := (Kd.R_reads' hR).1
  obtain ⟨z, hz⟩ : ∃ z, xs[k.toNat]? = some z := ⟨xs[k.toNat]'(by omega), List.getElem?_eq_getElem (by omega)⟩
  obtain ⟨c, hcl, hM, hcc, _⟩ := Kd.R_elem hR z k h0 hk
  have hcs : c.take 0 ++ seg ++ c.drop (0 + seg.length) = seg := by
    rw [List.take_zero, List.nil_append, List.drop_eq_nil_of_le (by omega), List.append_nil]
  refine Kd.R_store d 0 hN hgd t p x ho e k 0 xs x' u seg c (fun _ => True) (fun _ => False) (w0 := W) haddr rfl hx hu ht (d.K_one hK) hR h0 hk hcl (fun j u hu => by have := hcc j u hu; exact this) (by omega) (by rw [hcs]; exact hf W W 0 _ x' seg hK) (fun _ h => h.elim) (blw0 W) ?_
  intro w1 hR1 _ hg
  exact hgo w1 (h.storeW i hi hR1 hg)
/-- append(l, x), one element, to a list of one's own. -/
theorem wpList_append_St (d : Kd α) {hf : Flat d} (h : St w0 W Γ) (i : Nat) {v : Value} {xs : List α} (hi : Γ[i]? = some (obW d e hf v xs)) (hgd : o.guard = none) (s x : Operand) (t : TypeId) (z : Value) (bytes : Nat)
    (ho : o.op = .call { callee := .builtin .append, args := #[s, x], argTypes := #[t, t] })
    (ht : P.underlying t = some (.slice e)) (hinfo : (P.info? e).map (fun i => (i.zero, i.size, i.bytes)) = some (some z, d.sz, bytes)) (hz : z.cells.size = d.sz) (hs0 : 0 < d.sz) (hb0 : 0 < bytes)
    (p : α) (cs : List Value) (hs : a.eval s = v) (hx : a.eval x = .slice (some ⟨W.heap.size, 0, none⟩) 1 1) (hp : d.K W p cs) (hl : (xs.length + 1) * bytes ≤ 140737488355328)
    (hgo : ∀ v1 w1, Hid (Grew W w1 v v1 xs.length) → Hid (St w0 w1 (Γ.set i (obW d e hf v1 (xs ++ [p])))) → wpList P ops Q rest (a.put o.dst v1) w1) :
    wpList P ops Q (o :: rest) a (W.alloc (.cells cs.toArray e)) :=
  wpList_append_two d hf hgd s x t e z bytes ho ht hinfo hz hs0 hb0 v xs p cs hs hx hp (h.get i hi) hl fun v1 w1 hR hc => hgo v1 w1 hc (h.grewW i hi hR hc)
/-- append(x, y), x the longer of two twins. -/
theorem wpList_append_Tw (d : Kd α) {hf : Flat d} {hsz : 0 < d.sz} (h : St w0 W Γ) (i : Nat) {A : Option Addr} {c : Nat} {l : List α} {v : Value} {xs : List α} (hi : Γ[i]? = some (obTw d e hf hsz A c l v xs)) (hgd : o.guard = none) (s x : Operand) (t : TypeId) (z : Value) (bytes : Nat)
    (ho : o.op = .call { callee := .builtin .append, args := #[s, x], argTypes := #[t, t] })
    (ht : P.underlying t = some (.slice e)) (hinfo : (P.info? e).map (fun i => (i.zero, i.size, i.bytes)) = some (some z, d.sz, bytes)) (hz : z.cells.size = d.sz) (hb0 : 0 < bytes)
    (p : α) (cs : List Value) (hs : a.eval s = v) (hx : a.eval x = .slice (some ⟨W.heap.size, 0, none⟩) 1 1) (hp : d.K W p cs) (hl : (xs.length + 1) * bytes ≤ 140737488355328)
    (hgo : ∀ v1 w1, Hid (Grew W w1 v v1 xs.length) → Hid (St w0 w1 (Γ.set i (obTw d e hf hsz A c l v1 (xs ++ [p])))) → wpList P ops Q rest (a.put o.dst v1) w1) :
    wpList P ops Q (o :: rest) a (W.alloc (.cells cs.toArray e)) :=
  wpList_append_two d hf hgd s x t e z bytes ho ht hinfo hz hsz hb0 v xs p cs hs hx hp (show Twin d e W A c l v xs from h.get i hi).row hl fun v1 w1 hR hc => hgo v1 w1 hc (h.twin i hi hR hc)
/-- append(l, ys...) to a list of one's own. -/
theorem wpList_append_rows_St (d : Kd α) {hf : Flat d} (h : St w0 W Γ) (i : Nat) {v : Value} {xs : List α} (hi : Γ[i]? = some (obW d e hf v xs)) (hgd : o.guard = none) (s x : Operand) (t : TypeId) (z : Value) (bytes : Nat)
    (ho : o.op = .call { callee := .builtin .append, args := #[s, x], argTypes := #[t, t] })
    (ht : P.underlying t = some (.slice e)) (hinfo : (P.info? e).map (fun i => (i.zero, i.size, i.bytes)) = some (some z, d.sz, bytes)) (hz : z.cells.size = d.sz) (hs0 : 0 < d.sz) (hb0 : 0 < bytes)
    (ys : List α) (A : Option Addr) (m c : Nat) (hs : a.eval s = v) (hx : a.eval x = .slice A m c) (HR : d.C W A m ys) (hl : (xs.length + m) * bytes ≤ 140737488355328)
    (hgo : ∀ v1 w1, Hid (∃ B c, v1 = .slice B (xs ++ ys).length c) → Hid (St w0 w1 (Γ.set i (obW d e hf v1 (xs ++ ys)))) → wpList P ops Q rest (a.put o.dst v1) w1) :
    wpList P ops Q (o :: rest) a W :=
  Kd.R_append_rows d (Rr := d.K W) 0 (w0 := W) hgd s x t e z bytes ho ht hinfo hz hs0 hb0 v xs ys A m c (fun _ => True) (fun _ => False) hs hx (h.get i hi) HR (fun x cs hk => hf W W 0 _ x cs hk) (fun _ h => h.elim) (fun _ _ => trivial) (blw0 W) (Nat.zero_le _) hl
    fun v1 w1 hR _ hg hat => hgo v1 w1 (Kd.R_slice hR) (h.growW i hi hR hg hat)
/-- append(T(nil), ys...): a copy. -/
theorem wpList_append_new_St (d : Kd α) (hf : Flat d) (h : St w0 W Γ) (hgd : o.guard = none) (s x : Operand) (t : TypeId) (z : Value) (bytes : Nat)
    (ho : o.op = .call { callee := .builtin .append, args := #[s, x], argTypes := #[t, t] })
    (ht : P.underlying t = some (.slice e)) (hinfo : (P.info? e).map (fun i => (i.zero, i.size, i.bytes)) = some (some z, d.sz, bytes)) (hz : z.cells.size = d.sz) (hs0 : 0 < d.sz) (hb0 : 0 < bytes)
    (ys : List α) (A : Option Addr) (m c : Nat) (hs : a.eval s = .slice none 0 0) (hx : a.eval x = .slice A m c) (HR : d.C W A m ys) (hl : m * bytes ≤ 140737488355328)
    (hgo : ∀ v1 w1, Hid (∃ B c, v1 = .slice B ys.length c) → Hid (St w0 w1 (Γ ++ [obW d e hf v1 ys])) → wpList P ops Q rest (a.put o.dst v1) w1) :
    wpList P ops Q (o :: rest) a W :=
  Kd.R_append_rows d (Rr := d.K W) W.heap.size (w0 := W) hgd s x t e z bytes ho ht hinfo hz hs0 hb0 (.slice none 0 0) [] ys A m c (fun _ => True) (fun _ => False) hs hx (Kd.R_nil _ _ _ _ _) HR (fun x cs hk => hf W W _ _ x cs hk) (fun _ h => h.elim) (fun _ _ => trivial) (Below.refl _ _) (Nat.le_refl _) (by simpa using hl)
    fun v1 w1 hR hb _ _ => hgo v1 w1 (Kd.R_slice (by simpa using hR)) (h.addW hf hb (by simpa using hR))
end
end Go.Proofs.Ytadhceoaoopcjaa.SL
namespace Go.Proofs.Ytadhceoaoopcjaa.SL
open Go.RowKit Go.Proofs.YtadhceoaoopcjaaW.PrintWords Go.Proofs.YtadhceoaoopcjaaW.PrintLast Go.Proofs.YtadhceoaoopcjaaW.PrintMore
abbrev Hdr := Option Addr × Nat × Nat
abbrev hv (s : Hdr) : Value := .slice s.1 s.2.1 s.2.2
def hd (hs : List Hdr) (i : Nat) : Hdr := hs.getD i (none, 0, 0)
theorem hd_set (hs : List Hdr) (k j : Nat) (s : Hdr) (h : k < hs.length) : hd (hs.set k s) j = if j = k then s else hd hs j := by
  unfold hd
  rw [List.getD_eq_getElem?_getD, List.getD_eq_getElem?_getD, List.getElem?_set]
  by_cases c : k = j
  · subst c
    rw [if_pos rfl, if_pos rfl, if_pos h]
    rfl
  · rw [if_neg c, if_neg (fun e => c e.symm)]
theorem hd_snoc (vs : List Hdr) (v : Hdr) : hd (vs ++ [v]) vs.length = v := by
  unfold hd
  simp [List.getD_eq_getElem?_getD]
theorem hd_old (vs : List Hdr) (v : Hdr) (j : Nat) (h : j < vs.length) : hd (vs ++ [v]) j = hd vs j := by
  unfold hd
  simp [List.getD_eq_getElem?_getD, List.getElem?_append_left h]
section
variable {α : Type}
def mixL (l' l : List α) (m : Nat) : List α := l'.take m ++ l.drop m
theorem mixL_len {l' l : List α} (h : l'.length = l.length) (m : Nat) : (mixL l' l m).length = l.length := by
  unfold mixL
  rw [List.length_append, List.length_take, List.length_drop]
  omega
theorem mixL_step {l' l : List α} (h : l'.length = l.length) {m : Nat} (hm : m < l.length) {x : α} (hx : l'[m]? = some x) : (mixL l' l m).set m x = mixL l' l (m + 1) := by
  unfold mixL
  have e : (l'.take m).length = m := by rw [List.length_take]; omega
  have hx' : l'[m]'(by omega) = x := (List.getElem?_eq_some_iff.1 hx).2
  rw [List.set_append_right _ _ (by omega), e, Nat.sub_self, List.drop_eq_getElem_cons hm, List.set_cons_zero, List.take_succ_eq_append_getElem (by omega), List.append_assoc, hx']
  rfl
theorem mixL_all {l' l : List α} (h : l'.length = l.length) : mixL l' l l.length = l' := by
  unfold mixL
  rw [List.drop_length, List.append_nil, List.take_of_length_le (by omega)]
theorem mixL_zero (l' l : List α) : mixL l' l 0 = l := rfl
variable (d : Kd α) (e : Nat) (hf : Flat d) (hz : 0 < d.sz)
abbrev famL (hs : List Hdr) (c : Nat → List α) (j : Nat) : Ob := obW d e hf (hv (hd hs j)) (c j)
/-- The lists ahead of k are written. -/
def stC (c fc : Nat → List α) (k j : Nat) : List α := if j < k then fc j else c j
/-- While list k is written. -/
def flC (c fc : Nat → List α) (k m j : Nat) : List α := if j = k then mixL (fc k) (c k) m else stC c fc k j
theorem stC_zero (c fc : Nat → List α) (j : Nat) : stC c fc 0 j = c j := if_neg (by omega)
theorem flC_zero (c fc : Nat → List α) (k j : Nat) : stC c fc k j = flC c fc k 0 j := by
  unfold flC
  by_cases h : j = k
  · subst h
    rw [if_pos rfl, stC, if_neg (by omega)]
    rfl
  · rw [if_neg h]
theorem flC_at (c fc : Nat → List α) (k m : Nat) : flC c fc k m k = mixL (fc k) (c k) m := if_pos rfl
theorem flC_step (c fc : Nat → List α) (k m m' j : Nat) : flC c fc k m' j = if j = k then mixL (fc k) (c k) m' else flC c fc k m j := by
  unfold flC
  by_cases h : j = k
  · rw [if_pos h, if_pos h]
  · rw [if_neg h, if_neg h, if_neg h]
theorem flC_end (c fc : Nat → List α) (k j : Nat) (h : (fc k).length = (c k).length) : flC c fc k (c k).length j = stC c fc (k + 1) j := by
  unfold flC
  by_cases h2 : j = k
  · subst h2
    rw [if_pos rfl, stC, if_pos (by omega), mixL_all h]
  · rw [if_neg h2]
    unfold stC
    by_cases h3 : j < k
    · rw [if_pos h3, if_pos (by omega)]
    · rw [if_neg h3, if_neg (by omega)]
abbrev obP (s : Hdr) (l : List α) (v : Value) (l2 : List α) : Ob := obTw d e hf hz s.1 s.2.2 l v l2
/-- The longer copies ahead of k are there. -/
def twG (hs vs : List Hdr) (fc : Nat → List α) (mk : Nat → α) (E k j : Nat) : Ob :=
  if j < k then obP d e hf hz (hd hs j) (fc j) (hv (hd vs j)) (fc j ++ List.replicate E (mk j)) else obW d e hf (hv (hd hs j)) (fc j)
/-- While copy k is lengthened. -/
def twKG (hs vs : List Hdr) (fc : Nat → List α) (mk : Nat → α) (E k : Nat) (v : Hdr) (m j : Nat) : Ob :=
  if j = k then obP d e hf hz (hd hs j) (fc j) (hv v) (fc j ++ List.replicate m (mk j)) else twG d e hf hz hs vs fc mk E k j
variable {hs vs : List Hdr} {fc : Nat → List α} {mk : Nat → α} {E k : Nat}
theorem twG_zero (c : Nat → List α) (n j : Nat) (h : j < n) : famL d e hf hs (stC c fc n) j = twG d e hf hz hs vs fc mk E 0 j := by
  unfold twG
  rw [if_neg (by omega)]
  show obW _ _ _ _ _ = obW _ _ _ _ _
  rw [stC, if_pos h]
theorem twG_at : twG d e hf hz hs vs fc mk E k k = obW d e hf (hv (hd hs k)) (fc k) := if_neg (by omega)
theorem twG_old (j : Nat) (h : j < k) : twG d e hf hz hs vs fc mk E k j = obP d e hf hz (hd hs j) (fc j) (hv (hd vs j)) (fc j ++ List.replicate E (mk j)) := if_pos h
theorem twKG_start (j : Nat) : twKG d e hf hz hs vs fc mk E k (hd hs k) 0 j = if j = k then obP d e hf hz (hd hs k) (fc k) (hv (hd hs k)) (fc k) else twG d e hf hz hs vs fc mk E k j := by
  unfold twKG
  by_cases h : j = k
  · subst h
    rw [if_pos rfl, if_pos rfl, List.replicate_zero, List.append_nil]
  · rw [if_neg h, if_neg h]
theorem twKG_at (v : Hdr) (m : Nat) : twKG d e hf hz hs vs fc mk E k v m k = obP d e hf hz (hd hs k) (fc k) (hv v) (fc k ++ List.replicate m (mk k)) := if_pos rfl
theorem twKG_step (v v' : Hdr) (m j : Nat) : twKG d e hf hz hs vs fc mk E k v' (m + 1) j = if j = k then obP d e hf hz (hd hs k) (fc k) (hv v') ((fc k ++ List.replicate m (mk k)) ++ [mk k]) else twKG d e hf hz hs vs fc mk E k v m j := by
  unfold twKG
  by_cases h : j = k
  · subst h
    rw [if_pos rfl, if_pos rfl, List.append_assoc, rep_snoc]
  · rw [if_neg h, if_neg h, if_neg h]
theorem twKG_end {ws : List Hdr} (v : Hdr) (hk : hd ws k = v) (ho : ∀ j, j < k → hd ws j = hd vs j) (j : Nat) : twKG d e hf hz hs vs fc mk E k v E j = twG d e hf hz hs ws fc mk E (k + 1) j := by
  unfold twKG
  by_cases h : j = k
  · subst h
    rw [if_pos rfl, twG_old _ _ _ _ _ (by omega), hk]
  · rw [if_neg h]
    unfold twG
    by_cases h2 : j < k
    · rw [if_pos h2, if_pos (by omega), ho j h2]
    · rw [if_neg h2, if_neg (by omega)]
end
section
variable {w0 w : World} {Γ : List Ob}
theorem fam_at (F : List Ob) {n i : Nat} (f : Nat → Ob) (D : List Ob) (h : i < n) : (F ++ (fam n f ++ D))[F.length + i]? = some (f i) := by
  rw [← List.append_assoc, List.getElem?_append_left (by rw [List.length_append, fam_len]; omega)]
  exact app_get F f h
theorem St.famPut {F D : List Ob} {n i : Nat} {f g : Nat → Ob} {x : Ob} (h : St w0 w ((F ++ (fam n f ++ D)).set (F.length + i) x)) (hi : i < n) (hg : ∀ j, j < n → g j = if j = i then x else f j) : St w0 w (F ++ (fam n g ++ D)) := by
  rw [List.set_append_right _ _ (by omega), show F.length + i - F.length = i by omega, List.set_append_left _ _ (by rw [fam_len]; exact hi), fam_set hg] at h
  exact h
theorem St.famEq2 {F D : List Ob} {n : Nat} {f g : Nat → Ob} (h : St w0 w (F ++ (fam n f ++ D))) (hg : ∀ j, j < n → f j = g j) : St w0 w (F ++ (fam n g ++ D)) := by
  rw [← fam_congr hg]; exact h
/-- A block of headers. -/
abbrev obA (b : Nat) (ks : List Hdr) (T : TypeId) : Ob := obB b (ks.map hv).toArray T
theorem St.setB (h : St w0 w Γ) (i : Nat) {b : Nat} {cs : Array Value} {T : TypeId} (hi : Γ[i]? = some (obB b cs T)) (j : Nat) (u : Value) : St w0 (w.setCell ⟨b, j, none⟩ u) (Γ.set i (obB b (cs.setIfInBounds j u) T)) := by
  have hb : w.heap[b]? = some (.cells cs T (0, 0)) := h.get i hi
  have := h.upd i hi ((Touch.refl [b] w).setCell (p := ⟨b, j, none⟩) (.inl List.mem_cons_self) u) (obB b (cs.setIfInBounds j u) T) [] (fun o ho => by obtain rfl := List.mem_singleton.1 ho; exact blk_set hb j u)
    (fun o ho b' hb' => by obtain rfl := List.mem_singleton.1 ho; exact .inl hb') (fun o ho b' hb' => by obtain rfl := List.mem_singleton.1 ho; exact .inl hb') (List.pairwise_singleton _ _)
  rwa [List.append_nil] at this
theorem St.setA (h : St w0 w Γ) (i : Nat) {b : Nat} {ks : List Hdr} {T : TypeId} (hi : Γ[i]? = some (obA b ks T)) (j : Nat) (s : Hdr) : St w0 (w.setCell ⟨b, j, none⟩ (hv s)) (Γ.set i (obA b (ks.set j s) T)) := by
  have := h.setB i hi j (hv s)
  have e : (ks.map hv).toArray.setIfInBounds j (hv s) = ((ks.set j s).map hv).toArray := by
    simp [List.map_set]
  rwa [e] at this
theorem St.cellA (h : St w0 w Γ) (i : Nat) {b : Nat} {ks : List Hdr} {T : TypeId} (hi : Γ[i]? = some (obA b ks T)) (j : Nat) (hj : j < ks.length) : w.cell? ⟨b, j, none⟩ = some (hv (hd ks j)) ∧ w.frozen? ⟨b, j, none⟩ = false := by
  have hb : w.heap[b]? = some (.cells (ks.map hv).toArray T (0, 0)) := h.get i hi
  refine ⟨?_, blk_frozen hb j⟩
  rw [blk_cell hb j]
  simp [hd, List.getD_eq_getElem?_getD, hj]
end
end Go.Proofs.Ytadhceoaoopcjaa.SL
