/- Lists that are kept while a copy of the header is appended to (the two may lie in one block), and families of objects. No condition. -/
import Derived.Test.YtffdjplhnbkgfaaDoorSX
import Derived.Deep.AppendLies
namespace Go.Proofs.YtffdjplhnbkgfaaDoor.SL
open Go.RowKit Go.Proofs.YtffdjplhnbkgfaaDoorW.PrintWords Go.Proofs.YtffdjplhnbkgfaaDoorW.PrintLast Go.Proofs.YtffdjplhnbkgfaaDoorW.PrintMore
section
variable {α : Type} {d : Kd α} {e : Nat} {w0 w w1 : World} {Γ : List Ob}
/-- The kept header's list l, and the longer value v, whose list begins with l. -/
structure Twin (d : Kd α) (e : Nat) (w : World) (A : Option Addr) (c : Nat) (l : List α) (v : Value) (l2 : List α) : Prop where
  rd : d.C w A l.length l
  cap : l.length ≤ c
  row : d.R e w 0 (fun _ => True) v l2
  pre : l2.take l.length = l
  one : ∀ a, A = some a → l ≠ [] → a.spot = none ∧ a.off = 0
/-- What an append of one element has done. -/
def Grew (w w1 : World) (v v1 : Value) (n : Nat) : Prop :=
  (∃ g cap, v = .slice (some ⟨g, 0, none⟩) n cap ∧ v1 = .slice (some ⟨g, 0, none⟩) (n + 1) cap ∧ w.grownBy w1 (some g)) ∨
    (∃ g cap, w.heap.size ≤ g ∧ v1 = .slice (some ⟨g, 0, none⟩) (n + 1) cap ∧ Below w.heap.size w w1)
theorem Grew.slice {v v1 : Value} {n : Nat} (h : Grew w w1 v v1 n) : ∃ A c, v1 = .slice (some A) (n + 1) c := by
  rcases h with ⟨g, cap, _, e, _⟩ | ⟨g, cap, _, e, _⟩ <;> exact ⟨_, _, e⟩
/-- Appending to the longer value leaves the kept list as it is. -/
theorem Twin.more (hf : Flat d) (hz : 0 < d.sz) {A : Option Addr} {c : Nat} {l : List α} {v v1 : Value} {l2 : List α} {p : α} (h : Twin d e w A c l v l2) (hR : d.R e w1 0 (fun _ => True) v1 (l2 ++ [p])) (hc : Grew w w1 v v1 l2.length) : Twin d e w1 A c l v1 (l2 ++ [p]) := by
  have hle : l.length ≤ l2.length := by rw [← h.pre, List.length_take]; omega
  have hpre : (l2 ++ [p]).take l.length = l := by rw [List.take_append_of_le_length hle]; exact h.pre
  refine ⟨?_, h.cap, hR, hpre, h.one⟩
  rcases hc with ⟨g, cap, e1, e2, hg⟩ | ⟨g, cap, hgs, e2, hb⟩
  · by_cases hl : l = []
    · subst hl
      exact ⟨rfl, by simp, fun hn => by simp at hn⟩
    · obtain ⟨ad, hA, _⟩ := h.rd.2.2 (List.length_pos_iff.2 hl)
      by_cases hgb : ad.block = g
      · obtain ⟨o1, o2⟩ := h.one ad hA hl
        have had : ad = ⟨g, 0, none⟩ := by
          cases ad
          simp only at o1 o2 hgb
          rw [o1, o2, hgb]
        subst e2
        have hC := (Kd.R_reads' hR).2.2
        have hT := Kd.C_take (m := l.length) hC (by rw [List.length_append]; omega)
        rw [hpre] at hT
        rw [hA, had]
        exact hT
      · exact C_same' hf h.rd (fun b hb => by
          have hb' : b ∈ blkOf A l := hb
          have hlt := C_lt' (d := d) hz h.rd b hb'
          unfold blkOf at hb'
          rw [if_neg hl, hA] at hb'
          obtain rfl : b = ad.block := by simpa using hb'
          exact hg.block _ hlt (fun e => hgb (Option.some.inj e)))
  · exact Kd.C_below h.rd hb
/-- The two as one object. -/
def obTw (d : Kd α) (e : Nat) (hf : Flat d) (hz : 0 < d.sz) (A : Option Addr) (c : Nat) (l : List α) (v : Value) (l2 : List α) : Ob where
  own := blkOf A l ++ v.ownBlock.toList
  all := blkOf A l ++ v.ownBlock.toList
  holds w := Twin d e w A c l v l2
  sub := fun _ h => h
  lt := fun w h b hb => by
    rcases List.mem_append.1 hb with hb | hb
    · exact C_lt' hz h.rd b hb
    · exact (obW d e hf v l2).lt w h.row b hb
  stab := fun w w' h hs => ⟨C_same' hf h.rd (fun b hb => hs b (List.mem_append.2 (.inl hb))), h.cap, (obW d e hf v l2).stab w w' h.row (fun b hb => hs b (List.mem_append.2 (.inr hb))), h.pre, h.one⟩
/-- A list of one's own is a twin of itself. -/
theorem Twin.of {A : Option Addr} {c : Nat} {l : List α} {n : Nat} (h : d.R e w 0 (fun _ => True) (.slice A n c) l) : Twin d e w A c l (.slice A n c) l := by
  obtain ⟨hn, hc, hC⟩ := Kd.R_reads' h
  refine ⟨hC, by omega, h, List.take_length, fun a hA hl => ?_⟩
  obtain ⟨inner, ho⟩ := Kd.R_own h
  obtain ⟨g, cap, hv, _, _⟩ := ho.form (List.length_pos_iff.2 hl)
  injection hv with h1 h2 h3
  rw [hA] at h1
  obtain rfl := Option.some.inj h1
  exact ⟨rfl, rfl⟩
/-- Known otherwise: the same memory. -/
theorem St.conv (h : St w0 w Γ) (i : Nat) {a : Ob} (hi : Γ[i]? = some a) (a' : Ob) (hh : a'.holds w) (ho : ∀ b ∈ a'.own, b ∈ a.own) (ha : ∀ b ∈ a'.all, b ∈ a.all) : St w0 w (Γ.set i a') := by
  have := h.upd i hi (.refl _ _) a' [] (fun o ho' => by obtain rfl := List.mem_singleton.1 ho'; exact hh) (fun o ho' b hb => by obtain rfl := List.mem_singleton.1 ho'; exact .inl (ho b hb))
    (fun o ho' b hb => by obtain rfl := List.mem_singleton.1 ho'; exact .inl (ha b hb)) (List.pairwise_singleton _ _)
  rwa [List.append_nil] at this
/-- A row of one's own becomes a pair of twins. -/
theorem St.toTw (h : St w0 w Γ) (hf : Flat d) (hz : 0 < d.sz) (i : Nat) {A : Option Addr} {n c : Nat} {l : List α} (hi : Γ[i]? = some (obW d e hf (.slice A n c) l)) : St w0 w (Γ.set i (obTw d e hf hz A c l (.slice A n c) l)) := by
  have hr : d.R e w 0 (fun _ => True) (.slice A n c) l := h.get i hi
  have key : ∀ b ∈ blkOf A l ++ (Value.slice A n c).ownBlock.toList, b ∈ (Value.slice A n c).ownBlock.toList := fun b hb => by
    rcases List.mem_append.1 hb with hb | hb
    · unfold blkOf at hb
      split at hb
      · cases hb
      · rename_i hl
        obtain ⟨inner, ho⟩ := Kd.R_own hr
        obtain ⟨g, cap, hv, _, _⟩ := ho.form (List.length_pos_iff.2 hl)
        injection hv with h1 h2 h3
        rw [h1] at hb ⊢
        simpa [Value.ownBlock] using hb
    · exact hb
  exact h.conv i hi _ (Twin.of hr) key key
theorem Touch.grew {S : List Nat} {v v1 : Value} {n : Nat} (h : Grew w w1 v v1 n) (hs : ∀ b ∈ v.ownBlock.toList, b ∈ S) : Touch S w w1 := by
  rcases h with ⟨g, cap, rfl, _, hg⟩ | ⟨_, _, _, _, hb⟩
  · exact Touch.grown (Touch.refl _ w) hg (fun k hk => .inl (hs k (by injection hk with hk; subst hk; simp [Value.ownBlock])))
  · exact .of_below hb
theorem Grew.own {v v1 : Value} {n : Nat} (h : Grew w w1 v v1 n) : ∀ b ∈ v1.ownBlock.toList, b ∈ v.ownBlock.toList ∨ w.heap.size ≤ b := by
  intro b hb
  rcases h with ⟨g, cap, rfl, rfl, _⟩ | ⟨g, cap, hgs, rfl, _⟩
  · exact .inl hb
  · obtain rfl : b = g := by simpa [Value.ownBlock] using hb
    exact .inr hgs
theorem St.twin (h : St w0 w Γ) {hf : Flat d} {hz : 0 < d.sz} (i : Nat) {A : Option Addr} {c : Nat} {l : List α} {v v1 : Value} {l2 : List α} {p : α} (hi : Γ[i]? = some (obTw d e hf hz A c l v l2)) (hR : d.R e w1 0 (fun _ => True) v1 (l2 ++ [p])) (hc : Grew w w1 v v1 l2.length) :
    St w0 w1 (Γ.set i (obTw d e hf hz A c l v1 (l2 ++ [p]))) := by
  have ht : Twin d e w A c l v l2 := h.get i hi
  have hT : SL.Touch (obTw d e hf hz A c l v l2).own w w1 := Touch.grew hc (fun b hb => List.mem_append.2 (.inr hb))
  have key : ∀ o ∈ [obTw d e hf hz A c l v1 (l2 ++ [p])], ∀ b ∈ o.all, b ∈ (obTw d e hf hz A c l v l2).own ∨ w.heap.size ≤ b := fun o ho b hb => by
    obtain rfl := List.mem_singleton.1 ho
    rcases List.mem_append.1 hb with hb | hb
    · exact .inl (List.mem_append.2 (.inl hb))
    · rcases hc.own b hb with hb | hb
      · exact .inl (List.mem_append.2 (.inr hb))
      · exact .inr hb
  have := h.upd i hi hT (obTw d e hf hz A c l v1 (l2 ++ [p])) [] (fun o ho => by obtain rfl := List.mem_singleton.1 ho; exact ht.more hf hz hR hc) (fun o ho b hb => key o ho b (o.sub b hb)) key (List.pairwise_singleton _ _)
  rwa [List.append_nil] at this
/-- One element appended to a row of one's own. -/
theorem St.grewW (h : St w0 w Γ) {hf : Flat d} (i : Nat) {v v1 : Value} {xs : List α} {p : α} (hi : Γ[i]? = some (obW d e hf v xs)) (hR : d.R e w1 0 (fun _ => True) v1 (xs ++ [p])) (hc : Grew w w1 v v1 xs.length) : St w0 w1 (Γ.set i (obW d e hf v1 (xs ++ [p]))) := by
  have hT : SL.Touch (obW d e hf v xs).own w w1 := Touch.grew hc (fun b hb => hb)
  have key : ∀ o ∈ [obW d e hf v1 (xs ++ [p])], ∀ b ∈ o.all, b ∈ (obW d e hf v xs).own ∨ w.heap.size ≤ b := fun o ho b hb => by
    obtain rfl := List.mem_singleton.1 ho
    exact hc.own b hb
  have := h.upd i hi hT (obW d e hf v1 (xs ++ [p])) [] (fun o ho => by obtain rfl := List.mem_singleton.1 ho; exact hR) (fun o ho b hb => key o ho b (o.sub b hb)) key (List.pairwise_singleton _ _)
  rwa [List.append_nil] at this
/-- An element of a row of one's own has been written. -/
theorem St.storeW (h : St w0 w Γ) {hf : Flat d} (i : Nat) {g n cap : Nat} {xs ys : List α} (hi : Γ[i]? = some (obW d e hf (.slice (some ⟨g, 0, none⟩) n cap) xs)) (hR : d.R e w1 0 (fun _ => True) (.slice (some ⟨g, 0, none⟩) n cap) ys) (hg : w.grownBy w1 (some g)) : St w0 w1 (Γ.set i (obW d e hf (.slice (some ⟨g, 0, none⟩) n cap) ys)) :=
  h.growW i hi hR (by simpa [Value.ownBlock] using hg) (.inl rfl)
/-- The cells of an element of a row of one's own. -/
theorem St.formW (h : St w0 w Γ) {hf : Flat d} (i : Nat) {v : Value} {xs : List α} (hi : Γ[i]? = some (obW d e hf v xs)) (hn : 0 < xs.length) : ∃ g cap, v = .slice (some ⟨g, 0, none⟩) xs.length cap ∧ xs.length ≤ cap := by
  obtain ⟨A, c, hv, hc, _⟩ := Kd.R_reads (h.get i hi)
  obtain ⟨inner, ho⟩ := Kd.R_own (h.get i hi)
  obtain ⟨g, cap, hv2, _, _⟩ := ho.form hn
  rw [hv2] at hv
  injection hv with _ _ h3
  exact ⟨g, cap, hv2, by omega⟩
/-- Those in front. -/
theorem St.front {Δ : List Ob} (h : St w0 w (Γ ++ Δ)) : St w0 w Γ := by
  have key : ∀ (i : Nat) (o : Ob), Γ[i]? = some o → (Γ ++ Δ)[i]? = some o := fun i o hi => by
    have := (List.getElem?_eq_some_iff.1 hi).1
    rw [List.getElem?_append_left this]; exact hi
  exact ⟨h.bl, fun i o hi => h.ok i o (key i o hi), fun i o hi => h.base i o (key i o hi), fun i j a b hij hi hj => h.sep i j a b hij (key i a hi) (key j b hj)⟩
/-- Objects of a family. -/
def fam (n : Nat) (f : Nat → Ob) : List Ob := (List.range n).map f
theorem fam_get {n i : Nat} (f : Nat → Ob) (h : i < n) : (fam n f)[i]? = some (f i) := by
  unfold fam
  rw [List.getElem?_map, List.getElem?_range h]
  rfl
theorem fam_len (n : Nat) (f : Nat → Ob) : (fam n f).length = n := by unfold fam; rw [List.length_map, List.length_range]
theorem fam_congr {n : Nat} {f g : Nat → Ob} (h : ∀ j, j < n → f j = g j) : fam n f = fam n g := by
  unfold fam
  exact List.map_congr_left (fun j hj => h j (List.mem_range.1 hj))
theorem fam_snoc (n : Nat) (f : Nat → Ob) : fam (n + 1) f = fam n f ++ [f n] := by
  unfold fam
  rw [List.range_succ, List.map_append]
  rfl
theorem fam_set {n i : Nat} {f g : Nat → Ob} {x : Ob} (h : ∀ j, j < n → g j = if j = i then x else f j) : (fam n f).set i x = fam n g := by
  apply List.ext_getElem?
  intro j
  rcases Nat.lt_or_ge j n with hj | hj
  · rw [fam_get g hj, h j hj, List.getElem?_set]
    by_cases c : i = j
    · subst c
      rw [if_pos rfl, if_pos rfl, if_pos (by rw [fam_len]; exact hj)]
    · rw [if_neg c, if_neg (fun e => c e.symm), fam_get f hj]
  · rw [List.getElem?_eq_none (by rw [List.length_set, fam_len]; exact hj), List.getElem?_eq_none (by rw [fam_len]; exact hj)]
theorem app_get (F : List Ob) {n i : Nat} (f : Nat → Ob) (h : i < n) : (F ++ fam n f)[F.length + i]? = some (f i) := by
  rw [List.getElem?_append_right (by omega), show F.length + i - F.length = i by omega]
  exact fam_get f h
theorem St.famSet {F : List Ob} {n i : Nat} {f g : Nat → Ob} {x : Ob} (h : St w0 w ((F ++ fam n f).set (F.length + i) x)) (hg : ∀ j, j < n → g j = if j = i then x else f j) : St w0 w (F ++ fam n g) := by
  rw [List.set_append_right _ _ (by omega), show F.length + i - F.length = i by omega, fam_set hg] at h
  exact h
theorem St.famEq {F : List Ob} {n : Nat} {f g : Nat → Ob} (h : St w0 w (F ++ fam n f)) (hg : ∀ j, j < n → f j = g j) : St w0 w (F ++ fam n g) := by
  rw [← fam_congr hg]; exact h
end
/-- Headers of lists, as elements of a list. -/
def kSl : Kd (Option Addr × Nat × Nat) := Kd.scalar (fun s => .slice s.1 s.2.1 s.2.2) (fun _ => rfl)
theorem flatSl : Flat kSl := fun _ _ _ _ _ _ h => h
theorem flatI (k : IntKind) : Flat (Kd.int k) := fun _ _ _ _ _ _ h => h
/-- A list written full, step by step. -/
def filled {α : Type} (m : α) (k : Nat) (l : List α) : List α := List.replicate k m ++ l.drop k
theorem filled_len {α : Type} (m : α) {k : Nat} {l : List α} (h : k ≤ l.length) : (filled m k l).length = l.length := by
  unfold filled; rw [List.length_append, List.length_replicate, List.length_drop]; omega
theorem filled_step {α : Type} (m : α) {k : Nat} {l : List α} (h : k < l.length) : (filled m k l).set k m = filled m (k + 1) l := by
  unfold filled
  rw [List.set_append_right _ _ (by rw [List.length_replicate]; omega), List.length_replicate, Nat.sub_self, List.drop_eq_getElem_cons h, List.set_cons_zero, List.replicate_succ', List.append_assoc]
  rfl
theorem filled_all {α : Type} (m : α) (l : List α) : filled m l.length l = List.replicate l.length m := by
  unfold filled; rw [List.drop_length, List.append_nil]
theorem filled_zero {α : Type} (m : α) (l : List α) : filled m 0 l = l := rfl
theorem rep_snoc {α : Type} (m : α) (k : Nat) : List.replicate k m ++ [m] = List.replicate (k + 1) m := (List.replicate_succ').symm
end Go.Proofs.YtffdjplhnbkgfaaDoor.SL
