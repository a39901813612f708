/- Families of lists, each one's own, with their headers: written full one after the other, then each one's copy lengthened. No condition. -/
import Derived.Test.YtffdjplhnbkgfaaDoorTs
namespace Go.Proofs.YtffdjplhnbkgfaaDoor.SL
open Go.RowKit Go.Proofs.YtffdjplhnbkgfaaDoorW.PrintWords Go.Proofs.YtffdjplhnbkgfaaDoorW.PrintLast Go.Proofs.YtffdjplhnbkgfaaDoorW.PrintMore
abbrev Hdr := Option Addr × Nat × Nat
abbrev hv (s : Hdr) : Value := .slice s.1 s.2.1 s.2.2
def hd (hs : List Hdr) (i : Nat) : Hdr := hs.getD i (none, 0, 0)
theorem hd_set (hs : List Hdr) (k j : Nat) (s : Hdr) (h : k < hs.length) : hd (hs.set k s) j = if j = k then s else hd hs j := by
  unfold hd
  rw [List.getD_eq_getElem?_getD, List.getD_eq_getElem?_getD, List.getElem?_set]
  by_cases c : k = j
  · subst c
    rw [if_pos rfl, if_pos rfl, if_pos h]
    rfl
  · rw [if_neg c, if_neg (fun e => c e.symm)]
theorem hd_snoc (vs : List Hdr) (v : Hdr) : hd (vs ++ [v]) vs.length = v := by
  unfold hd
  simp [List.getD_eq_getElem?_getD]
theorem hd_old (vs : List Hdr) (v : Hdr) (j : Nat) (h : j < vs.length) : hd (vs ++ [v]) j = hd vs j := by
  unfold hd
  simp [List.getD_eq_getElem?_getD, List.getElem?_append_left h]
section
variable {α : Type}
def mixL (l' l : List α) (m : Nat) : List α := l'.take m ++ l.drop m
theorem mixL_len {l' l : List α} (h : l'.length = l.length) (m : Nat) : (mixL l' l m).length = l.length := by
  unfold mixL
  rw [List.length_append, List.length_take, List.length_drop]
  omega
theorem mixL_step {l' l : List α} (h : l'.length = l.length) {m : Nat} (hm : m < l.length) {x : α} (hx : l'[m]? = some x) : (mixL l' l m).set m x = mixL l' l (m + 1) := by
  unfold mixL
  have e : (l'.take m).length = m := by rw [List.length_take]; omega
  have hx' : l'[m]'(by omega) = x := (List.getElem?_eq_some_iff.1 hx).2
  rw [List.set_append_right _ _ (by omega), e, Nat.sub_self, List.drop_eq_getElem_cons hm, List.set_cons_zero, List.take_succ_eq_append_getElem (by omega), List.append_assoc, hx']
  rfl
theorem mixL_all {l' l : List α} (h : l'.length = l.length) : mixL l' l l.length = l' := by
  unfold mixL
  rw [List.drop_length, List.append_nil, List.take_of_length_le (by omega)]
theorem mixL_zero (l' l : List α) : mixL l' l 0 = l := rfl
variable (d : Kd α) (e : Nat) (hf : Flat d) (hz : 0 < d.sz)
abbrev famL (hs : List Hdr) (c : Nat → List α) (j : Nat) : Ob := obW d e hf (hv (hd hs j)) (c j)
/-- The lists ahead of k are written. -/
def stC (c fc : Nat → List α) (k j : Nat) : List α := if j < k then fc j else c j
/-- While list k is written. -/
def flC (c fc : Nat → List α) (k m j : Nat) : List α := if j = k then mixL (fc k) (c k) m else stC c fc k j
theorem stC_zero (c fc : Nat → List α) (j : Nat) : stC c fc 0 j = c j := if_neg (by omega)
theorem flC_zero (c fc : Nat → List α) (k j : Nat) : stC c fc k j = flC c fc k 0 j := by
  unfold flC
  by_cases h : j = k
  · subst h
    rw [if_pos rfl, stC, if_neg (by omega)]
    rfl
  · rw [if_neg h]
theorem flC_at (c fc : Nat → List α) (k m : Nat) : flC c fc k m k = mixL (fc k) (c k) m := if_pos rfl
theorem flC_step (c fc : Nat → List α) (k m m' j : Nat) : flC c fc k m' j = if j = k then mixL (fc k) (c k) m' else flC c fc k m j := by
  unfold flC
  by_cases h : j = k
  · rw [if_pos h, if_pos h]
  · rw [if_neg h, if_neg h, if_neg h]
theorem flC_end (c fc : Nat → List α) (k j : Nat) (h : (fc k).length = (c k).length) : flC c fc k (c k).length j = stC c fc (k + 1) j := by
  unfold flC
  by_cases h2 : j = k
  · subst h2
    rw [if_pos rfl, stC, if_pos (by omega), mixL_all h]
  · rw [if_neg h2]
    unfold stC
    by_cases h3 : j < k
    · rw [if_pos h3, if_pos (by omega)]
    · rw [if_neg h3, if_neg (by omega)]
abbrev obP (s : Hdr) (l : List α) (v : Value) (l2 : List α) : Ob := obTw d e hf hz s.1 s.2.2 l v l2
/-- The longer copies ahead of k are there. -/
def twG (hs vs : List Hdr) (fc : Nat → List α) (mk : Nat → α) (E k j : Nat) : Ob :=
  if j < k then obP d e hf hz (hd hs j) (fc j) (hv (hd vs j)) (fc j ++ List.replicate E (mk j)) else obW d e hf (hv (hd hs j)) (fc j)
/-- While copy k is lengthened. -/
def twKG (hs vs : List Hdr) (fc : Nat → List α) (mk : Nat → α) (E k : Nat) (v : Hdr) (m j : Nat) : Ob :=
  if j = k then obP d e hf hz (hd hs j) (fc j) (hv v) (fc j ++ List.replicate m (mk j)) else twG d e hf hz hs vs fc mk E k j
variable {hs vs : List Hdr} {fc : Nat → List α} {mk : Nat → α} {E k : Nat}
theorem twG_zero (c : Nat → List α) (n j : Nat) (h : j < n) : famL d e hf hs (stC c fc n) j = twG d e hf hz hs vs fc mk E 0 j := by
  unfold twG
  rw [if_neg (by omega)]
  show obW _ _ _ _ _ = obW _ _ _ _ _
  rw [stC, if_pos h]
theorem twG_at : twG d e hf hz hs vs fc mk E k k = obW d e hf (hv (hd hs k)) (fc k) := if_neg (by omega)
theorem twG_old (j : Nat) (h : j < k) : twG d e hf hz hs vs fc mk E k j = obP d e hf hz (hd hs j) (fc j) (hv (hd vs j)) (fc j ++ List.replicate E (mk j)) := if_pos h
theorem twKG_start (j : Nat) : twKG d e hf hz hs vs fc mk E k (hd hs k) 0 j = if j = k then obP d e hf hz (hd hs k) (fc k) (hv (hd hs k)) (fc k) else twG d e hf hz hs vs fc mk E k j := by
  unfold twKG
  by_cases h : j = k
  · subst h
    rw [if_pos rfl, if_pos rfl, List.replicate_zero, List.append_nil]
  · rw [if_neg h, if_neg h]
theorem twKG_at (v : Hdr) (m : Nat) : twKG d e hf hz hs vs fc mk E k v m k = obP d e hf hz (hd hs k) (fc k) (hv v) (fc k ++ List.replicate m (mk k)) := if_pos rfl
theorem twKG_step (v v' : Hdr) (m j : Nat) : twKG d e hf hz hs vs fc mk E k v' (m + 1) j = if j = k then obP d e hf hz (hd hs k) (fc k) (hv v') ((fc k ++ List.replicate m (mk k)) ++ [mk k]) else twKG d e hf hz hs vs fc mk E k v m j := by
  unfold twKG
  by_cases h : j = k
  · subst h
    rw [if_pos rfl, if_pos rfl, List.append_assoc, rep_snoc]
  · rw [if_neg h, if_neg h, if_neg h]
theorem twKG_end {ws : List Hdr} (v : Hdr) (hk : hd ws k = v) (ho : ∀ j, j < k → hd ws j = hd vs j) (j : Nat) : twKG d e hf hz hs vs fc mk E k v E j = twG d e hf hz hs ws fc mk E (k + 1) j := by
  unfold twKG
  by_cases h : j = k
  · subst h
    rw [if_pos rfl, twG_old _ _ _ _ _ (by omega), hk]
  · rw [if_neg h]
    unfold twG
    by_cases h2 : j < k
    · rw [if_pos h2, if_pos (by omega), ho j h2]
    · rw [if_neg h2, if_neg (by omega)]
end
section
variable {w0 w : World} {Γ : List Ob}
theorem fam_at (F : List Ob) {n i : Nat} (f : Nat → Ob) (D : List Ob) (h : i < n) : (F ++ (fam n f ++ D))[F.length + i]? = some (f i) := by
  rw [← List.append_assoc, List.getElem?_append_left (by rw [List.length_append, fam_len]; omega)]
  exact app_get F f h
theorem St.famPut {F D : List Ob} {n i : Nat} {f g : Nat → Ob} {x : Ob} (h : St w0 w ((F ++ (fam n f ++ D)).set (F.length + i) x)) (hi : i < n) (hg : ∀ j, j < n → g j = if j = i then x else f j) : St w0 w (F ++ (fam n g ++ D)) := by
  rw [List.set_append_right _ _ (by omega), show F.length + i - F.length = i by omega, List.set_append_left _ _ (by rw [fam_len]; exact hi), fam_set hg] at h
  exact h
theorem St.famEq2 {F D : List Ob} {n : Nat} {f g : Nat → Ob} (h : St w0 w (F ++ (fam n f ++ D))) (hg : ∀ j, j < n → f j = g j) : St w0 w (F ++ (fam n g ++ D)) := by
  rw [← fam_congr hg]; exact h
/-- A block of headers. -/
abbrev obA (b : Nat) (ks : List Hdr) (T : TypeId) : Ob := obB b (ks.map hv).toArray T
theorem St.setB (h : St w0 w Γ) (i : Nat) {b : Nat} {cs : Array Value} {T : TypeId} (hi : Γ[i]? = some (obB b cs T)) (j : Nat) (u : Value) : St w0 (w.setCell ⟨b, j, none⟩ u) (Γ.set i (obB b (cs.setIfInBounds j u) T)) := by
  have hb : w.heap[b]? = some (.cells cs T (0, 0)) := h.get i hi
  have := h.upd i hi ((Touch.refl [b] w).setCell (p := ⟨b, j, none⟩) (.inl List.mem_cons_self) u) (obB b (cs.setIfInBounds j u) T) [] (fun o ho => by obtain rfl := List.mem_singleton.1 ho; exact blk_set hb j u)
    (fun o ho b' hb' => by obtain rfl := List.mem_singleton.1 ho; exact .inl hb') (fun o ho b' hb' => by obtain rfl := List.mem_singleton.1 ho; exact .inl hb') (List.pairwise_singleton _ _)
  rwa [List.append_nil] at this
theorem St.setA (h : St w0 w Γ) (i : Nat) {b : Nat} {ks : List Hdr} {T : TypeId} (hi : Γ[i]? = some (obA b ks T)) (j : Nat) (s : Hdr) : St w0 (w.setCell ⟨b, j, none⟩ (hv s)) (Γ.set i (obA b (ks.set j s) T)) := by
  have := h.setB i hi j (hv s)
  have e : (ks.map hv).toArray.setIfInBounds j (hv s) = ((ks.set j s).map hv).toArray := by
    simp [List.map_set]
  rwa [e] at this
theorem St.cellA (h : St w0 w Γ) (i : Nat) {b : Nat} {ks : List Hdr} {T : TypeId} (hi : Γ[i]? = some (obA b ks T)) (j : Nat) (hj : j < ks.length) : w.cell? ⟨b, j, none⟩ = some (hv (hd ks j)) ∧ w.frozen? ⟨b, j, none⟩ = false := by
  have hb : w.heap[b]? = some (.cells (ks.map hv).toArray T (0, 0)) := h.get i hi
  refine ⟨?_, blk_frozen hb j⟩
  rw [blk_cell hb j]
  simp [hd, List.getD_eq_getElem?_getD, hj]
end
end Go.Proofs.YtffdjplhnbkgfaaDoor.SL
