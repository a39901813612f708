/- Rows of elements as objects: one that is read, one that is written to. No condition. -/
import Derived.Test.YtadhceoaoopcjaaWWords
import Derived.Test.YtadhceoaoopcjaaWLast
import Derived.Test.YtadhceoaoopcjaaWMore
import Derived.Test.YtadhceoaoopcjaaSL
namespace Go.Proofs.Ytadhceoaoopcjaa.SL
open Go.RowKit Go.Proofs.YtadhceoaoopcjaaW.PrintWords Go.Proofs.YtadhceoaoopcjaaW.PrintLast Go.Proofs.YtadhceoaoopcjaaW.PrintMore

/-- A kind whose cells say all: nothing else in memory is meant. -/
def Flat {α : Type} (d : Kd α) : Prop := ∀ (w w' : World) (base : Nat) (ok : Nat → Prop) (x : α) (cs : List Value), d.K w x cs → d.M w' base ok x cs
section
variable {α : Type} {d : Kd α} {e : Nat} {w0 w w1 : World} {Γ : List Ob}
theorem Flat.KK (hf : Flat d) {w w' : World} {x : α} {cs : List Value} (h : d.K w x cs) : d.K w' x cs := d.K_of_M (hf w w' 0 (fun _ => True) x cs h)
def blkOf (A : Option Addr) (l : List α) : List Nat := if l = [] then [] else (A.map (·.block)).toList
theorem add_block' (ad : Addr) (i : Nat) : (ad.add i).block = ad.block := by unfold Addr.add; split <;> rfl
theorem C_same' (hf : Flat d) {w w' : World} {A : Option Addr} {l : List α} (h : d.C w A l.length l) (hs : ∀ b ∈ blkOf A l, w'.heap[b]? = w.heap[b]?) : d.C w' A l.length l := by
  refine ⟨h.1, h.2.1, fun hn => ?_⟩
  obtain ⟨ad, e, hc⟩ := h.2.2 hn
  refine ⟨ad, e, fun j p hp => ?_⟩
  obtain ⟨c, h1, h2, h3⟩ := hc j p hp
  have hb : w'.heap[ad.block]? = w.heap[ad.block]? := hs ad.block (by unfold blkOf; rw [if_neg (by rintro rfl; simp at hn), e]; simp)
  exact ⟨c, h1, hf.KK h2, fun i u hu => (World.cell?_of_block (w := w) (by rw [add_block']; exact hb)).trans (h3 i u hu)⟩
theorem C_lt' (hz : 0 < d.sz) {w : World} {A : Option Addr} {l : List α} (h : d.C w A l.length l) : ∀ b ∈ blkOf A l, b < w.heap.size := by
  intro b hb
  unfold blkOf at hb
  split at hb
  · cases hb
  · rename_i hne
    have hn : 0 < l.length := List.length_pos_iff.2 hne
    obtain ⟨ad, e, hc⟩ := h.2.2 hn
    rw [e] at hb
    obtain rfl : b = ad.block := by simpa using hb
    obtain ⟨c, h1, h2, h3⟩ := hc 0 _ (List.getElem?_eq_getElem hn)
    have := World.block_lt_of_cell? w _ (h3 0 _ (List.getElem?_eq_getElem (by omega)))
    rwa [add_block'] at this
/-- A row that is read. -/
def obRd (d : Kd α) (hf : Flat d) (hz : 0 < d.sz) (A : Option Addr) (c : Nat) (l : List α) : Ob where
  own := []
  all := blkOf A l
  holds w := d.C w A l.length l ∧ l.length ≤ c
  sub := fun _ h => by cases h
  lt := fun w h => C_lt' hz h.1
  stab := fun w w' h hs => ⟨C_same' hf h.1 hs, h.2⟩
/-- A row that is written to. -/
def obW (d : Kd α) (e : Nat) (hf : Flat d) (v : Value) (l : List α) : Ob where
  own := v.ownBlock.toList
  all := v.ownBlock.toList
  holds w := d.R e w 0 (fun _ => True) v l
  sub := fun _ h => h
  lt := fun w h b hb => by
    obtain ⟨inner, ho⟩ := Kd.R_own h
    exact own_lt ho b (by simpa using hb)
  stab := fun w w' h hs => by
    obtain ⟨h0, inner, ho, hr⟩ := h
    refine Kd.R_mono (ok := fun k => v.ownBlock = some k) (Kd.R_move ⟨fun k hk => hk, inner, ho, hr.imp_ (fun x cs hx => hf w w 0 _ x cs (d.K_of_M hx))⟩ (fun k hk => hs k (by rw [hk]; simp))) (fun _ _ => trivial)
theorem St.newW (h : St w0 w Γ) (hf : Flat d) : St w0 w (Γ ++ [obW d e hf (.slice none 0 0) []]) :=
  h.add (Below.refl _ _) [obW d e hf (.slice none 0 0) []] (fun o ho => by obtain rfl := List.mem_singleton.1 ho; exact Kd.R_nil _ _ _ _ _) (fun o ho b hb => by obtain rfl := List.mem_singleton.1 ho; cases (show b ∈ ([] : List Nat) from hb)) (List.pairwise_singleton _ _)
/-- What was appended to a row of one's own. -/
theorem St.growW (h : St w0 w Γ) {hf : Flat d} (i : Nat) {v v1 : Value} {xs ys : List α} (hi : Γ[i]? = some (obW d e hf v xs)) (hR : d.R e w1 0 (fun _ => True) v1 ys) (hg : w.grownBy w1 v.ownBlock)
    (hat : v1.ownBlock = v.ownBlock ∨ ∃ b, v1.ownBlock = some b ∧ w.heap.size ≤ b) : St w0 w1 (Γ.set i (obW d e hf v1 ys)) := by
  have key : ∀ o ∈ [obW d e hf v1 ys], ∀ b ∈ o.all, b ∈ v.ownBlock.toList ∨ w.heap.size ≤ b := fun o ho b hb => by
    obtain rfl := List.mem_singleton.1 ho
    have hb' : b ∈ v1.ownBlock.toList := hb
    rcases hat with e | ⟨k, e, hk⟩
    · rw [e] at hb'; exact .inl hb'
    · rw [e] at hb'
      obtain rfl : b = k := by simpa using hb'
      exact .inr hk
  have := h.upd i hi (Touch.grown (Touch.refl _ w) hg (fun k hk => .inl (show k ∈ v.ownBlock.toList by rw [hk]; simp))) (obW d e hf v1 ys) [] (fun o ho => by obtain rfl := List.mem_singleton.1 ho; exact hR)
    (fun o ho b hb => key o ho b (o.sub b hb)) key (List.pairwise_singleton _ _)
  rwa [List.append_nil] at this
/-- A new row in the place of one's own. -/
theorem St.anewW (h : St w0 w Γ) {hf : Flat d} (i : Nat) {v v1 : Value} {xs ys : List α} (hi : Γ[i]? = some (obW d e hf v xs)) (hb : Below w.heap.size w w1) (hR : d.R e w1 w.heap.size (fun _ => True) v1 ys) : St w0 w1 (Γ.set i (obW d e hf v1 ys)) := by
  have key : ∀ o ∈ [obW d e hf v1 ys], ∀ b ∈ o.all, b ∈ v.ownBlock.toList ∨ w.heap.size ≤ b := fun o ho b hb => by
    obtain rfl := List.mem_singleton.1 ho
    have hb' : b ∈ v1.ownBlock.toList := hb
    exact .inr (Kd.R_base hR b (by simpa using hb'))
  have := h.upd i hi (.of_below hb) (obW d e hf v1 ys) [] (fun o ho => by obtain rfl := List.mem_singleton.1 ho; exact Kd.R_lower hR (Nat.zero_le _))
    (fun o ho b hb => key o ho b (o.sub b hb)) key (List.pairwise_singleton _ _)
  rwa [List.append_nil] at this
/-- A new row beside all. -/
theorem St.addW (h : St w0 w Γ) (hf : Flat d) {v1 : Value} {ys : List α} (hb : Below w.heap.size w w1) (hR : d.R e w1 w.heap.size (fun _ => True) v1 ys) : St w0 w1 (Γ ++ [obW d e hf v1 ys]) :=
  h.add hb [obW d e hf v1 ys] (fun o ho => by obtain rfl := List.mem_singleton.1 ho; exact Kd.R_lower hR (Nat.zero_le _)) (fun o ho b hb => by
    obtain rfl := List.mem_singleton.1 ho
    have hb' : b ∈ v1.ownBlock.toList := hb
    exact Kd.R_base hR b (by simpa using hb')) (List.pairwise_singleton _ _)
theorem St.readsW (h : St w0 w Γ) {hf : Flat d} (i : Nat) {v : Value} {xs : List α} (hi : Γ[i]? = some (obW d e hf v xs)) : ∃ A c, v = .slice A xs.length c ∧ xs.length ≤ c ∧ d.C w A xs.length xs := Kd.R_reads (h.get i hi)
theorem St.readW (h : St w0 w Γ) {hf : Flat d} (i : Nat) {A : Option Addr} {n c : Nat} {xs : List α} (hi : Γ[i]? = some (obW d e hf (.slice A n c) xs)) : d.C w A xs.length xs := (Kd.R_reads' (h.get i hi)).2.2
end
end Go.Proofs.Ytadhceoaoopcjaa.SL
