/- Stores into, and appends to, lists that are objects: the events of a walk. No condition but the sizes. -/
import Derived.Test.YtffdjplhnbkgfaaDoorTw
import Derived.Lib.Hide
namespace Go.Proofs.YtffdjplhnbkgfaaDoor.SL
open Go.RowKit Go.Proofs.YtffdjplhnbkgfaaDoorW.PrintWords Go.Proofs.YtffdjplhnbkgfaaDoorW.PrintLast Go.Proofs.YtffdjplhnbkgfaaDoorW.PrintMore
section
variable {P : Program} {ops : Array Oper} {rest : List Oper} {o : Oper} {a : Act} {Q : Exit → Act → World → Prop} {α : Type} {w0 W : World} {Γ : List Ob} {e : Nat}
theorem blw0 (w : World) : Below 0 w w := ⟨rfl, rfl, rfl, Nat.le_refl _, fun _ h => absurd h (Nat.not_lt_zero _)⟩
/-- l[k] = x: a whole element of a list of one's own is written. -/
theorem wpList_store_St (d : Kd α) {hf : Flat d} (h : St w0 W Γ) (i : Nat) {g n cap : Nat} {xs : List α} (hi : Γ[i]? = some (obW d e hf (.slice (some ⟨g, 0, none⟩) n cap) xs)) (hN : o.dst = none) (hgd : o.guard = none) (t : TypeId) (p x : Operand) (ho : o.op = .store t p x)
    (k : Int) (h0 : 0 ≤ k) (hk : k < n) (x' : α) (u : Value) (seg : List Value) (haddr : a.eval p = .pointer (some ⟨g, k.toNat * d.sz, none⟩)) (hx : a.eval x = u) (hu : u.cells.toList = seg) (ht : (P.info? t).map (·.size) = some seg.length) (hseg : seg.length = d.sz) (hK : d.K W x' seg)
    (hgo : ∀ w1, Hid (St w0 w1 (Γ.set i (obW d e hf (.slice (some ⟨g, 0, none⟩) n cap) (xs.set k.toNat x')))) → wpList P ops Q rest a w1) : wpList P ops Q (o :: rest) a W := by
  have hR : d.R e W 0 (fun _ => True) (.slice (some ⟨g, 0, none⟩) n cap) xs := h.get i hi
  have hn := (Kd.R_reads' hR).1
  obtain ⟨z, hz⟩ : ∃ z, xs[k.toNat]? = some z := ⟨xs[k.toNat]'(by omega), List.getElem?_eq_getElem (by omega)⟩
  obtain ⟨c, hcl, hM, hcc, _⟩ := Kd.R_elem hR z k h0 hk
  have hcs : c.take 0 ++ seg ++ c.drop (0 + seg.length) = seg := by
    rw [List.take_zero, List.nil_append, List.drop_eq_nil_of_le (by omega), List.append_nil]
  refine Kd.R_store d 0 hN hgd t p x ho e k 0 xs x' u seg c (fun _ => True) (fun _ => False) (w0 := W) haddr rfl hx hu ht (d.K_one hK) hR h0 hk hcl (fun j u hu => by have := hcc j u hu; exact this) (by omega) (by rw [hcs]; exact hf W W 0 _ x' seg hK) (fun _ h => h.elim) (blw0 W) ?_
  intro w1 hR1 _ hg
  exact hgo w1 (h.storeW i hi hR1 hg)
/-- append(l, x), one element, to a list of one's own. -/
theorem wpList_append_St (d : Kd α) {hf : Flat d} (h : St w0 W Γ) (i : Nat) {v : Value} {xs : List α} (hi : Γ[i]? = some (obW d e hf v xs)) (hgd : o.guard = none) (s x : Operand) (t : TypeId) (z : Value) (bytes : Nat)
    (ho : o.op = .call { callee := .builtin .append, args := #[s, x], argTypes := #[t, t] })
    (ht : P.underlying t = some (.slice e)) (hinfo : (P.info? e).map (fun i => (i.zero, i.size, i.bytes)) = some (some z, d.sz, bytes)) (hz : z.cells.size = d.sz) (hs0 : 0 < d.sz) (hb0 : 0 < bytes)
    (p : α) (cs : List Value) (hs : a.eval s = v) (hx : a.eval x = .slice (some ⟨W.heap.size, 0, none⟩) 1 1) (hp : d.K W p cs) (hl : (xs.length + 1) * bytes ≤ 140737488355328)
    (hgo : ∀ v1 w1, Hid (Grew W w1 v v1 xs.length) → Hid (St w0 w1 (Γ.set i (obW d e hf v1 (xs ++ [p])))) → wpList P ops Q rest (a.put o.dst v1) w1) :
    wpList P ops Q (o :: rest) a (W.alloc (.cells cs.toArray e)) :=
  wpList_append_two d hf hgd s x t e z bytes ho ht hinfo hz hs0 hb0 v xs p cs hs hx hp (h.get i hi) hl fun v1 w1 hR hc => hgo v1 w1 hc (h.grewW i hi hR hc)
/-- append(x, y), x the longer of two twins. -/
theorem wpList_append_Tw (d : Kd α) {hf : Flat d} {hsz : 0 < d.sz} (h : St w0 W Γ) (i : Nat) {A : Option Addr} {c : Nat} {l : List α} {v : Value} {xs : List α} (hi : Γ[i]? = some (obTw d e hf hsz A c l v xs)) (hgd : o.guard = none) (s x : Operand) (t : TypeId) (z : Value) (bytes : Nat)
    (ho : o.op = .call { callee := .builtin .append, args := #[s, x], argTypes := #[t, t] })
    (ht : P.underlying t = some (.slice e)) (hinfo : (P.info? e).map (fun i => (i.zero, i.size, i.bytes)) = some (some z, d.sz, bytes)) (hz : z.cells.size = d.sz) (hb0 : 0 < bytes)
    (p : α) (cs : List Value) (hs : a.eval s = v) (hx : a.eval x = .slice (some ⟨W.heap.size, 0, none⟩) 1 1) (hp : d.K W p cs) (hl : (xs.length + 1) * bytes ≤ 140737488355328)
    (hgo : ∀ v1 w1, Hid (Grew W w1 v v1 xs.length) → Hid (St w0 w1 (Γ.set i (obTw d e hf hsz A c l v1 (xs ++ [p])))) → wpList P ops Q rest (a.put o.dst v1) w1) :
    wpList P ops Q (o :: rest) a (W.alloc (.cells cs.toArray e)) :=
  wpList_append_two d hf hgd s x t e z bytes ho ht hinfo hz hsz hb0 v xs p cs hs hx hp (show Twin d e W A c l v xs from h.get i hi).row hl fun v1 w1 hR hc => hgo v1 w1 hc (h.twin i hi hR hc)
/-- append(l, ys...) to a list of one's own. -/
theorem wpList_append_rows_St (d : Kd α) {hf : Flat d} (h : St w0 W Γ) (i : Nat) {v : Value} {xs : List α} (hi : Γ[i]? = some (obW d e hf v xs)) (hgd : o.guard = none) (s x : Operand) (t : TypeId) (z : Value) (bytes : Nat)
    (ho : o.op = .call { callee := .builtin .append, args := #[s, x], argTypes := #[t, t] })
    (ht : P.underlying t = some (.slice e)) (hinfo : (P.info? e).map (fun i => (i.zero, i.size, i.bytes)) = some (some z, d.sz, bytes)) (hz : z.cells.size = d.sz) (hs0 : 0 < d.sz) (hb0 : 0 < bytes)
    (ys : List α) (A : Option Addr) (m c : Nat) (hs : a.eval s = v) (hx : a.eval x = .slice A m c) (HR : d.C W A m ys) (hl : (xs.length + m) * bytes ≤ 140737488355328)
    (hgo : ∀ v1 w1, Hid (∃ B c, v1 = .slice B (xs ++ ys).length c) → Hid (St w0 w1 (Γ.set i (obW d e hf v1 (xs ++ ys)))) → wpList P ops Q rest (a.put o.dst v1) w1) :
    wpList P ops Q (o :: rest) a W :=
  Kd.R_append_rows d (Rr := d.K W) 0 (w0 := W) hgd s x t e z bytes ho ht hinfo hz hs0 hb0 v xs ys A m c (fun _ => True) (fun _ => False) hs hx (h.get i hi) HR (fun x cs hk => hf W W 0 _ x cs hk) (fun _ h => h.elim) (fun _ _ => trivial) (blw0 W) (Nat.zero_le _) hl
    fun v1 w1 hR _ hg hat => hgo v1 w1 (Kd.R_slice hR) (h.growW i hi hR hg hat)
/-- append(T(nil), ys...): a copy. -/
theorem wpList_append_new_St (d : Kd α) (hf : Flat d) (h : St w0 W Γ) (hgd : o.guard = none) (s x : Operand) (t : TypeId) (z : Value) (bytes : Nat)
    (ho : o.op = .call { callee := .builtin .append, args := #[s, x], argTypes := #[t, t] })
    (ht : P.underlying t = some (.slice e)) (hinfo : (P.info? e).map (fun i => (i.zero, i.size, i.bytes)) = some (some z, d.sz, bytes)) (hz : z.cells.size = d.sz) (hs0 : 0 < d.sz) (hb0 : 0 < bytes)
    (ys : List α) (A : Option Addr) (m c : Nat) (hs : a.eval s = .slice none 0 0) (hx : a.eval x = .slice A m c) (HR : d.C W A m ys) (hl : m * bytes ≤ 140737488355328)
    (hgo : ∀ v1 w1, Hid (∃ B c, v1 = .slice B ys.length c) → Hid (St w0 w1 (Γ ++ [obW d e hf v1 ys])) → wpList P ops Q rest (a.put o.dst v1) w1) :
    wpList P ops Q (o :: rest) a W :=
  Kd.R_append_rows d (Rr := d.K W) W.heap.size (w0 := W) hgd s x t e z bytes ho ht hinfo hz hs0 hb0 (.slice none 0 0) [] ys A m c (fun _ => True) (fun _ => False) hs hx (Kd.R_nil _ _ _ _ _) HR (fun x cs hk => hf W W _ _ x cs hk) (fun _ h => h.elim) (fun _ _ => trivial) (Below.refl _ _) (Nat.le_refl _) (by simpa using hl)
    fun v1 w1 hR hb _ _ => hgo v1 w1 (Kd.R_slice (by simpa using hR)) (h.addW hf hb (by simpa using hR))
end
end Go.Proofs.YtffdjplhnbkgfaaDoor.SL
