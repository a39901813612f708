/- The cache as an object: its own block and its map's. No condition. -/
import Derived.Test.YtdinkhhaomblcaaDoorPl
import Derived.Test.YtdinkhhaomblcaaDoorTm
namespace Go.Proofs.YtdinkhhaomblcaaDoor.SL
open Go.RowKit Go.Proofs.YtdinkhhaomblcaaDoorW.PrintWords Go.Proofs.YtdinkhhaomblcaaDoorW.PrintLast Go.Proofs.YtdinkhhaomblcaaDoorW.PrintMore
def caV (b : Nat) (c : Ca) : Array Value := #[.int .i64 c.E, .int .i64 c.A, .map (some b), .int .i64 c.now, .int .i64 c.hrd]
structure CaAt (w : World) (p b : Nat) (c : Ca) : Prop where
  st : w.heap[p]? = some (.cells (caV b c) 80 (0, 0))
  mp : MpAt w b c.M
  ne : p ≠ b
theorem CaAt.below {w w' : World} {p b : Nat} {c : Ca} (h : CaAt w p b c) (hb : Below w.heap.size w w') : CaAt w' p b c :=
  ⟨(hb.block p (lt_of_block h.st)).trans h.st, h.mp.same (hb.block b h.mp.lt), h.ne⟩
def obC (p b : Nat) (c : Ca) : Ob where
  own := [p, b]
  all := [p, b]
  holds w := CaAt w p b c
  sub := fun _ h => h
  lt := fun w h x hx => by
    rcases List.mem_cons.1 hx with rfl | hx
    · exact lt_of_block h.st
    · obtain rfl := List.mem_singleton.1 hx
      exact h.mp.lt
  stab := fun w w' h hs => ⟨(hs p List.mem_cons_self).trans h.st, h.mp.same (hs b (List.mem_cons_of_mem _ List.mem_cons_self)), h.ne⟩
section
variable {w0 w : World} {Γ : List Ob} {p b : Nat} {c : Ca}
theorem St.putC (h : St w0 w Γ) (i : Nat) (hi : Γ[i]? = some (obC p b c)) {w' : World} {c' : Ca} (hT : CaAt w' p b c') (ht : Touch [p, b] w w') : St w0 w' (Γ.set i (obC p b c')) := by
  have := h.upd i hi ht (obC p b c') [] (fun o ho => by obtain rfl := List.mem_singleton.1 ho; exact hT) (fun o ho x hx => by obtain rfl := List.mem_singleton.1 ho; exact .inl hx)
    (fun o ho x hx => by obtain rfl := List.mem_singleton.1 ho; exact .inl hx) (List.pairwise_singleton _ _)
  rwa [List.append_nil] at this
/-- The cache's cells. -/
theorem CaAt.cells (h : CaAt w p b c) : w.cell? ⟨p, 0, none⟩ = some (.int .i64 c.E) ∧ w.cell? ⟨p, 1, none⟩ = some (.int .i64 c.A) ∧ w.cell? ⟨p, 2, none⟩ = some (.map (some b)) ∧ w.cell? ⟨p, 3, none⟩ = some (.int .i64 c.now) ∧ w.cell? ⟨p, 4, none⟩ = some (.int .i64 c.hrd) :=
  ⟨cell_of_row _ _ 0 _ _ _ h.st, cell_of_row _ _ 1 _ _ _ h.st, cell_of_row _ _ 2 _ _ _ h.st, cell_of_row _ _ 3 _ _ _ h.st, cell_of_row _ _ 4 _ _ _ h.st⟩
theorem CaAt.free (h : CaAt w p b c) (k : Nat) : w.frozen? ⟨p, k, none⟩ = false := blk_frozen h.st k
/-- The last now is written. -/
theorem CaAt.setNow (h : CaAt w p b c) (now : Int) : CaAt (w.setCell ⟨p, 3, none⟩ (.int .i64 now)) p b { c with now := now } :=
  ⟨blk_set h.st 3 _, h.mp.same (Below.heap_setCell _ _ _ _ (fun e => h.ne e.symm)), h.ne⟩
theorem CaAt.setHrd (h : CaAt w p b c) (n : Int) : CaAt (w.setCell ⟨p, 4, none⟩ (.int .i64 n)) p b { c with hrd := n } :=
  ⟨blk_set h.st 4 _, h.mp.same (Below.heap_setCell _ _ _ _ (fun e => h.ne e.symm)), h.ne⟩
/-- The map is written. -/
theorem CaAt.setMap (h : CaAt w p b c) {es : Array MapEntry} {clock : Nat} {M : Mp} (hm : MpAt (ChangeMaps.setBlock w b (.map es clock)) b M) : CaAt (ChangeMaps.setBlock w b (.map es clock)) p b { c with M := M } := by
  obtain ⟨es0, clock0, hb, _⟩ := h.mp.ex
  exact ⟨(ChangeMaps.heap_setBlock_other hb _ h.ne).trans h.st, hm, h.ne⟩
theorem touch_setBlock (h : MpAt w b c.M) {es : Array MapEntry} {clock : Nat} : Touch [b] w (ChangeMaps.setBlock w b (.map es clock)) := by
  obtain ⟨es0, clock0, hb, _⟩ := h.ex
  exact ⟨rfl, rfl, rfl, by simp [ChangeMaps.setBlock], fun k _ hn => ChangeMaps.heap_setBlock_other hb _ (fun e => hn (by rw [e]; exact List.mem_cons_self))⟩
end
end Go.Proofs.YtdinkhhaomblcaaDoor.SL
