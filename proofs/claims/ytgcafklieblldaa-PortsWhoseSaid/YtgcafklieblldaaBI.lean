/- The statements' operations as wholes. No condition. -/
import Derived.Test.YtgcafklieblldaaBH
namespace Go.Proofs.Ytgcafklieblldaa.SL
open Go.RowKit Go.Proofs.YtgcafklieblldaaW.PrintWords Go.Proofs.YtgcafklieblldaaW.PrintLast Go.Proofs.YtgcafklieblldaaW.PrintMore
def oV (x : OpT) : Array Value := (oL x).toArray
theorem oV_size (x : OpT) : (oV x).size = 20 := by unfold oV; rw [List.size_toArray, oL_len]
section
variable {w : World} {b : Nat} {o : OpT} {T : TypeId} {fr : Nat × Nat}
theorem cell_o0 (h : w.heap[b]? = some (.cells (oV o) T fr)) : w.cell? ⟨b, 0, none⟩ = some (.int .i64 o.k) := by rw [cell_of_row _ _ _ _ _ _ h]; rfl
theorem cell_o2 (h : w.heap[b]? = some (.cells (oV o) T fr)) : w.cell? ⟨b, 2, none⟩ = some (.int .i64 o.n) := by rw [cell_of_row _ _ _ _ _ _ h]; rfl
theorem range_o3 (h : w.heap[b]? = some (.cells (oV o) T fr)) : w.rangeAt b 3 (aL o.a) := rangeAt_row h 3 _ fun j u hu => by
  unfold oV oL
  rw [List.getElem?_toArray, show 3 + j = j + 1 + 1 + 1 by omega, List.getElem?_cons_succ, List.getElem?_cons_succ, List.getElem?_cons_succ]
  exact hu
end
/-- The k-th operation's cells, whole. -/
def OpR (w : World) (ad : Addr) (k : Nat) (x : OpT) : Prop := ∀ j u, (oL x)[j]? = some u → w.cell? ((ad.add (k * 20)).add j) = some u
theorem add_add2 (a : Addr) (m n : Nat) : (a.add m).add n = a.add (m + n) := by
  unfold Addr.add
  by_cases hm : m = 0 <;> by_cases hn : n = 0 <;> simp [hm, hn, Nat.add_assoc]
theorem op_r {w : World} {A : Option Addr} {s : List OpT} (h : kO.C w A s.length s) (k : Nat) (hk : k < s.length) : ∃ ad, A = some ad ∧ OpR w ad k (s.getD k zO) := by
  obtain ⟨ad, c, hA, _, hK, hc⟩ := Kd.C_get h zO (k : Int) (by omega) (by omega)
  obtain rfl : c = oL (s.getD (k : Int).toNat zO) := hK
  rw [Int.toNat_natCast] at hc
  have hc' : ∀ j u, (oL (s.getD k zO))[j]? = some u → w.cell? (ad.add (k * 20 + j)) = some u := hc
  exact ⟨ad, hA, fun j u hu => by rw [add_add2]; exact hc' j u hu⟩
theorem OpR.same {w w' : World} {ad : Addr} {k : Nat} {x : OpT} (h : OpR w ad k x) (hb : w'.heap[ad.block]? = w.heap[ad.block]?) : OpR w' ad k x := fun j u hu => by
  rw [World.cell?_of_block (w := w) (by rw [add_block', add_block']; exact hb)]
  exact h j u hu
theorem OpR.lt {w : World} {ad : Addr} {k : Nat} {x : OpT} (h : OpR w ad k x) : ad.block < w.heap.size := by
  have := World.block_lt_of_cell? w _ (h 0 _ rfl)
  rwa [add_block', add_block'] at this
theorem OpR.below {w w' : World} {ad : Addr} {k : Nat} {x : OpT} (h : OpR w ad k x) (hb : Below w.heap.size w w') : OpR w' ad k x := h.same (hb.block _ h.lt)
theorem OpR.who {w : World} {ad : Addr} {k : Nat} {x : OpT} (h : OpR w ad k x) : w.cell? ⟨(ad.add (k * 20)).block, (ad.add (k * 20)).off + 1, none⟩ = some (.int .i64 x.who) := by
  have := h 1 _ rfl
  unfold Addr.add at this ⊢
  rw [if_neg (by decide)] at this
  exact this
theorem sizO : (Try.prog.info? 35).map (·.size) = some 20 := by kernel_rfl
theorem lvO {w : World} {a : Addr} {x : OpT} (h : ∀ j u, (oL x)[j]? = some u → w.cell? (a.add j) = some u) : (loadVar 35 a).run Try.prog w = .ok (.agg (oV x)) w := by
  have hl : (loadCells a (oL x).length).run Try.prog w = .ok (oL x).toArray w := run_loadCells_list (P := Try.prog) w a (oL x) h
  have hu := Try.underlying35
  have hi := sizO
  rw [oL_len] at hl
  cases hq : Try.prog.info? 35 with
  | none => simp [hq] at hi
  | some i =>
    have hs : i.size = 20 := by simpa [hq] using hi
    have hagg : (isAgg 35).run Try.prog w = .ok true w := by
      unfold isAgg
      rw [Sem.run_bind, run_underlying hu w]
      rfl
    simp [loadVar, Sem.run_bind, hagg, sizeOf, typeInfo, hq, hs, hl, oV]
section
variable {ops : Array Oper} {rest : List Oper} {o : Oper} {a : Act} {Q : Exit → Act → World → Prop} {W : World}
theorem st_O (x y : Operand) (hgd : o.guard = none) (ho : o.op = .store 35 x y) {zs : Array Value} {T : TypeId} {z : OpT} (hx : a.eval x = .pointer (some ⟨W.heap.size, 0, none⟩)) (hy : a.eval y = .agg (oV z)) (hold : zs.size = 20)
    (h : wpList Try.prog ops Q rest (a.put o.dst undef) (W.alloc (.cells (oV z) T))) : wpList Try.prog ops Q (o :: rest) a (W.alloc (.cells zs T)) :=
  wpList_store_new hgd _ x y ho hx hy (by rw [oV_size]; exact sizO) (by rw [oV_size, hold]) (oL_one z) h
end
end Go.Proofs.Ytgcafklieblldaa.SL
