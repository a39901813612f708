/- The map's operations at the walk. No condition. -/
import Derived.Test.YtdinkhhaomblcaaDoorOb
import Derived.Maps.Own
import Derived.Maps.OwnOps
import Derived.Maps.RangeWalk
namespace Go.Proofs.YtdinkhhaomblcaaDoor.SL
open Go.RowKit Go.Proofs.YtdinkhhaomblcaaDoorW.PrintWords Go.Proofs.YtdinkhhaomblcaaDoorW.PrintLast Go.Proofs.YtdinkhhaomblcaaDoorW.PrintMore
section
variable {ops : Array Oper} {rest : List Oper} {o : Oper} {a : Act} {Q : Exit → Act → World → Prop} {w : World} {b : Nat} {M left : Mp}
/-- 'm[k]', 'v, ok := m[k]'. -/
theorem wpList_lookM (hg : o.guard = none) (m x : Operand) (ok : Bool) (hop : o.op = Op.lookup 78 m x ok) (hm : a.eval m = .map (some b)) (k : Ad) (hx : a.eval x = .agg (aV k)) (h : MpAt w b M)
    (hK : wpList Tryd.prog ops Q rest (a.put o.dst (if ok then .tuple #[beV ((lookM M k).getD zBel), .bool (lookM M k).isSome] else beV ((lookM M k).getD zBel))) w) : wpList Tryd.prog ops Q (o :: rest) a w := by
  refine wpList_plain hg fun K' hK' => ?_
  have hrun := run_lookM h k ok
  unfold Oper.wp
  simp only [execOp, hop, hm, hx, Sem.run_bind, hrun, Result.andThen_ok, Sem.run_pure]
  exact hK' _ _ hK
/-- 'm[k] = v'. -/
theorem wpList_putM (hg : o.guard = none) (m x y : Operand) (hop : o.op = Op.mapUpdate 78 m x y) (hm : a.eval m = .map (some b)) (k : Ad) (v : Bel) (hx : a.eval x = .agg (aV k)) (hy : a.eval y = beV v) (h : MpAt w b M)
    (hK : ∀ es clock, MpAt (ChangeMaps.setBlock w b (.map es clock)) b (putM M k v) → wpList Tryd.prog ops Q rest (a.put o.dst (.tuple #[])) (ChangeMaps.setBlock w b (.map es clock))) : wpList Tryd.prog ops Q (o :: rest) a w := by
  refine wpList_plain hg fun K' hK' => ?_
  obtain ⟨es, clock, hrun, hM⟩ := run_putM h k v
  unfold Oper.wp
  simp only [execOp, hop, hm, hx, hy, Sem.run_bind, hrun, Result.andThen_ok, Sem.run_pure]
  exact hK' _ _ (hK _ _ hM)
/-- 'delete(m, k)'. -/
theorem wpList_delM (hg : o.guard = none) (m x : Operand) (hop : o.op = Op.call { callee := Callee.builtin Builtin.delete, args := #[m, x], argTypes := #[78, 32] }) (hm : a.eval m = .map (some b)) (k : Ad) (hx : a.eval x = .agg (aV k)) (h : MpAt w b M)
    (hK : ∀ es clock, MpAt (ChangeMaps.setBlock w b (.map es clock)) b (delM M k) → wpList Tryd.prog ops Q rest (a.put o.dst (.tuple #[])) (ChangeMaps.setBlock w b (.map es clock))) : wpList Tryd.prog ops Q (o :: rest) a w := by
  refine wpList_plain hg fun K' hK' => ?_
  obtain ⟨es, clock, hrun, hM⟩ := run_delM h k o.type
  unfold Oper.wp
  simp only [execOp, hop, resolve, invoke, builtin, List.map_toArray, List.map_cons, List.map_nil, hm, hx, Sem.run_bind, hrun, Result.andThen_ok, Sem.run_pure]
  exact hK' _ _ (hK _ _ hM)
/-- 'range m'. -/
theorem wpList_rangeM (hg : o.guard = none) (m : Operand) (hop : o.op = Op.range 78 m) (hm : a.eval m = .map (some b)) (h : MpAt w b M)
    (hK : ∀ ob, RgAt (w.alloc ob) b w.heap.size M M → wpList Tryd.prog ops Q rest (a.put o.dst (.pointer (some ⟨w.heap.size, 0, none⟩))) (w.alloc ob)) : wpList Tryd.prog ops Q (o :: rest) a w := by
  refine wpList_plain hg fun K' hK' => ?_
  obtain ⟨ob, hrun, hR⟩ := run_rangeM h
  unfold Oper.wp
  simp only [execOp, hop, hm, Sem.run_bind, hrun, Result.andThen_ok, Sem.run_pure]
  exact hK' _ _ (hK _ hR)
/-- The range loop's step. -/
theorem wpList_nextM (hg : o.guard = none) (it : Operand) (hop : o.op = Op.next it false) {r : Nat} (hit : a.eval it = .pointer (some ⟨r, 0, none⟩)) (h : RgAt w b r M left)
    (hDone : left = [] → wpList Tryd.prog ops Q rest (a.put o.dst (.tuple #[.bool false])) w)
    (hMore : ∀ (x : Ad × Bel) (w' : World), x ∈ left → RgAt w' b r M (left.filter fun y => !decide (x.1 = y.1)) → w.grownBy w' (some r) → w'.heap.size = w.heap.size →
      (Instr.entry (.pointer (some ⟨r, 0, none⟩))).run Tryd.prog w' = .ok (.tuple #[kyV x.1, beV x.2]) w' → wpList Tryd.prog ops Q rest (a.put o.dst (.tuple #[.bool true, kyV x.1, beV x.2])) w') : wpList Tryd.prog ops Q (o :: rest) a w := by
  refine wpList_plain hg fun K' hK' => ?_
  unfold Oper.wp
  rcases run_nextM h o.type with ⟨hl, hrun⟩ | ⟨x, hx, w', hrun, hR, hgr, hsz, hen⟩
  · simp only [execOp, hop, hit, Sem.run_bind, hrun, Result.andThen_ok, Sem.run_pure]
    exact hK' _ _ (hDone hl)
  · simp only [execOp, hop, hit, Sem.run_bind, hrun, Result.andThen_ok, Sem.run_pure]
    exact hK' _ _ (hMore x w' hx hR hgr hsz hen)
end
end Go.Proofs.YtdinkhhaomblcaaDoor.SL
