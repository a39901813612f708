/- The walks of a wheel's New and Add. No condition but sizes. -/
import Derived.Test.YtadhceoaoopcjaaWD
namespace Go.Proofs.Ytadhceoaoopcjaa.SL
open Go.RowKit Go.Proofs.YtadhceoaoopcjaaW.PrintWords Go.Proofs.YtadhceoaoopcjaaW.PrintLast Go.Proofs.YtadhceoaoopcjaaW.PrintMore
def nil448 : List Hdr := List.replicate 448 (none, 0, 0)
theorem built_wh (now : Int) (m : Nat) : Try.prog.built 64 [(0, .int .i64 now), (3, .map (some m))] = some (whV now 0 nil448 m) := by kernel_rfl
section
variable {P : Program} {ops : Array Oper} {rest : List Oper} {o : Oper} {a : Act} {Q : Exit → Act → World → Prop} {w W : World}
/-- An aggregate that is built. -/
theorem wpList_buildA (hgd : o.guard = none) (t : TypeId) (parts : Array (Nat × Operand)) (ho : o.op = .build t parts) (vs : List (Nat × Value)) (hv : (parts.toList.map fun x => (x.1, a.eval x.2)) = vs) {cells : Array Value} (hb : P.built t vs = some cells)
    (h : wpList P ops Q rest (a.put o.dst (.agg cells)) w) : wpList P ops Q (o :: rest) a w :=
  wpList_plain hgd fun _ hK => by
    unfold Oper.wp execOp
    simp only [ho, Sem.run_bind, run_build w t _ cells (by rw [Array.toList_map]; exact (congrArg (P.built t) hv).trans hb), Result.andThen_ok]
    exact hK _ _ h
/-- What came in is boxed. -/
theorem wpList_boxN (hgd : o.guard = none) (t : TypeId) (x : Operand) (ho : o.op = .box t x) (cells : Array Value) (hx : a.eval x = .agg cells) (h : wpList P ops Q rest (a.put o.dst (.pointer (some ⟨W.heap.size, 0, none⟩))) (W.alloc (.cells cells t))) : wpList P ops Q (o :: rest) a W := by
  refine wpList_plain hgd fun K' hK' => ?_
  unfold Oper.wp execOp
  simp only [ho, hx, Sem.run_bind, Instr.box, newVar, newRow, run_newObj_alloc, Sem.run_pure, Result.andThen_ok]
  exact hK' _ _ h
end
section
variable {w0 w : World} {Γ Δ : List Ob}
theorem St.addQuiet (h : St w0 w Γ) (G : List Ob) (h1 : ∀ o ∈ G, o.own = [] ∧ o.all = [] ∧ o.holds w) : St w0 w (G ++ Γ) := by
  refine St.mk' h.bl (fun o ho => ?_) (fun o ho => ?_) (List.pairwise_append.2 ⟨?_, Apart.pair.1 h.sep, fun a ha b hb => ?_⟩)
  · rcases List.mem_append.1 ho with ho | ho
    · exact (h1 o ho).2.2
    · exact h.holdsM ho
  · rcases List.mem_append.1 ho with ho | ho
    · rw [(h1 o ho).1]; simp
    · exact h.baseM ho
  · refine List.pairwise_iff_getElem.2 fun i j hi hj _ => Apart.quiet (h1 _ (List.getElem_mem hi)).1 (h1 _ (List.getElem_mem hj)).1
  · exact ⟨by rw [(h1 a ha).1]; simp, by rw [(h1 a ha).2.1]; simp⟩
theorem hd_nil (n j : Nat) : hd (List.replicate n (none, 0, 0)) j = (none, 0, 0) := by
  unfold hd
  rw [List.getD_eq_getElem?_getD, List.getElem?_replicate]
  split <;> rfl
theorem fam_nil (h : St w0 w Γ) : St w0 w (fam 448 (famD nil448 fun _ => []) ++ Γ) := by
  refine h.addQuiet _ fun o ho => ?_
  unfold fam at ho
  obtain ⟨j, _, rfl⟩ := List.mem_map.1 ho
  have e : famD nil448 (fun _ => []) j = obD (.slice none 0 0) [] := by
    show obW _ _ _ _ _ = obW _ _ _ _ _
    rw [show hd nil448 j = (none, 0, 0) from hd_nil 448 j]
  rw [e]
  exact ⟨rfl, rfl, Kd.R_nil _ _ _ _ _⟩
theorem St.mapF (h : St w0 w Γ) : St w0 (w.alloc (.map #[] 0)) (obMp w.heap.size [] :: Γ) :=
  (h.add ((Touch.refl [] w).alloc _).below [obMp w.heap.size []] (fun o ho => by obtain rfl := List.mem_singleton.1 ho; exact MpAt.made w) (fun o ho x hx => by obtain rfl := List.mem_singleton.1 ho; obtain rfl := List.mem_singleton.1 hx; exact Nat.le_refl _) (List.pairwise_singleton _ _)).front1
theorem new_ok (now : Int) (h : 0 ≤ now ∧ now ≤ 1099511627776) (p b : Nat) : WSt.Ok ⟨p, b, nil448, fun _ => [], ⟨now, 0, []⟩⟩ :=
  ⟨List.length_replicate, ⟨h.1, h.2, List.Pairwise.nil, fun _ hd => (by cases hd), fun _ hd => (by cases hd), Int.le_refl _, Nat.zero_le _⟩, fun _ _ => List.Perm.refl _⟩
set_option maxHeartbeats 2000000 in
set_option maxRecDepth 100000 in
theorem new_bad (now : Int) (w : World) (h : now < 0 ∨ 1099511627776 < now) : Calls Try.prog 11 #[.int .i64 now] w fun e w' => e = .returned (.tuple #[.pointer none, .int .i64 1]) ∧ w' = w := by
  by_cases h1 : now < 0
  · go_enter Try.func11, Try.ntmps11
    go_wp2
    go_ret2
    exact ⟨rfl, rfl⟩
  · have h2 : 1099511627776 < now := by omega
    have h3 : 0 ≤ now := by omega
    go_enter Try.func11, Try.ntmps11
    go_wp2
    go_ret2
    exact ⟨rfl, rfl⟩
set_option maxHeartbeats 2000000 in
set_option maxRecDepth 100000 in
theorem new_raw (h : St w0 w Γ) (now : Int) (h1 : 0 ≤ now) (h2 : now ≤ 1099511627776) : Calls Try.prog 11 #[.int .i64 now] w fun e w' => ∃ p b, e = .returned (.tuple #[.pointer (some ⟨p, 0, none⟩), .int .i64 0]) ∧ St w0 w' (WSt.G ⟨p, b, nil448, fun _ => [], ⟨now, 0, []⟩⟩ ++ Γ) := by
  have hmm := @run_makeMap Try.prog
  have HS := Lib.hid ((fam_nil h).mapF.boxF (whV now 0 nil448 w.heap.size) 64)
  clear h
  go_enter Try.func11, Try.ntmps11
  go_wp2_with (first
    | (refine gate_ (.build 64 #[(0, .tmp 10), (3, .tmp 11)]) rfl ?_; go_must (refine wpList_buildA rfl 64 #[(0, .tmp 10), (3, .tmp 11)] rfl [(0, .int .i64 now), (3, .map (some w.heap.size))] rfl (built_wh _ _) ?_))
    | (refine gate_ (.box 64 (.tmp 12)) rfl ?_; go_must (refine wpList_boxN rfl 64 (.tmp 12) rfl (whV now 0 nil448 w.heap.size) rfl ?_)))
  go_ret2
  refine ⟨w.heap.size + 1, w.heap.size, rfl, ?_⟩
  have := HS.out
  rw [show (w.alloc (.map #[] 0)).heap.size = w.heap.size + 1 by simp] at this
  exact this
end
end Go.Proofs.Ytadhceoaoopcjaa.SL
