/- The walk of the library's DeleteFunc over a place's list, with Cancel's closure: the one timer of that id goes. No condition but sizes. -/
import Derived.Test.YtadhceoaoopcjaaWI
import Derived.Laws.Tables
namespace Go.Proofs.Ytadhceoaoopcjaa.SL
open Go.RowKit Go.Proofs.YtadhceoaoopcjaaW.PrintWords Go.Proofs.YtadhceoaoopcjaaW.PrintLast Go.Proofs.YtadhceoaoopcjaaW.PrintMore
section
variable {P : Program}
/-- clear(l), in a block that is known whole. -/
theorem run_clear_row (w : World) (t e ty : TypeId) (z : Value) (ht : P.underlying t = some (.slice e)) (hv : (zeroValue e).run P w = .ok z w) (h1 : ∀ u ∈ z.cells.toList, u.oneCell' = true) (g o c : Nat) (cur : Array Value)
    (hg : w.heap[g]? = some (.cells cur e (0, 0))) (hfit : o + z.cells.size ≤ cur.size) :
    (Builtin.clear_ #[t] ty #[.slice (some ⟨g, o, none⟩) 1 c]).run P w = .ok (.tuple #[]) (w.setRow g (cur.toList.take o ++ z.cells.toList ++ cur.toList.drop (o + z.cells.size)).toArray) := by
  have hzc : (Builtin.zeroCells z.cells 1).toList = z.cells.toList := by
    apply List.ext_getElem
    · simp [Builtin.zeroCells]
    · intro i h1 h2
      simp [Builtin.zeroCells] at h1 h2 ⊢
      rw [getElem!_pos _ _ (by rw [Nat.mod_eq_of_lt h2]; exact h2)]
      congr 1
      exact Nat.mod_eq_of_lt h2
  have hst := run_storeCells_at P g o e z.cells.toList 0 cur w hg (by simpa using hfit) h1
  simp only [Nat.add_zero, Array.length_toList] at hst
  simp [Builtin.clear_, run_underlying ht, hv, hzc, hst]
variable {ops : Array Oper} {rest : List Oper} {o : Oper} {a : Act} {Q : Exit → Act → World → Prop} {w : World}
theorem wpList_clear (hgd : o.guard = none) (x : Operand) (t e : TypeId) (ho : o.op = .call { callee := .builtin .clear, args := #[x], argTypes := #[t] }) (z : Value) (ht : P.underlying t = some (.slice e)) (hv : (zeroValue e).run P w = .ok z w) (h1 : ∀ u ∈ z.cells.toList, u.oneCell' = true) (g off c : Nat) (cur : Array Value)
    (hx : a.eval x = .slice (some ⟨g, off, none⟩) 1 c) (hg : w.heap[g]? = some (.cells cur e (0, 0))) (hfit : off + z.cells.size ≤ cur.size)
    (h : wpList P ops Q rest (a.put o.dst (.tuple #[])) (w.setRow g (cur.toList.take off ++ z.cells.toList ++ cur.toList.drop (off + z.cells.size)).toArray)) : wpList P ops Q (o :: rest) a w :=
  wpList_plain hgd fun _ hK => by
    unfold Oper.wp execOp
    simp only [ho, resolve, invoke, builtin, Sem.run_bind, Sem.run_pure, Result.andThen_ok, List.map_toArray, List.map_cons, List.map_nil, hx, run_clear_row w t e o.type z ht hv h1 g off c cur hg hfit]
    exact hK _ _ h
end
theorem Reps.take {α : Type} {R : α → List Value → Prop} {s : Nat} {ps : List α} {cs : List Value} (h : Reps R s ps cs) {m : Nat} (hm : m ≤ ps.length) : Reps R s (ps.take m) (cs.take (m * s)) := by
  have hle : m * s ≤ ps.length * s := Nat.mul_le_mul_right _ hm
  have hl := h.1
  refine ⟨by rw [List.length_take, List.length_take, Nat.min_eq_left hm]; omega, fun j p hj => ?_⟩
  rw [List.getElem?_take] at hj
  split at hj
  · rename_i hjm
    have := h.2 j p hj
    have e : j * s + s ≤ m * s := by rw [← Nat.succ_mul]; exact Nat.mul_le_mul_right _ hjm
    rw [List.drop_take, List.take_take, Nat.min_eq_left (by omega)]
    exact this
  · cases hj
/-- The head of a list of one's own. -/
theorem R_cut {α : Type} {d : Kd α} (hf : Flat d) {e : Nat} {w : World} {g n c m : Nat} {L : List α} (h : d.R e w 0 (fun _ => True) (.slice (some ⟨g, 0, none⟩) n c) L) (hm : m ≤ L.length) :
    ∃ cur : Array Value, w.heap[g]? = some (.cells cur e (0, 0)) ∧ cur.size = c * d.sz ∧ L.length ≤ c ∧ ∀ (w' : World) (cur' : Array Value), w'.heap[g]? = some (.cells cur' e (0, 0)) → cur'.size = cur.size → cur'.toList.take (m * d.sz) = cur.toList.take (m * d.sz) → d.R e w' 0 (fun _ => True) (.slice (some ⟨g, 0, none⟩) m c) (L.take m) := by
  obtain ⟨h0, inner, hown, hr⟩ := h
  obtain ⟨hil, hcase⟩ := hown
  rcases hcase with ⟨hv, _⟩ | ⟨g', c', cur, hv, _, hg, hnc, hcm, hcs, htake⟩
  · cases hv
  · injection hv with e1 e2 e3
    injection e1 with e1
    injection e1 with e1
    subst e1 e3
    refine ⟨cur, hg, hcs, hnc, fun w' cur' hg' hsz ht => ⟨fun _ _ => trivial, inner.take (m * d.sz), ⟨?_, .inr ⟨g, c, cur', ?_, Nat.zero_le _, hg', ?_, hcm, by rw [hsz]; exact hcs, ?_⟩⟩, ?_⟩⟩
    · have : m * d.sz ≤ L.length * d.sz := Nat.mul_le_mul_right _ hm
      rw [List.length_take, List.length_take, Nat.min_eq_left hm, hil]
      omega
    · rw [List.length_take, Nat.min_eq_left hm]
    · rw [List.length_take, Nat.min_eq_left hm]; omega
    · have : m * d.sz ≤ L.length * d.sz := Nat.mul_le_mul_right _ hm
      rw [List.length_take, Nat.min_eq_left hm, ht, ← htake, List.take_take, Nat.min_eq_left this]
    · exact (show Reps _ _ _ _ from Reps.take hr hm).imp_ fun x cs hx => hf _ _ _ _ x cs (d.K_of_M hx)
theorem zero_D (w : World) : (zeroValue 36).run Try.prog w = .ok (.agg (dV ⟨0, 0, 0⟩)) w := by kernel_rfl
theorem sizD : (Try.prog.info? 36).map (·.size) = some 3 := by kernel_rfl
theorem St.clearLast {w0 w : World} {Γ : List Ob} (h : St w0 w Γ) (i : Nat) {g n c m : Nat} {L : List Du} (hi : Γ[i]? = some (obD (.slice (some ⟨g, 0, none⟩) n c) L)) (hm : m + 1 = L.length) :
    ∃ cur : Array Value, w.heap[g]? = some (.cells cur 36 (0, 0)) ∧ m * 3 + 3 ≤ cur.size ∧ m + 1 ≤ c ∧ St w0 (w.setRow g (cur.toList.take (m * 3) ++ (Value.agg (dV ⟨0, 0, 0⟩)).cells.toList ++ cur.toList.drop (m * 3 + 3)).toArray) (Γ.set i (obD (.slice (some ⟨g, 0, none⟩) m c) (L.take m))) := by
  obtain ⟨cur, hg, hcs, hlc, hR⟩ := R_cut flD (show kD.R _ _ _ _ _ _ from h.get i hi) (m := m) (by omega)
  have hcs3 : cur.size = c * 3 := hcs
  refine ⟨cur, hg, by omega, by omega, ?_⟩
  refine h.growW i hi (hR _ _ (setRow_heap w g cur _ _ _ hg) ?_ ?_) ⟨rfl, rfl, rfl, by simp [World.setRow], fun k hk hn => setRow_other w g k _ (fun e => hn (by rw [e]; rfl))⟩ (.inl rfl)
  · simp only [List.size_toArray, List.length_append, List.length_take, List.length_drop, Array.length_toList]
    show min (m * 3) cur.size + 3 + (cur.size - (m * 3 + 3)) = cur.size
    omega
  · show List.take (m * 3) (_ ++ _ ++ _) = List.take (m * 3) _
    rw [List.append_assoc, List.take_append_of_le_length (by rw [List.length_take, Array.length_toList]; omega), List.take_take, Nat.min_self]
section
variable {w0 w : World} {Γ : List Ob}
/-- While it is taken out: the places ahead of m are as they shall be. -/
def delL (l : List Du) (k m : Nat) : List Du := mixL (l.eraseIdx k ++ [⟨0, 0, 0⟩]) l m
theorem delL_len' {l : List Du} {k : Nat} (hk : k < l.length) : (l.eraseIdx k ++ [(⟨0, 0, 0⟩ : Du)]).length = l.length := by
  rw [List.length_append, List.length_eraseIdx, if_pos hk, List.length_singleton]; omega
theorem delL_len {l : List Du} {k : Nat} (hk : k < l.length) (m : Nat) : (delL l k m).length = l.length := mixL_len (delL_len' hk) m
theorem delL_start {l : List Du} {k : Nat} (hk : k < l.length) : delL l k k = l := by
  unfold delL mixL
  rw [List.take_append_of_le_length (by rw [List.length_eraseIdx, if_pos hk]; omega), List.eraseIdx_eq_take_drop_succ, List.take_append_of_le_length (by rw [List.length_take]; omega), List.take_take, Nat.min_self, List.take_append_drop]
theorem delL_step {l : List Du} {k m : Nat} (hk : k < l.length) (hkm : k ≤ m) (hm : m + 1 < l.length) : (delL l k m).set m l[m + 1] = delL l k (m + 1) := by
  unfold delL
  refine mixL_step (delL_len' hk) (by omega) ?_
  rw [List.getElem?_append_left (by rw [List.length_eraseIdx, if_pos hk]; omega), List.getElem?_eraseIdx, if_neg (by omega)]
  exact List.getElem?_eq_getElem hm
theorem delL_next {l : List Du} {k m : Nat} (hk : k < l.length) (hm : m + 1 < l.length) : (delL l k m)[m + 1]'(by rw [delL_len hk]; exact hm) = l[m + 1] := by
  unfold delL mixL
  have hl := delL_len' hk
  have e : (List.take m (l.eraseIdx k ++ [(⟨0, 0, 0⟩ : Du)])).length = m := by rw [List.length_take]; omega
  rw [List.getElem_append_right (by omega), List.getElem_drop]
  congr 1
  omega
theorem delL_end {l : List Du} {k m : Nat} (hk : k < l.length) (hm : m + 1 = l.length) : (delL l k m).take m = l.eraseIdx k := by
  unfold delL mixL
  have hl := delL_len' hk
  have e : (List.take m (l.eraseIdx k ++ [(⟨0, 0, 0⟩ : Du)])).length = m := by rw [List.length_take]; omega
  rw [List.take_append_of_le_length (by omega), List.take_take, Nat.min_self, List.take_append_of_le_length (by rw [List.length_eraseIdx, if_pos hk]; omega), List.take_of_length_le (by rw [List.length_eraseIdx, if_pos hk]; omega)]
theorem set_same {α : Type} {l : List α} {i : Nat} {x : α} (h : l[i]? = some x) : l.set i x = l := by
  apply List.ext_getElem?
  intro j
  rw [List.getElem?_set]
  split
  · rename_i e
    subst e
    rw [if_pos (List.getElem?_eq_some_iff.1 h).1, h]
  · rfl
set_option maxHeartbeats 8000000 in
theorem delete_raw (h : St w0 w Γ) (i : Nat) {A : Option Addr} {n c : Nat} {l : List Du} (hi : Γ[i]? = some (obD (.slice A n c) l)) (jb : Nat) (hij : jb ≠ i) {B : Nat} {id : Int} {T : TypeId} (hj : Γ[jb]? = some (obB B #[.int .i64 id] T)) {k : Nat} (hk : k < l.length) (h1 : l[k].id = id) (h0 : ∀ j (hj : j < l.length), j ≠ k → l[j].id ≠ id) (hb : l.length < 1000000) :
    Calls Try.prog 32 #[.slice A n c, .func (.func 33) #[] #[.pointer (some ⟨B, 0, none⟩)]] w fun e w' => e = .returned (.slice A (n - 1) c) ∧ St w0 w' (Γ.set i (obD (.slice A (n - 1) c) (l.eraseIdx k))) := by
  obtain ⟨g, rfl, rfl, -⟩ := h.cellD i hi k hk
  have HIX := Lib.hid fun W (hW : St w0 W Γ) => index_raw hW i hi jb hj hk h1 (fun j hj hlt => h0 j hj (by omega)) hb
  have hiL := (List.getElem?_eq_some_iff.1 hi).1
  have HI := Lib.hid (And.intro hi (And.intro hj (And.intro hij hiL)))
  have H0 := Lib.hid h0
  have HK := Lib.hid hk
  have HS := Lib.hid h
  have eg : ∀ args w, (callFunc 33 args).run Try.prog w = .ok (.enter 33 args) w := fun _ _ => rfl
  have hk0 : (0 : Int) ≤ (k : Int) := by omega
  have hk1 : ((k : Int) == -1) = false := by rw [beq_eq_false_iff_ne]; omega
  have hset : Hid (∀ W, St w0 W Γ → St w0 W (Γ.set i (obD (.slice (some ⟨g, 0, none⟩) l.length c) (delL l k k)))) := Lib.hid fun W hW => by
    rw [delL_start hk, set_same hi]; exact hW
  clear h h1 h0
  go_enter Try.func32, Try.ntmps32
  go_wp2_with (go_at_call 50; refine (HIX.out _ HS.out).mono ?_; rintro e w1 ⟨rfl, hs1⟩; have HS1 := Lib.hid (hset.out _ hs1); clear hs1)
  go_loopw [5, 6] (fun s5 s6 wr => ∃ m : Nat, k ≤ m ∧ m + 1 ≤ l.length ∧ s5 = .int .i64 m ∧ s6 = .int .i64 ((m : Int) + 1) ∧ Hid (St w0 wr (Γ.set i (obD (.slice (some ⟨g, 0, none⟩) l.length c) (delL l k m))))) (fun _ s6 _ => l.length - (intOf s6).toNat)
  case atStart => exact ⟨k, Nat.le_refl _, hk, rfl, rfl, HS1⟩
  case round =>
    obtain ⟨m, hkm, hml, rfl, rfl, HW⟩ := hrel
    clear HS1 HS hset HIX
    have hm0 : (0 : Int) ≤ (m : Int) := by omega
    by_cases hlt : m + 1 < l.length
    · have hltz : (m : Int) + 1 < (l.length : Int) := by omega
      have hmz : (m : Int) < (l.length : Int) := by omega
      have hdl := delL_len hk m
      have hget : (Γ.set i (obD (.slice (some ⟨g, 0, none⟩) l.length c) (delL l k m)))[i]? = some (obD (.slice (some ⟨g, 0, none⟩) l.length c) (delL l k m)) := by
        rw [List.getElem?_set, if_pos rfl, if_pos HI.out.2.2.2]
      obtain ⟨g', e1, -, x0, x1, x2⟩ := HW.out.cellD i hget (m + 1) (by rw [hdl]; exact hlt)
      injection e1 with e1
      injection e1 with e1
      subst e1
      rw [delL_next hk hlt] at x0 x1 x2
      have hne := H0.out (m + 1) hlt (by omega)
      have hstep := delL_step hk hkm hlt
      generalize l[m + 1] = y at *
      have HST := Lib.hid hstep
      have HG := Lib.hid hget
      have hid : (y.id == id) = false := by simpa using hne
      have H2 := Lib.hid (HW.out.alloc0 (.cells (dV y) 36))
      have HC : Hid (Calls Try.prog 33 #[.agg (dV y), .pointer (some ⟨B, 0, none⟩)] (wr.alloc (.cells (dV y) 36)) fun e w' => e = .returned (.bool false) ∧ w' = (wr.alloc (.cells (dV y) 36)).alloc (.cells (dV y) 36)) := Lib.hid (by
        have := cancelC_calls y B id _ (H2.out.cellB jb (by rw [List.getElem?_set, if_neg (fun e => HI.out.2.2.1 e.symm)]; exact HI.out.2.1) 0 rfl)
        rw [hid] at this
        exact this)
      have H3 := Lib.hid (H2.out.alloc0 (.cells (dV y) 36))
      obtain ⟨b0, b1, b2⟩ := box_cells (d := y) (show ((wr.alloc (.cells (dV y) 36)).alloc (.cells (dV y) 36)).heap[wr.heap.size]? = some (.cells (dV y) 36 (0, 0)) from (heap_alloc_old _ _ (by simp)).trans (heap_alloc_new wr _))
      have HDL := Lib.hid hdl
      clear hne hid hstep hget hdl HW H2 H0
      go_wp2_with (first
        | (go_at_fn 33; refine HC.out.mono ?_; rintro e w' ⟨rfl, rfl⟩)
        | (refine gate_ (.store 36 (.tmp 33) (.tmp 32)) rfl ?_; go_must (refine wpList_store_St kD H3.out i HG.out rfl rfl 36 (.tmp 33) (.tmp 32) rfl (m : Int) hm0 hmz y (.agg (dV y)) (dL y) ?h1 rfl rfl sizD rfl rfl ?_)))
      case h1 => rfl
      intro w9 HS9
      have HS8 : Hid (St w0 w9 (Γ.set i (obD (.slice (some ⟨g, 0, none⟩) l.length c) (delL l k (m + 1))))) := Lib.hid (by
        have := HS9.out
        rw [List.set_set, Int.toNat_natCast, HST.out] at this
        exact this)
      clear HS9 H3 HG
      go_wp2_with fail
      go_roundw
      case rel => exact ⟨m + 1, by omega, by omega, by go_num, by go_num, HS8⟩
      case measure => simp [intOf]; omega
    · have hml2 : m + 1 = l.length := by omega
      have hltz : ¬ (m : Int) + 1 < (l.length : Int) := by omega
      have hget : (Γ.set i (obD (.slice (some ⟨g, 0, none⟩) l.length c) (delL l k m)))[i]? = some (obD (.slice (some ⟨g, 0, none⟩) l.length c) (delL l k m)) := by
        rw [List.getElem?_set, if_pos rfl, if_pos HI.out.2.2.2]
      obtain ⟨cur, hg, hfit, hmc, hst⟩ := HW.out.clearLast i hget (m := m) (by rw [delL_len hk]; exact hml2)
      have HE : Hid (St w0 (wr.setRow g (cur.toList.take (m * 3) ++ (Value.agg (dV ⟨0, 0, 0⟩)).cells.toList ++ cur.toList.drop (m * 3 + 3)).toArray) (Γ.set i (obD (.slice (some ⟨g, 0, none⟩) (l.length - 1) c) (l.eraseIdx k)))) := Lib.hid (by
        rw [List.set_set, delL_end hk hml2, show m = l.length - 1 by omega] at hst
        rw [show l.length - 1 = m by omega] at hst ⊢
        exact hst)
      have HG := Lib.hid hg
      have HF := Lib.hid hfit
      have hne : ¬ c = m := by omega
      have hle : (m : Int) ≤ (l.length : Int) := by omega
      have hmcz : (m : Int) ≤ (c : Int) := by omega
      have hmn : m ≤ c := by omega
      have hml3 : m ≤ l.length := by omega
      have HL := Lib.hid hml2
      clear hget hg hfit hmc hst HW hml2 hml hkm hlt hk1 hk0
      go_wp2_with (refine gate_builtin (b := .clear) rfl ?_; go_must (refine wpList_clear rfl (.tmp 38) 32 36 rfl (.agg (dV ⟨0, 0, 0⟩)) Try.underlying32 (zero_D _) (dL_one ⟨0, 0, 0⟩) g (m * 3) (c - m) cur ?hx HG.out HF.out ?_))
      case hx =>
        have := HL.out
        omega
      go_ret
      refine ⟨?_, by have := HE.out; rw [List.append_assoc] at this; exact this⟩
      rw [show l.length - 1 = m by have := HL.out; omega]
      rfl
end
end Go.Proofs.Ytadhceoaoopcjaa.SL
