/- The walk of At. No condition but sizes. -/
import Derived.Test.YtgcafklieblldaaB6
import Derived.Deep.RegionHeld3
import Derived.Deep.QuietTactic
import Derived.Deep.DrawnRows
namespace Go.Proofs.Ytgcafklieblldaa.SL
open Go.RowKit Go.Proofs.YtgcafklieblldaaW.PrintWords Go.Proofs.YtgcafklieblldaaW.PrintLast Go.Proofs.YtgcafklieblldaaW.PrintMore
section
variable {P : Program}
theorem results_cell_row3 {fn : Func} {p u v : Tmp} {ty : TypeId} (h : fn.results = #[.cell p ty, .tmp u, .tmp v]) (tmps : Array Value) (w : World) (g : Nat) (t : TypeId) (cs : Array Value) (fr : Nat × Nat) (d : TypeDesc)
    (hp : tmps.getD p undef = .pointer (some ⟨g, 0, none⟩)) (hg : w.heap[g]? = some (.cells cs t fr))
    (hu : P.underlying ty = some d) (hd : (match d with | .struct _ | .array _ _ => true | _ => false) = true) (hi : (P.info? ty).map (·.size) = some cs.size) :
    (results fn tmps).run P w = .ok (.tuple #[.agg cs, tmps.getD u undef, tmps.getD v undef]) w := by
  have hp' : tmps[p]?.getD undef = .pointer (some ⟨g, 0, none⟩) := by simpa using hp
  simp [results, h, hp', asAddr, run_loadVar_row w g t ty cs fr d hg hu hd hi]
theorem Below.setRow {B : Nat} {w0 w : World} (h : Below B w0 w) {g : Nat} (hg : B ≤ g) (cs : Array Value) : Below B w0 (w.setRow g cs) :=
  ⟨h.os, h.tape, h.output, by simpa [World.setRow] using h.size, fun k hk => (setRow_other w g k cs (by omega)).trans (h.block k hk)⟩
end
theorem cell_setRow {w : World} {g : Nat} {cs : Array Value} {a : Addr} {u : Option Value} (h : w.cell? a = u) (hn : a.block ≠ g) : (w.setRow g cs).cell? a = u := (World.cell?_of_block (w := w) (setRow_other w g a.block cs hn)).trans h
theorem range_setRow {w : World} {g b o : Nat} {cs : Array Value} {l : List Value} (h : w.rangeAt b o l) (hn : b ≠ g) : (w.setRow g cs).rangeAt b o l := fun j u hu => cell_setRow (h j u hu) hn
theorem idxI_some {p : Bd → Bool} {l : List Bd} {k : Nat} (h : idxI p l = (k : Int)) : ∃ x, l[k]? = some x ∧ p x = true ∧ ∀ j (hj : j < l.length), j < k → p l[j] = false := by
  unfold idxI at h
  cases hf : l.findIdx? p with
  | none => rw [hf] at h; simp only at h; omega
  | some i =>
    rw [hf] at h
    simp only at h
    obtain rfl : i = k := by omega
    obtain ⟨hi, h1, h2⟩ := List.findIdx?_eq_some_iff_getElem.1 hf
    exact ⟨l[i], List.getElem?_eq_getElem hi, h1, fun j hj hlt => by simpa using h2 j hlt⟩
theorem idxI_neg {p : Bd → Bool} {l : List Bd} (h : idxI p l < 0) : idxI p l = -1 ∧ ∀ x ∈ l, p x = false := by
  unfold idxI at h ⊢
  cases hf : l.findIdx? p with
  | none => exact ⟨rfl, fun x hx => by rw [List.findIdx?_eq_none_iff] at hf; exact hf x hx⟩
  | some i => rw [hf] at h; simp only at h; omega
/-- What At tells. -/
def atB (l : List Bd) (n : Int) : Ad × Int × Int := match l.find? (fun x => decide (x.n = n)) with | some x => (x.p.a, x.p.port, 0) | none => (zA 0, 0, 1)
theorem atB_no {l : List Bd} {n : Int} (h : idxB l n < 0) : atB l n = (zA 0, 0, 1) := by
  unfold atB
  have : l.find? (fun x => decide (x.n = n)) = none := List.find?_eq_none.2 fun x hx => by simpa using (idxI_neg h).2 x hx
  rw [this]
theorem atB_yes {l : List Bd} {n : Int} {k : Nat} (h : idxB l n = (k : Int)) : ∃ x, l[k]? = some x ∧ x.n = n ∧ atB l n = (x.p.a, x.p.port, 0) := by
  obtain ⟨x, h1, h2, h3⟩ := idxI_some h
  refine ⟨x, h1, by simpa using h2, ?_⟩
  unfold atB
  obtain ⟨hk, hx⟩ := List.getElem?_eq_some_iff.1 h1
  have : l.find? (fun x => decide (x.n = n)) = some x := List.find?_eq_some_iff_getElem.2 ⟨h2, k, hk, hx, fun j hj => by simpa using h3 j (by omega) hj⟩
  rw [this]
def z17 : Array Value := aV (zA 0)
theorem range_aB {w : World} {b k : Nat} {x : Bd} (h : w.rangeAt b k (bL x)) : w.rangeAt b (k + 1) (aL x.p.a) := fun j u hu => by
  have := h (j + 1) u (by
    unfold bL pL
    rw [List.getElem?_cons_succ, List.getElem?_append_left (List.getElem?_eq_some_iff.1 hu).1]
    exact hu)
  rwa [show k + (j + 1) = k + 1 + j by omega] at this
theorem cell_pB {w : World} {b k : Nat} {x : Bd} (h : w.rangeAt b k (bL x)) : w.cell? ⟨b, k + 18, none⟩ = some (.int .i64 x.p.port) := h 18 _ (by
  unfold bL pL
  rw [List.getElem?_cons_succ, List.getElem?_append_right (by rw [aL_len]; exact Nat.le_refl _), aL_len]
  rfl)
theorem lv3 (a : Addr) : loadVar 3 a = (do if ← isAgg 3 then pure (.agg (← loadCells a (← sizeOf 3))) else load a) := rfl
theorem lv59 (a : Addr) : loadVar 59 a = (do if ← isAgg 59 then pure (.agg (← loadCells a (← sizeOf 59))) else load a) := rfl
section
variable {ops : Array Oper} {rest : List Oper} {o : Oper} {a : Act} {Q : Exit → Act → World → Prop} {w : World}
theorem st_Arow (x y : Operand) (hgd : o.guard = none) (ho : o.op = .store 32 x y) {zs : Array Value} {T : TypeId} {z : Ad} {b : Nat} (hb : w.heap[b]? = some (.cells zs T (0, 0))) (hx : a.eval x = .pointer (some ⟨b, 0, none⟩)) (hy : a.eval y = .agg (aV z)) (hold : zs.size = 17)
    (h : wpList Try.prog ops Q rest (a.put o.dst undef) (w.setRow b (aV z))) : wpList Try.prog ops Q (o :: rest) a w :=
  wpList_store_row hgd _ x y ho b (aV z) hx hy T zs hb (by rw [aV_size]; exact sizA) (by rw [aV_size, hold]) (Array.all_eq_true_iff_forall_mem.2 fun u hu => aL_one z u (by simpa [aV] using hu)) h
end
theorem lvA {w : World} {b k : Nat} {x : Ad} (h : w.rangeAt b k (aL x)) : (loadVar 32 ⟨b, k, none⟩).run Try.prog w = .ok (.agg (aV x)) w :=
  run_loadVar_mid w b k _ (aL x) _ h Try.underlying32 rfl (by rw [aL_len]; exact sizA)
theorem svA {w : World} {b : Nat} {zs : Array Value} {T : TypeId} {x : Ad} (h : w.heap[b]? = some (.cells zs T (0, 0))) (hz : zs.size = 17) : (storeVar 32 ⟨b, 0, none⟩ (.agg (aV x))).run Try.prog w = .ok () (w.setRow b (aV x)) :=
  run_storeVar_row w b T _ zs (aV x) h (by rw [aV_size]; exact sizA) (by rw [aV_size, hz]) (Array.all_eq_true_iff_forall_mem.2 fun u hu => aL_one x u (by simpa [aV] using hu))
attribute [-go_sem] loadVar storeVar
attribute [local go_sem] lv3 lv59
set_option maxHeartbeats 2000000 in
theorem atN_calls (p : Nat) (v : Value) (most g : Int) (l : List Bd) (n : Int) (w : World) (h : TAt w p v most g l) :
    Calls Try.prog 19 #[.pointer (some ⟨p, 0, none⟩), .int .i64 n] w fun e w' => e = .returned (.tuple #[.agg (aV (atB l n).1), .int .i64 (atB l n).2.1, .int .i64 (atB l n).2.2]) ∧ Below w.heap.size w w' := by
  have hB0 : Below w.heap.size w (w.alloc (.cells z17 32)) := ((Touch.refl [] w).alloc _).below
  have hT := h.below hB0
  have hX := heap_alloc_new w (.cells z17 32)
  have hs := lt_of_block hX
  have HC : Hid (Calls Try.prog 23 #[.pointer (some ⟨p, 0, none⟩), .int .i64 n] (w.alloc (.cells z17 32)) fun e w' => e = .returned (.int .i64 (idxB l n)) ∧ Hid (Below w.heap.size w w') ∧ Hid (w'.heap[w.heap.size]? = some (.cells z17 32 (0, 0))) ∧ Hid (TAt w' p v most g l)) := Lib.hid ((index_calls p v most g l n _ hT).mono fun e w' hh =>
      ⟨hh.1, Lib.hid (hB0.trans (hh.2.mono hB0.size)), Lib.hid ((hh.2.block _ hs).trans hX), Lib.hid (hT.below hh.2)⟩)
  have HC0 : ∃ _ : True, ∀ k x, l[k]? = some x → ∃ g c, v = .slice (some ⟨g, 0, none⟩) l.length c ∧ p ≠ w.heap.size ∧ g ≠ w.heap.size := ⟨trivial, fun k x hk => by obtain ⟨g, c, e, _, hg⟩ := RB_at h.row k x hk; exact ⟨g, c, e, Nat.ne_of_lt (lt_of_block h.st), Nat.ne_of_lt hg⟩⟩
  obtain ⟨_, HC0⟩ := HC0
  clear h hT hX hs hB0
  go_enter Try.func19, Try.ntmps19
  by_cases hq : idxB l n < 0
  · have hd : decide (idxB l n < 0) = true := decide_eq_true hq
    have HA := Lib.hid (atB_no hq)
    generalize idxB l n = f at HC hd
    clear hq
    go_wp2_with (first | (go_at_call 23; refine HC.out.mono ?_; rintro e w' ⟨rfl, hb', hX', hT'⟩) | (refine gate_ (.store 32 (.tmp 4) (.tmp 13)) rfl ?_; go_must (refine st_Arow (.tmp 4) (.tmp 13) rfl rfl (z := zA 0) hX'.out rfl rfl rfl ?_)))
    refine bodyPost_ret (results_cell_row3 rfl _ _ w.heap.size _ (aV (zA 0)) _ _ rfl (setRow_heap _ _ _ _ _ _ hX'.out) Try.underlying32 rfl (by rw [aV_size]; exact sizA)) rfl ?_
    refine ⟨by rw [HA.out]; rfl, Below.setRow hb'.out (Nat.le_refl _) _⟩
  · obtain ⟨k, hk⟩ : ∃ k : Nat, idxB l n = k := ⟨(idxB l n).toNat, by omega⟩
    obtain ⟨x, hx, _, hA⟩ := atB_yes hk
    obtain ⟨gr, c, rfl, hn⟩ := (HC0 k x hx)
    have HN := Lib.hid hn
    clear hn
    rw [hk] at HC
    have hd : decide ((k : Int) < 0) = false := decide_eq_false (by omega)
    have HA := Lib.hid hA
    have HX := Lib.hid hx
    have hkl : (k : Int) < (l.length : Int) := by have := (List.getElem?_eq_some_iff.1 hx).1; omega
    have HC2 : Hid (Calls Try.prog 23 #[.pointer (some ⟨p, 0, none⟩), .int .i64 n] (w.alloc (.cells z17 32)) fun e w' => e = .returned (.int .i64 (k : Int)) ∧ w'.cell? ⟨p, 2, none⟩ = some (.slice (some ⟨gr, 0, none⟩) l.length c) ∧ w'.cell? ⟨gr, k * 19 + 18, none⟩ = some (.int .i64 x.p.port) ∧ Hid (w'.rangeAt gr (k * 19 + 1) (aL x.p.a)) ∧ Hid (w'.heap[w.heap.size]? = some (.cells z17 32 (0, 0))) ∧ Hid (Below w.heap.size w w')) := Lib.hid (HC.out.mono fun e w' hh => by
      obtain ⟨h1, h2, h3, h4⟩ := hh
      have h5 := cell_of_row _ _ 2 _ _ _ h4.out.st
      obtain ⟨g2, c2, e2, h6, _⟩ := RB_at h4.out.row k x hx
      injection e2 with e3 _ e4
      injection e3 with e3
      injection e3 with e3
      subst e3 e4
      exact ⟨h1, h5, cell_pB h6, Lib.hid (range_aB h6), h3, h2⟩)
    clear hq hk hx hA HC HC0
    go_wp2_with (first | (go_at_call 23; refine HC2.out.mono ?_; rintro e w' ⟨rfl, c2, cp, hR, hX', hb'⟩))
    have hLD : ∀ W : World, W.rangeAt gr (k * 19 + 1) (aL x.p.a) → (loadVar 32 ⟨gr, k * 19 + 1, none⟩).run Try.prog W = .ok (.agg (aV x.p.a)) W := fun W h => lvA h
    have hSV : (storeVar 32 ⟨w.heap.size, 0, none⟩ (.agg (aV x.p.a))).run Try.prog w'.drew = .ok () (w'.drew.setRow w.heap.size (aV x.p.a)) := svA hX'.out rfl
    go_region_held3 (fun W => W.cell? ⟨p, 2, none⟩ = some (.slice (some ⟨gr, 0, none⟩) l.length c) ∧ W.cell? ⟨gr, k * 19 + 18, none⟩ = some (.int .i64 x.p.port) ∧ W.rangeAt gr (k * 19 + 1) (aL x.p.a)) (first | exact ⟨c2, cp, hR.out⟩ | exact ⟨cell_setRow (w := w'.drew) c2 HN.out.1, cell_setRow (w := w'.drew) cp HN.out.2, range_setRow (w := w'.drew) hR.out HN.out.2⟩) (first | fail)
    go_wp2_with fail
    refine bodyPost_ret (results_cell_row3 rfl _ _ w.heap.size _ (aV x.p.a) _ _ rfl (setRow_heap w'.drew _ _ _ _ _ hX'.out) Try.underlying32 rfl (by rw [aV_size]; exact sizA)) rfl ?_
    refine ⟨by rw [HA.out]; rfl, Below.setRow (Below.drew hb'.out) (Nat.le_refl _) _⟩
end Go.Proofs.Ytgcafklieblldaa.SL
