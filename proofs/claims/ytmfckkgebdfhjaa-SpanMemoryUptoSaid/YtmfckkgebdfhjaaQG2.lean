/- span.joined and span.Add: what the sort, the copy and the join leave: the one list that joins the given spans, in memory of the call's own. -/
import Derived.Test.YtmfckkgebdfhjaaQx0
import Derived.Test.YtmfckkgebdfhjaaQT
import Derived.Lib.Hide
import Derived.Handy
import Derived.Shelf.Abstract
import Derived.Laws.CopyRow
namespace Go.Proofs.Ytmfckkgebdfhjaa.Q
open Go.RowKit Go.Proofs.YtmfckkgebdfhjaaW.PrintWords Go.Proofs.YtmfckkgebdfhjaaW.PrintLast Go.Proofs.YtmfckkgebdfhjaaW.PrintMore

/-! ### Spans as cells -/
def flat (xs : List Sp) : List Value := xs.flatMap fun s => [.int .i64 s.f0, .int .i64 s.f1]
theorem flat_cons (s : Sp) (xs : List Sp) : flat (s :: xs) = .int .i64 s.f0 :: .int .i64 s.f1 :: flat xs := rfl
theorem flat_append (xs ys : List Sp) : flat (xs ++ ys) = flat xs ++ flat ys := by simp [flat]
theorem flat_length (xs : List Sp) : (flat xs).length = xs.length * 2 := by
  induction xs with
  | nil => rfl
  | cons s xs ih => rw [flat_cons]; simp only [List.length_cons, ih]; omega
theorem flat_one (xs : List Sp) : ∀ u ∈ flat xs, u.oneCell' = true := by
  intro u hu
  obtain ⟨s, _, h⟩ := List.mem_flatMap.1 hu
  simp at h
  rcases h with rfl | rfl <;> rfl
theorem flat_get (xs : List Sp) (j : Nat) (h : j < xs.length) : (flat xs)[j * 2]? = some (.int .i64 xs[j].f0) ∧ (flat xs)[j * 2 + 1]? = some (.int .i64 xs[j].f1) := by
  induction xs generalizing j with
  | nil => simp at h
  | cons s xs ih =>
    rw [flat_cons]
    cases j with
    | zero => exact ⟨rfl, rfl⟩
    | succ j =>
      have := ih j (by simpa using h)
      rw [show (j + 1) * 2 = j * 2 + 1 + 1 by omega]
      simpa using this
theorem flat_set (xs : List Sp) (j : Nat) (h : j < xs.length) (x : Int) : (flat xs).set (j * 2 + 1) (.int .i64 x) = flat (xs.set j ⟨xs[j].f0, x⟩) := by
  induction xs generalizing j with
  | nil => simp at h
  | cons s xs ih =>
    rw [flat_cons]
    cases j with
    | zero => rfl
    | succ j =>
      have := ih j (by simpa using h)
      rw [show (j + 1) * 2 + 1 = j * 2 + 1 + 1 + 1 by omega]
      simp only [List.set_cons_succ, this, List.getElem_cons_succ, flat_cons]
theorem reps_flat {w : World} {base : Nat} {ok : Nat → Prop} : ∀ {xs : List Sp} {cs : List Value}, Reps (k24.M w base ok) 2 xs cs ↔ cs = flat xs
  | [], cs => ⟨fun h => by have := h.1; simp at this; exact this, fun h => by subst h; exact Reps.none _ _⟩
  | s :: xs, cs => by
    constructor
    · intro h
      have hl := h.1
      simp only [List.length_cons] at hl
      match cs, hl with
      | a :: b :: r, hl =>
        have h0 := h.2 0 s rfl
        simp at h0
        have e := k24_openM h0
        have hr : Reps (k24.M w base ok) 2 xs r := ⟨by simp at hl; omega, fun j p hj => by
          have := h.2 (j + 1) p (by simpa using hj)
          rwa [show (j + 1) * 2 = j * 2 + 1 + 1 by omega, List.drop_succ_cons, List.drop_succ_cons] at this⟩
        rw [reps_flat.1 hr, flat_cons]
        simp at e
        rw [e.1, e.2]
      | [a], hl => exact absurd hl (by simp; omega)
      | [], hl => exact absurd hl (by simp)
    · rintro rfl
      have hr : Reps (k24.M w base ok) 2 xs (flat xs) := reps_flat.2 rfl
      refine ⟨flat_length _, fun j p hj => ?_⟩
      cases j with
      | zero =>
        have : s = p := by simpa using hj
        subst this
        exact k24_mkM _ _ _ s
      | succ j =>
        have := hr.2 j p (by simpa using hj)
        rw [flat_cons, show (j + 1) * 2 = j * 2 + 1 + 1 by omega, List.drop_succ_cons, List.drop_succ_cons]
        exact this
/-- A row of spans of the call's own: its cells, and which block it may be. -/
theorem R_iff {w : World} {base : Nat} {ok : Nat → Prop} {v : Value} {xs : List Sp} :
    Kd.R k24 24 w base ok v xs ↔ (∀ k, v.ownBlock = some k → ok k) ∧ w.ownsRow base 24 2 v xs.length (flat xs) := by
  constructor
  · rintro ⟨h0, inner, ho, hr⟩
    exact ⟨h0, by rw [← reps_flat.1 hr]; exact ho⟩
  · rintro ⟨h0, ho⟩
    exact ⟨h0, flat xs, ho, reps_flat.2 rfl⟩
/-- A store into a span's end. -/
theorem R_setTo {w : World} {base g n cap : Nat} {ok : Nat → Prop} {xs : List Sp} (h : Kd.R k24 24 w base ok (.slice (some ⟨g, 0, none⟩) n cap) xs) (j : Nat) (hj : j < xs.length) (x : Int) :
    Kd.R k24 24 (w.setCell ⟨g, j * 2 + 1, none⟩ (.int .i64 x)) base ok (.slice (some ⟨g, 0, none⟩) n cap) (xs.set j ⟨xs[j].f0, x⟩) := by
  rw [R_iff] at *
  obtain ⟨h0, ho⟩ := h
  refine ⟨h0, ?_⟩
  have hn : n = xs.length := by
    rcases ho.2 with ⟨h1, _⟩ | ⟨_, _, _, h1, _⟩
    · cases h1
    · injection h1
  have := ho
  rw [← flat_set xs j hj x]
  rw [List.length_set]
  subst hn
  exact (ho.stored (j * 2 + 1) (.int .i64 x)).1

theorem R_setLast {w : World} {base g n cap : Nat} {ok : Nat → Prop} {t : Sp} {r : List Sp} (h : Kd.R k24 24 w base ok (.slice (some ⟨g, 0, none⟩) n cap) (t :: r).reverse) (x : Int) :
    Kd.R k24 24 (w.setCell ⟨g, r.length * 2 + 1, none⟩ (.int .i64 x)) base ok (.slice (some ⟨g, 0, none⟩) n cap) ((⟨t.f0, x⟩ : Sp) :: r).reverse := by
  have hlt : r.length < (t :: r).reverse.length := by simp
  have h1 := R_setTo h r.length hlt x
  have h2 : (t :: r).reverse[r.length] = t := by simp
  rw [h2] at h1
  have h3 : (t :: r).reverse.set r.length ⟨t.f0, x⟩ = ((⟨t.f0, x⟩ : Sp) :: r).reverse := by
    rw [List.reverse_cons, List.reverse_cons, List.set_append_right _ _ (by simp)]
    simp
  rw [h3] at h1
  exact h1

/-! ### A copy over a whole row -/
section
variable {P : Program}
theorem run_copy_all (w : World) (dT sT ty elem : TypeId) (g n dCap c k : Nat) (A : Option Addr) (cur : Array Value) (t : TypeId) (cs : List Value)
    (hu : P.underlying dT = some (.slice elem)) (hs : (P.info? elem).map (·.size) = some k)
    (hg : w.heap[g]? = some (.cells cur t (0, 0))) (hcur : n * k ≤ cur.size) (hcs : cs.length = n * k)
    (hsrc : 0 < n → ∃ ad, A = some ad ∧ ∀ j v, cs[j]? = some v → w.cell? (ad.add j) = some v) (h1 : ∀ v ∈ cs, v.oneCell' = true) :
    (Builtin.copy_ #[dT, sT] ty #[.slice (some ⟨g, 0, none⟩) n dCap, .slice A n c]).run P w = .ok (goInt n) (w.setRow g (cs ++ cur.toList.drop (n * k)).toArray) := by
  cases hq : P.info? elem with
  | none => simp [hq] at hs
  | some i =>
    have hi : i.size = k := by simpa [hq] using hs
    rcases Nat.eq_zero_or_pos n with h0 | h0
    · subst h0
      have hc0 : cs = [] := List.eq_nil_of_length_eq_zero (by simpa using hcs)
      subst hc0
      have hl : ∀ x : Addr, (loadCells x 0).run P w = .ok #[] w := fun x => by simpa using run_loadCells_list (P := P) w x [] (by simp)
      have hset := setRow_self w g cur t (0, 0) hg
      cases A <;> simp [Builtin.copy_, run_underlying hu, Builtin.lenOf, Builtin.firstCells, sizeOf, typeInfo, hq, storeCells, hl, hset]
    · obtain ⟨ad, rfl, hcell⟩ := hsrc h0
      have hl := run_loadCells_list (P := P) w ad cs hcell
      have hst := run_storeCells_at P g 0 t cs 0 cur w hg (by omega) h1
      have he : (cur.toList.take (0 + 0) ++ cs ++ cur.toList.drop (0 + 0 + cs.length)).toArray = (cs ++ cur.toList.drop (n * k)).toArray := by
        rw [hcs]; simp
      rw [he] at hst
      rw [hcs] at hl
      simp [Builtin.copy_, run_underlying hu, Builtin.lenOf, Builtin.firstCells, sizeOf, typeInfo, hq, hi, hl, hst]
theorem wpList_copy_all {w : World} {ops : Array Oper} {rest : List Oper} {o : Oper} {a : Act} {Q : Exit → Act → World → Prop} (hgd : o.guard = none) (d s : Operand) (dT sT : TypeId)
    (ho : o.op = .call { callee := .builtin .copy, args := #[d, s], argTypes := #[dT, sT] }) (elem : TypeId) (hu : P.underlying dT = some (.slice elem)) (k : Nat) (hsz : (P.info? elem).map (·.size) = some k)
    (g n dCap c : Nat) (A : Option Addr) (hd : a.eval d = .slice (some ⟨g, 0, none⟩) n dCap) (hs : a.eval s = .slice A n c)
    (cur : Array Value) (t : TypeId) (hg : w.heap[g]? = some (.cells cur t (0, 0))) (cs : List Value) (hcur : n * k ≤ cur.size) (hcs : cs.length = n * k)
    (hsrc : 0 < n → ∃ ad, A = some ad ∧ ∀ j v, cs[j]? = some v → w.cell? (ad.add j) = some v) (h1 : ∀ v ∈ cs, v.oneCell' = true)
    (h : ∀ w', Hid (w'.heap[g]? = some (.cells (cs ++ cur.toList.drop (n * k)).toArray t (0, 0))) → Hid (w.grownBy w' (some g)) → wpList P ops Q rest (a.put o.dst (goInt n)) w') : wpList P ops Q (o :: rest) a w := by
  refine wpList_plain hgd fun K hK => ?_
  have hrun := run_copy_all (P := P) w dT sT o.type elem g n dCap c k A cur t cs hu hsz hg hcur hcs hsrc h1
  unfold Oper.wp
  simp [execOp, ho, resolve, invoke, builtin, hd, hs, hrun, Result.andThen]
  exact hK _ _ (h _ (Lib.hid (setRow_heap w g cur _ t _ hg)) (Lib.hid ⟨rfl, rfl, rfl, by simp [World.setRow], fun i _ hi => setRow_other w g i _ (fun e => hi (by rw [e]))⟩))
end
/-- The cells of a slice that came in. -/
theorem C_flat {w : World} {A : Option Addr} {xs : List Sp} (h : Kd.C k24 w A xs.length xs) (h0 : 0 < xs.length) : ∃ ad, A = some ad ∧ ∀ j v, (flat xs)[j]? = some v → w.cell? (ad.add j) = some v := by
  obtain ⟨ad, rfl, hc⟩ := h.2.2 h0
  refine ⟨ad, rfl, fun j v hv => ?_⟩
  have hj : j < (flat xs).length := (List.getElem?_eq_some_iff.1 hv).1
  rw [flat_length] at hj
  have hlt : j / 2 < xs.length := by omega
  obtain ⟨c, hl, hK, hcell⟩ := hc (j / 2) xs[j / 2] (List.getElem?_eq_getElem hlt)
  have e := k24_open hK
  obtain ⟨g0, g1⟩ := flat_get xs (j / 2) hlt
  rcases Nat.mod_two_eq_zero_or_one j with hm | hm
  · have hjj : j = j / 2 * 2 := by omega
    have := hcell 0 (.int .i64 xs[j / 2].f0) (by rw [e]; rfl)
    rw [hjj, g0] at hv
    injection hv with hv
    rw [hjj, ← hv]
    exact this
  · have hjj : j = j / 2 * 2 + 1 := by omega
    have := hcell 1 (.int .i64 xs[j / 2].f1) (by rw [e]; rfl)
    rw [hjj, g1] at hv
    injection hv with hv
    rw [hjj, ← hv]
    exact this

/-- WHAT THE SORT IS ASKED: a row of the call's own, at the head of its block: sorted by its starts, nothing else turned. -/
def SortOk : Prop := ∀ (g n : Nat) (d : List Sp) (w : World), n = d.length → n < 4611686018427387904 → (∀ s ∈ d, goodB s = true) → w.heap[g]? = some (.cells (flat d).toArray 24 (0, 0)) →
  Calls Try.prog 40 #[.slice (some ⟨g, 0, none⟩) n n, .func (.func 41) #[] #[]] w fun e w' => e = .returned (.tuple #[]) ∧
    ∃ d' : List Sp, d'.Perm d ∧ d'.Pairwise (fun x y => x.f0 ≤ y.f0) ∧ w'.heap[g]? = some (.cells (flat d').toArray 24 (0, 0)) ∧ w.grownBy w' (some g)

theorem below_drewN1 {B : Nat} {a w : World} (h : Below B a w) (n : Nat) : Below B a (w.drewN n) := ⟨h.os, h.tape, h.output, h.size, h.block⟩
theorem put1_nil (s : Sp) : put1 [] s = [s] := rfl
theorem put1_join (t s : Sp) (r : List Sp) (h : s.f0 ≤ t.f1) : put1 (t :: r) s = ⟨t.f0, mx t.f1 s.f1⟩ :: r := by simp [put1, h]
theorem put1_new (t s : Sp) (r : List Sp) (h : ¬ s.f0 ≤ t.f1) : put1 (t :: r) s = s :: t :: r := by simp [put1, h]
theorem put1_len (r : List Sp) (s : Sp) : (put1 r s).length ≤ r.length + 1 := by
  cases r with
  | nil => simp [put1]
  | cons t r =>
    by_cases h : s.f0 ≤ t.f1
    · rw [put1_join t s r h]; simp
    · rw [put1_new t s r h]; simp
theorem foldl_put1_len : ∀ (l r : List Sp), (l.foldl put1 r).length ≤ r.length + l.length
  | [], r => by simp
  | s :: l, r => by
    have := foldl_put1_len l (put1 r s)
    have := put1_len r s
    simp only [List.foldl_cons, List.length_cons]; omega
theorem run_make_sp (n : Nat) (hn : n < 8796093022208) (W : World) :
    (Instr.makeSlice 22 (.int .i64 (n : Int)) (.int .i64 (n : Int))).run Try.prog W = .ok (.slice (some ⟨W.heap.size, 0, none⟩) n n) (W.alloc (.cells (madeCells #[.int .i64 0, .int .i64 0] (n * 2)) 24)) := by
  obtain ⟨i0, hi, hz0, hz1, hz2⟩ := info_parts info24
  have h := run_make (P := Try.prog) W 22 24 i0 _ Try.underlying22 hi hz0 .i64 .i64 n n (by omega) (by omega) (by rw [hz2]; omega) (by omega)
  simp only [Int.toNat_natCast, hz1] at h
  exact h
theorem run_make_sp1 (n : Nat) (hn : n + 1 < 8796093022208) (W : World) :
    (Instr.makeSlice 22 (.int .i64 (n : Int)) (.int .i64 ((n : Int) + 1))).run Try.prog W = .ok (.slice (some ⟨W.heap.size, 0, none⟩) n (n + 1)) (W.alloc (.cells (madeCells #[.int .i64 0, .int .i64 0] ((n + 1) * 2)) 24)) := by
  obtain ⟨i0, hi, hz0, hz1, hz2⟩ := info_parts info24
  have h := run_make (P := Try.prog) W 22 24 i0 _ Try.underlying22 hi hz0 .i64 .i64 n ((n : Int) + 1) (by omega) (by omega) (by rw [hz2]; omega) (by omega)
  simp only [Int.toNat_natCast, hz1, show ((n : Int) + 1).toNat = n + 1 by omega] at h
  exact h
theorem info_size : (Try.prog.info? 24).map (·.size) = some 2 := by kernel_rfl
theorem below_setRow' {B g : Nat} {w0 w : World} (hb : Below B w0 w) (hBg : B ≤ g) (cs : Array Value) : Below B w0 (w.setRow g cs) :=
  hb.trans ⟨rfl, rfl, rfl, by simp [World.setRow], fun k hk => setRow_other w g k cs (by omega)⟩
set_option maxHeartbeats 4000000 in
theorem joined_core (hsort : SortOk) (A0 : Option Addr) (c0 : Nat) (l0 : List Sp) (w : World) (hr0 : Kd.C k24 w A0 l0.length l0) (hlen : l0.length < 8796093022208) (hgood : ∀ s ∈ l0, goodB s = true) :
    Calls Try.prog 33 #[.slice A0 l0.length c0] w fun e w' => ∃ v0_ : Value, e = .returned (v0_) ∧ Kd.R k24 24 w' w.heap.size (fun _ => True) v0_ (joinS l0) ∧ Below w.heap.size w w' := by
  have HR := Lib.hid hr0
  have HG := Lib.hid hgood
  have HS := Lib.hid hsort
  clear hr0 hgood hsort
  have hmk := run_make_sp l0.length hlen
  have hb1 : Below w.heap.size w (w.alloc (.cells (madeCells #[.int .i64 0, .int .i64 0] (l0.length * 2)) 24)) := (Below.refl _ _).alloc (Nat.le_refl _) _
  have hg1 := heap_alloc_new w (.cells (madeCells #[.int .i64 0, .int .i64 0] (l0.length * 2)) 24)
  have HB1 := Lib.hid hb1
  have HG1 := Lib.hid hg1
  clear hb1 hg1
  go_enter Try.func33, Try.ntmps33
  go_wp2_with ((with_reducible refine wpList_copy_all (o := ⟨some 13, _, _, _, _, _⟩) ?cg (.tmp 11) (.tmp 12) 22 22 ?co 24 Try.underlying22 2 info_size w.heap.size l0.length l0.length c0 A0 ?cd ?cs (madeCells #[.int .i64 0, .int .i64 0] (l0.length * 2)) 24 HG1.out (flat l0) (by rw [size_madeCells]; exact Nat.le_refl _) (flat_length _) ?c3 (flat_one _) ?c5))
  case cg => rfl
  case co => rfl
  case cd => rfl
  case cs => rfl
  case c3 =>
    intro h0
    exact C_flat (Kd.C_below HR.out HB1.out) h0
  intro w2 hG2 hGR2
  have hg2 := hG2.out
  rw [List.drop_eq_nil_of_le (by rw [Array.length_toList, size_madeCells]; exact Nat.le_refl _), List.append_nil] at hg2
  have hb2 : Below w.heap.size w w2 := HB1.out.grown hGR2.out (by simp) (fun k h => by injection h with h; omega)
  clear hG2 hGR2
  have HS2 := Lib.hid (HS.out w.heap.size l0.length l0 w2 rfl (by omega) HG.out hg2)
  have HB2 := Lib.hid hb2
  clear hg2 hb2
  go_wp2_with fail
  refine HS2.out.mono ?_
  rintro e w3 ⟨rfl, d, hp, hs, hg3, hgr⟩
  have hb3 : Below w.heap.size w w3 := HB2.out.trans ⟨hgr.os, hgr.tape, hgr.output, hgr.size, fun k hk => hgr.block k (by have := HB2.out.size; omega) (fun h => by injection h with h; omega)⟩
  have hdl : d.length = l0.length := hp.length_eq
  have hfin : joinS l0 = (d.foldl put1 []).reverse := (mergeR_joinS l0 d HG.out hp hs).symm
  have hg3' : w.heap.size < w3.heap.size := (Array.getElem?_eq_some_iff.1 hg3).1
  have HF := Lib.hid hfin
  have HG3 := Lib.hid hg3
  have HB3 := Lib.hid hb3
  have HD := Lib.hid hdl
  clear hfin hg3 hb3 hp hs hgr hdl
  go_wp2_with fail
  go_loopg [4, 18] l0.length (fun gg v4 v18 wr => ∃ kk : Nat, kk ≤ l0.length ∧ l0.length - kk ≤ gg ∧ v18 = .int .i64 kk ∧ Hid (Kd.R k24 24 wr (w.heap.size + 1) (fun _ => True) v4 ((d.take kk).foldl put1 []).reverse) ∧ Hid (Below (w.heap.size + 1) w3 wr))
  case atStart => exact ⟨0, Nat.zero_le _, by omega, rfl, Lib.hid (Kd.R_nil _ _ _ _ _), Lib.hid (Below.refl _ _)⟩
  case round =>
    obtain ⟨kk, hkk, hgk, rfl, HO, HW⟩ := hrel
    have hsz : w.heap.size < wr.heap.size := by have := HW.out.size; omega
    by_cases hlt : kk < l0.length
    · have hltz : (kk : Int) < (l0.length : Int) := by omega
      have hld : kk < d.length := by rw [HD.out]; exact hlt
      have hgb : wr.heap[w.heap.size]? = some (.cells (flat d).toArray 24 (0, 0)) := (HW.out.block _ (by omega)).trans HG3.out
      obtain ⟨f0, f1⟩ := flat_get d kk hld
      have c0 : wr.cell? ⟨w.heap.size, kk * 2, none⟩ = some (.int .i64 d[kk].f0) := (cell_of_row wr _ _ _ _ _ hgb).trans (by simpa using f0)
      have c1 : wr.cell? ⟨w.heap.size, kk * 2 + 1, none⟩ = some (.int .i64 d[kk].f1) := (cell_of_row wr _ _ _ _ _ hgb).trans (by simpa using f1)
      have htk : (d.take (kk + 1)).foldl put1 [] = put1 ((d.take kk).foldl put1 []) d[kk] := by
        rw [List.take_succ_eq_append_getElem hld, List.foldl_append]; rfl
      have HT := Lib.hid htk
      have hlen2 := foldl_put1_len (d.take kk) []
      simp only [List.length_nil, Nat.zero_add, List.length_take] at hlen2
      clear htk f0 f1 hgb
      generalize (d.take kk).foldl put1 [] = r at HO HT hlen2
      generalize d[kk] = s at c0 c1 HT
      cases r with
      | nil =>
        rw [show ([] : List Sp).reverse = [] from rfl] at HO
        obtain ⟨A, c, hv⟩ := own_slice (R_iff.1 HO.out).2
        rw [List.length_nil] at hv
        subst hv
        go_wp2_with fail
        go_quiet (fail)
        have b0 : ((wr.alloc (.cells #[.int .i64 s.f0, .int .i64 s.f1] 24)).drewN nq).cell? ⟨wr.heap.size, 0, none⟩ = some (.int .i64 s.f0) := cell_of_row _ _ _ _ _ _ (heap_alloc_new wr (.cells #[.int .i64 s.f0, .int .i64 s.f1] 24))
        have b1 : ((wr.alloc (.cells #[.int .i64 s.f0, .int .i64 s.f1] 24)).drewN nq).cell? ⟨wr.heap.size, 1, none⟩ = some (.int .i64 s.f1) := cell_of_row _ _ _ _ _ _ (heap_alloc_new wr (.cells #[.int .i64 s.f0, .int .i64 s.f1] 24))
        have hR5 := Kd.R_drewN (Kd.R_alloc HO.out (.cells #[.int .i64 s.f0, .int .i64 s.f1] 24)) nq
        have hB5 := below_drewN1 (HW.out.alloc (by omega) (.cells #[.int .i64 s.f0, .int .i64 s.f1] 24)) nq
        have hs5 : w.heap.size + 1 ≤ ((wr.alloc (.cells #[.int .i64 s.f0, .int .i64 s.f1] 24)).drewN nq).heap.size := by simp; omega
        generalize (wr.alloc (.cells #[.int .i64 s.f0, .int .i64 s.f1] 24)).drewN nq = W5 at b0 b1 hR5 hB5 hs5 ⊢
        have HR5 := Lib.hid hR5
        have HB5 := Lib.hid hB5
        clear hR5 hB5 c0 c1
        go_wp2_with (at_builtin; refine Kd.R_append k24 (w0 := w3) (w.heap.size + 1) rfl (.tmp 51) (.tmp 53) 22 24 _ 16 rfl Try.underlying22 info24 rfl (by decide) (by decide) _ ([] : List Sp) s [.int .i64 s.f0, .int .i64 s.f1] (fun _ => True) (fun _ => False) rfl rfl (k24_mkM _ _ _ s) (fun _ h => h.elim) (fun _ _ => trivial) HR5.out HB5.out hs5 (by simp) ?_)
        intro v1 w4 hR4 hB4 _ _
        have HR4 := Lib.hid hR4
        have HB4 := Lib.hid hB4
        clear hR4 hB4
        go_wp2_with fail
        go_roundg (l0.length - (kk + 1))
        case measure => omega
        case rel =>
          refine ⟨kk + 1, by omega, by omega, by go_num, ?_, HB4⟩
          rw [HT.out]
          exact HR4
      | cons t r =>
        have hrl : (t :: r).reverse.length = r.length + 1 := by simp
        have hown := (R_iff.1 HO.out).2
        obtain ⟨gO, cap, hv, hgb, hgl⟩ := hown.form (by rw [hrl]; omega)
        have hget : (t :: r).reverse[r.length]? = some t := by simp
        have hlt2 : r.length < (t :: r).reverse.length := by rw [hrl]; omega
        have hget' : (t :: r).reverse[r.length] = t := by simp
        obtain ⟨g0, g1⟩ := flat_get (t :: r).reverse r.length hlt2
        rw [hget'] at g0 g1
        rw [hv] at hown
        have d0 := (hown.cellAt (r.length * 2) (by rw [hrl]; omega)).trans g0
        have d1 := (hown.cellAt (r.length * 2 + 1) (by rw [hrl]; omega)).trans g1
        have dfz := hown.frozenAt (r.length * 2 + 1)
        have hml : r.length + 1 ≤ kk := by simp only [List.length_cons] at hlen2; omega
        rw [hv] at HO
        rw [hrl] at HO hv
        subst hv
        clear hown g0 g1 hget hlt2 hget' hrl hlen2
        generalize hm : r.length = m at HO d0 d1 dfz hml
        have HM := Lib.hid hm
        clear hm
        go_wp2_with fail
        have hgl4 : gO < (wr.alloc (.cells #[.int .i64 s.f0, .int .i64 s.f1] 24)).heap.size := by simp; omega
        have b0 : (wr.alloc (.cells #[.int .i64 s.f0, .int .i64 s.f1] 24)).cell? ⟨wr.heap.size, 0, none⟩ = some (.int .i64 s.f0) := cell_of_row _ _ _ _ _ _ (heap_alloc_new wr (.cells #[.int .i64 s.f0, .int .i64 s.f1] 24))
        have b1 : (wr.alloc (.cells #[.int .i64 s.f0, .int .i64 s.f1] 24)).cell? ⟨wr.heap.size, 1, none⟩ = some (.int .i64 s.f1) := cell_of_row _ _ _ _ _ _ (heap_alloc_new wr (.cells #[.int .i64 s.f0, .int .i64 s.f1] 24))
        have hR4 := Kd.R_alloc HO.out (.cells #[.int .i64 s.f0, .int .i64 s.f1] 24)
        have hB4 := HW.out.alloc (by omega) (.cells #[.int .i64 s.f0, .int .i64 s.f1] 24)
        have hs4 : w.heap.size + 1 ≤ (wr.alloc (.cells #[.int .i64 s.f0, .int .i64 s.f1] 24)).heap.size := by simp; omega
        have cm0 := (World.cell?_alloc_lt wr (.cells #[.int .i64 s.f0, .int .i64 s.f1] 24) ⟨gO, m * 2, none⟩ hgl).trans d0
        have cm1 := (World.cell?_alloc_lt wr (.cells #[.int .i64 s.f0, .int .i64 s.f1] 24) ⟨gO, m * 2 + 1, none⟩ hgl).trans d1
        have cfz : (wr.alloc (.cells #[.int .i64 s.f0, .int .i64 s.f1] 24)).frozen? ⟨gO, m * 2 + 1, none⟩ = false := (World.frozen?_of_block (Below.heap_alloc wr _ gO hgl)).trans dfz
        clear d0 d1 dfz
        have hne : gO ≠ wr.heap.size := by omega
        generalize wr.alloc (.cells #[.int .i64 s.f0, .int .i64 s.f1] 24) = W4 at b0 b1 hR4 hB4 hs4 hgl4 cm0 cm1 cfz ⊢
        have HR4 := Lib.hid hR4
        have HB4 := Lib.hid hB4
        clear hR4 hB4 HO HW c0 c1
        by_cases hle : s.f0 ≤ t.f1
        · have dle : decide (s.f0 ≤ t.f1) = true := by simpa using hle
          go_quiet (fail)
          go_wp2_with fail
          rcases mx_cases t.f1 s.f1 with ⟨hmx, hme⟩ | ⟨hmx, hme⟩
          all_goals
            have HE := Lib.hid hme
            clear hme
            go_region
            go_wp2_with fail
            go_roundg (l0.length - (kk + 1))
            case measure => omega
            case rel =>
              have e := HM.out
              subst e
              refine ⟨kk + 1, by omega, by omega, by go_num, ?_, Lib.hid ((below_drewN1 HB4.out _).setCell (by simp; omega) _)⟩
              rw [HT.out, put1_join t s r hle, HE.out]
              exact Lib.hid (by have h := R_setLast (Kd.R_drewN HR4.out (nq + 1)) (mx t.f1 s.f1); rw [HE.out] at h; simpa using h)
        · have dle : decide (s.f0 ≤ t.f1) = false := by simpa using hle
          go_quiet (fail)
          have b0' : (W4.drewN nq).cell? ⟨wr.heap.size, 0, none⟩ = some (.int .i64 s.f0) := b0
          have b1' : (W4.drewN nq).cell? ⟨wr.heap.size, 1, none⟩ = some (.int .i64 s.f1) := b1
          have hR5 := Kd.R_drewN HR4.out nq
          have hB5 := below_drewN1 HB4.out nq
          have hs5 : w.heap.size + 1 ≤ (W4.drewN nq).heap.size := hs4
          clear b0 b1 cm0 cm1
          generalize W4.drewN nq = W5 at b0' b1' hR5 hB5 hs5 ⊢
          have HR5 := Lib.hid hR5
          have HB5 := Lib.hid hB5
          clear hR5 hB5
          go_wp2_with (at_builtin; refine Kd.R_append k24 (w0 := w3) (w.heap.size + 1) rfl (.tmp 51) (.tmp 53) 22 24 _ 16 rfl Try.underlying22 info24 rfl (by decide) (by decide) _ (t :: r).reverse s [.int .i64 s.f0, .int .i64 s.f1] (fun _ => True) (fun _ => False) rfl rfl (k24_mkM _ _ _ s) (fun _ h => h.elim) (fun _ _ => trivial) HR5.out HB5.out hs5 (by have e := HM.out; simp only [List.length_reverse, List.length_cons]; omega) ?_)
          intro v1 w4 hR6 hB6 _ _
          have HR6 := Lib.hid hR6
          have HB6 := Lib.hid hB6
          clear hR6 hB6
          go_wp2_with fail
          go_roundg (l0.length - (kk + 1))
          case measure => omega
          case rel =>
            refine ⟨kk + 1, by omega, by omega, by go_num, ?_, HB6⟩
            rw [HT.out, put1_new t s r (by omega)]
            exact Lib.hid (by have h := HR6.out; rw [show (s :: t :: r).reverse = r.reverse ++ [t, s] from by simp]; first | exact h | simpa using h)
    · obtain rfl : kk = l0.length := by omega
      go_wp2_with fail
      go_ret
      have hfl : d.take l0.length = d := List.take_of_length_le (by rw [HD.out]; exact Nat.le_refl _)
      have hR := HO.out
      rw [hfl, ← HF.out] at hR
      exact ⟨_, rfl, Kd.R_lower hR (Nat.le_succ _), HB3.out.trans (HW.out.mono (Nat.le_succ _))⟩
end Go.Proofs.Ytmfckkgebdfhjaa.Q
