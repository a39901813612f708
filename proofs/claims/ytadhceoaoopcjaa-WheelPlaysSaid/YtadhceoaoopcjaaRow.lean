/- How the arguments of the statements read: lists of timers, of calls, of ticks, opened to their values. No condition. -/
import Derived.Test.YtadhceoaoopcjaaWO
import Derived.Test.YtadhceoaoopcjaaRows
import Derived.Deep.Slices
import Derived.Deep.Fields
import Derived.ChangeSame
import Derived.WalkKit
import Derived.ProofKit
import Derived.OpenShut
import Derived.ChangeOld
import Derived.Below
import Derived.SizedLaws
import Derived.JoinedCond
import Derived.Deep.CondSized
import Derived.Lib.SmallJoins
namespace Go.Proofs.Ytadhceoaoopcjaa.SL
open Go.ChangeShapes Go.WideShapes Go.ChangeAt Go.RowKit Go.Deep Go.Joins Go.Proofs.YtadhceoaoopcjaaW.PrintWords Go.Proofs.YtadhceoaoopcjaaW.PrintLast Go.Proofs.YtadhceoaoopcjaaW.PrintMore
section
variable {H : Type} {enc : TypeId × Value → H} {P : Program} {w : World} {base : Nat} {spare : Nat → Bool} {held : Bool}
theorem open_slice_fields {t e : TypeId} {fs : Array Field} {fuel : Nat} {cs : List Value} {x : DataW H × List MemPlace} (ht : P.underlying t = some (.slice e)) (he : P.underlying e = some (.struct fs))
    (hone : oneCellFields P fs = true) (hC : P.cellsOf e = fs.size) (h : DataW.trod enc P w base spare held fuel t cs = some x) :
    (cs = [.slice none 0 0] ∧ x = (.nil, [])) ∨
    ∃ (a : Addr) (len cap m : Nat) (D : Nat → DataW H) (Pl : Nat → List MemPlace), cs = [.slice (some a) len cap] ∧ base ≤ a.block ∧ len ≤ cap ∧ cap ≤ maxLen ∧ m = (if spare a.block then cap else len) ∧
      x = (.slice ((List.range len).map D) ((List.range (m - len)).map fun j => D (len + j)), MemPlace.row a (m * fs.size) ++ (List.range m).flatMap Pl) ∧
      ∀ i, i < m → ∃ (ys : List (DataW H × List MemPlace)) (n : Nat), D i = .agg (ys.map (·.1)) ∧ Pl i = ys.flatMap (·.2) ∧ ys.length = fs.size ∧
        ∀ (j : Nat) (f : Field), fs[j]? = some f → ∃ (v : Value) (y : DataW H × List MemPlace), w.cell? (a.add (i * fs.size + j)) = some v ∧ ys[j]? = some y ∧ DataW.trod enc P w base spare held n f.type [v] = some y := by
  rcases open_slice ht h with h0 | ⟨a, len, cap, m, n, D, Pl, hcs, hb, hl, hm, hmm, hx, hi⟩
  · exact .inl h0
  · refine .inr ⟨a, len, cap, m, D, Pl, hcs, hb, hl, hm, hmm, by rw [hC] at hx; exact hx, fun i him => ?_⟩
    obtain ⟨cs', hc, ht'⟩ := hi i him
    rw [hC] at hc
    obtain ⟨ys, n', hn', hy, hlen, hyl, hf⟩ := DataW.trod_struct he ht'
    obtain ⟨_, hcl, hat⟩ := World.cells?_some hc
    simp only [Prod.mk.injEq] at hy
    refine ⟨ys, n', hy.1, hy.2, hyl, fun j f hj => ?_⟩
    obtain ⟨ho, hk⟩ := hone_of hone j f hj
    have hjl : j < fs.size := (Array.getElem?_eq_some_iff.1 hj).1
    have hcell := hat j hjl
    have hv : cs'[j]? = some (cs'[j]'(by omega)) := List.getElem?_eq_getElem (by omega)
    have h1 := hf j f hj
    rw [ho, hk] at h1
    have hone' : (cs'.drop j).take 1 = [cs'[j]'(by omega)] := by
      rw [List.drop_eq_getElem_cons (by omega)]
      rfl
    rw [hone'] at h1
    have hys : ys[j]? = some (ys[j]'(by omega)) := List.getElem?_eq_getElem (by omega)
    refine ⟨_, _, ?_, hys, h1.trans hys⟩
    rw [← Go.Deep.add_add, hcell, hv]
end
theorem list_of {α : Type} {R : Nat → α → Prop} : ∀ n, (∀ i, i < n → ∃ s, R i s) → ∃ zs : List α, zs.length = n ∧ ∀ i s, zs[i]? = some s → R i s
  | 0, _ => ⟨[], rfl, fun i s h => by simp at h⟩
  | n + 1, h => by
    obtain ⟨zs, hl, hz⟩ := list_of n (fun i hi => h i (by omega))
    obtain ⟨s, hs⟩ := h n (by omega)
    refine ⟨zs ++ [s], by simp [hl], fun i t ht => ?_⟩
    rcases Nat.lt_or_ge i zs.length with hi | hi
    · rw [List.getElem?_append_left hi] at ht; exact hz i t ht
    · rw [List.getElem?_append_right hi] at ht
      have : i - zs.length = 0 := by
        rcases Nat.lt_or_ge (i - zs.length) 1 with h1 | h1
        · omega
        · rw [List.getElem?_eq_none (by simpa using h1)] at ht; cases ht
      rw [this] at ht
      simp at ht
      obtain rfl := ht
      have : i = n := by omega
      rw [this]; exact hs
structure Tm where
  far : Int
  can : Bool
def tmL (x : Tm) : List Value := [.int .i64 x.far, .bool x.can]
theorem tmL_len (x : Tm) : (tmL x).length = 2 := rfl
theorem tmL_one (x : Tm) : ∀ u ∈ tmL x, u.oneCell' = true := fun u hu => by
  simp only [tmL, List.mem_cons, List.not_mem_nil, or_false] at hu
  rcases hu with rfl | rfl <;> rfl
abbrev kTm : Kd Tm := kF 2 tmL tmL_len tmL_one
def TmR (s : Tm) : Prop := (-9223372036854775808 ≤ s.far ∧ s.far ≤ 9223372036854775807)
section
variable {H : Type} {enc : TypeId × Value → H} {w : World} {base : Nat} {spare : Nat → Bool} {held : Bool}
set_option maxRecDepth 100000 in
theorem open_timers {b0 : Nat} {v : Value} {d : DataW H} {p : List MemPlace} {ts : List TypeId} {ds : List (DataW H)} {j : Nat}
    (hv : Value.okWide Try.prog w .any b0 41 v) (h : DataW.Trod enc Try.prog w base spare held 41 v d p)
    (hsz : (DataW.weightsEach Try.prog ts ds).all (· ≤ reachBytes) = true) (ht : ts[j]? = some 41) (hd : ds[j]? = some d) :
    ∃ a cap, ∃ zs : List Tm, v = .slice a zs.length cap ∧ zs.length ≤ cap ∧ kTm.C w a zs.length zs ∧ zs.length * 16 ≤ 140737488351232 ∧ ∀ x ∈ zs, TmR x := by
  obtain ⟨a, len, cap, rfl⟩ := okWide_slice Try.underlying41 hv
  obtain ⟨fuel, hf⟩ := h
  rcases open_slice_fields Try.underlying41 Try.underlying78 (by kernel_rfl) (by kernel_rfl) hf with ⟨hcs, hx⟩ | ⟨x, l, c, m, D, Pl, hcs, _, hl, hm, hmm, hx, hcell⟩
  · simp [Value.cells] at hcs
    obtain ⟨rfl, rfl, rfl⟩ := hcs
    exact ⟨none, 0, [], rfl, Nat.le_refl _, ⟨rfl, by simp, fun h => absurd h (by simp)⟩, by simp, by simp⟩
  · simp [Value.cells] at hcs
    obtain ⟨rfl, rfl, rfl⟩ := hcs
    have hlm : len ≤ m := by rw [hmm]; split <;> omega
    obtain ⟨zs, hzl, hz⟩ := list_of (R := fun i (s : Tm) => w.cell? (x.add (i * 2 + 0)) = some (.int .i64 s.far) ∧ w.cell? (x.add (i * 2 + 1)) = some (.bool s.can) ∧ (-9223372036854775808 ≤ s.far ∧ s.far ≤ 9223372036854775807)) len (fun i hi => by
      obtain ⟨ys, n, _, _, _, hf⟩ := hcell i (by omega)
      obtain ⟨v0, y0, c0, _, t0⟩ := hf 0 _ rfl
      obtain ⟨v1, y1, c1, _, t1⟩ := hf 1 _ rfl
      obtain ⟨n0, e0, _, g0⟩ := DataW.trod_int Try.underlying2 t0
      obtain rfl : v0 = .int .i64 n0 := by simpa using e0
      have r0 : IntKind.i64.min ≤ n0 ∧ n0 ≤ IntKind.i64.max := by simpa [Lit.wf] using g0
      obtain ⟨n1, e1, _⟩ := DataW.trod_bool Try.underlying4 t1
      obtain rfl : v1 = .bool n1 := by simpa using e1
      exact ⟨⟨n0, n1⟩, c0, c1, r0⟩)
    simp only [Prod.mk.injEq] at hx
    obtain ⟨rfl, _⟩ := hx
    have hsl := sized_slice hsz ht hd Try.underlying41
    have hby : Try.prog.bytesOf 78 = 16 := by kernel_rfl
    rw [hby] at hsl
    simp only [List.length_map, List.length_range] at hsl
    have hrb : reachBytes ≤ 140737488351232 := by decide
    refine ⟨some x, cap, zs, by rw [hzl], by omega, ⟨rfl, by omega, fun _ => ⟨x, rfl, fun j p hj => ?_⟩⟩, by omega, fun p hp => ?_⟩
    · obtain ⟨c0, c1, _⟩ := hz j p hj
      refine ⟨tmL p, tmL_len p, rfl, fun i u hu => ?_⟩
      match i, hu with
      | 0, hu => obtain rfl := Option.some.inj hu; exact c0
      | 1, hu => obtain rfl := Option.some.inj hu; exact c1
    · obtain ⟨i, hi, rfl⟩ := List.getElem_of_mem hp
      exact (hz i _ (List.getElem?_eq_getElem hi)).2.2
end
structure Op5 where
  k : Int
  wh : Int
  n : Int
  st : Bool
  x : Int
def opL (x : Op5) : List Value := [.int .i64 x.k, .int .i64 x.wh, .int .i64 x.n, .bool x.st, .int .i64 x.x]
theorem opL_len (x : Op5) : (opL x).length = 5 := rfl
theorem opL_one (x : Op5) : ∀ u ∈ opL x, u.oneCell' = true := fun u hu => by
  simp only [opL, List.mem_cons, List.not_mem_nil, or_false] at hu
  rcases hu with rfl | rfl | rfl | rfl | rfl <;> rfl
abbrev kOp : Kd Op5 := kF 5 opL opL_len opL_one
def Op5R (s : Op5) : Prop := (-9223372036854775808 ≤ s.k ∧ s.k ≤ 9223372036854775807) ∧ (-9223372036854775808 ≤ s.wh ∧ s.wh ≤ 9223372036854775807) ∧ (-9223372036854775808 ≤ s.n ∧ s.n ≤ 9223372036854775807) ∧ (-9223372036854775808 ≤ s.x ∧ s.x ≤ 9223372036854775807)
section
variable {H : Type} {enc : TypeId × Value → H} {w : World} {base : Nat} {spare : Nat → Bool} {held : Bool}
set_option maxRecDepth 100000 in
theorem open_ops {b0 : Nat} {v : Value} {d : DataW H} {p : List MemPlace} {ts : List TypeId} {ds : List (DataW H)} {j : Nat}
    (hv : Value.okWide Try.prog w .any b0 49 v) (h : DataW.Trod enc Try.prog w base spare held 49 v d p)
    (hsz : (DataW.weightsEach Try.prog ts ds).all (· ≤ reachBytes) = true) (ht : ts[j]? = some 49) (hd : ds[j]? = some d) :
    ∃ a cap, ∃ zs : List Op5, v = .slice a zs.length cap ∧ zs.length ≤ cap ∧ kOp.C w a zs.length zs ∧ zs.length * 40 ≤ 140737488351232 ∧ ∀ x ∈ zs, Op5R x := by
  obtain ⟨a, len, cap, rfl⟩ := okWide_slice Try.underlying49 hv
  obtain ⟨fuel, hf⟩ := h
  rcases open_slice_fields Try.underlying49 Try.underlying57 (by kernel_rfl) (by kernel_rfl) hf with ⟨hcs, hx⟩ | ⟨x, l, c, m, D, Pl, hcs, _, hl, hm, hmm, hx, hcell⟩
  · simp [Value.cells] at hcs
    obtain ⟨rfl, rfl, rfl⟩ := hcs
    exact ⟨none, 0, [], rfl, Nat.le_refl _, ⟨rfl, by simp, fun h => absurd h (by simp)⟩, by simp, by simp⟩
  · simp [Value.cells] at hcs
    obtain ⟨rfl, rfl, rfl⟩ := hcs
    have hlm : len ≤ m := by rw [hmm]; split <;> omega
    obtain ⟨zs, hzl, hz⟩ := list_of (R := fun i (s : Op5) => w.cell? (x.add (i * 5 + 0)) = some (.int .i64 s.k) ∧ w.cell? (x.add (i * 5 + 1)) = some (.int .i64 s.wh) ∧ w.cell? (x.add (i * 5 + 2)) = some (.int .i64 s.n) ∧ w.cell? (x.add (i * 5 + 3)) = some (.bool s.st) ∧ w.cell? (x.add (i * 5 + 4)) = some (.int .i64 s.x) ∧ (-9223372036854775808 ≤ s.k ∧ s.k ≤ 9223372036854775807) ∧ (-9223372036854775808 ≤ s.wh ∧ s.wh ≤ 9223372036854775807) ∧ (-9223372036854775808 ≤ s.n ∧ s.n ≤ 9223372036854775807) ∧ (-9223372036854775808 ≤ s.x ∧ s.x ≤ 9223372036854775807)) len (fun i hi => by
      obtain ⟨ys, n, _, _, _, hf⟩ := hcell i (by omega)
      obtain ⟨v0, y0, c0, _, t0⟩ := hf 0 _ rfl
      obtain ⟨v1, y1, c1, _, t1⟩ := hf 1 _ rfl
      obtain ⟨v2, y2, c2, _, t2⟩ := hf 2 _ rfl
      obtain ⟨v3, y3, c3, _, t3⟩ := hf 3 _ rfl
      obtain ⟨v4, y4, c4, _, t4⟩ := hf 4 _ rfl
      obtain ⟨n0, e0, _, g0⟩ := DataW.trod_int Try.underlying3 t0
      obtain rfl : v0 = .int .i64 n0 := by simpa using e0
      have r0 : IntKind.i64.min ≤ n0 ∧ n0 ≤ IntKind.i64.max := by simpa [Lit.wf] using g0
      obtain ⟨n1, e1, _, g1⟩ := DataW.trod_int Try.underlying3 t1
      obtain rfl : v1 = .int .i64 n1 := by simpa using e1
      have r1 : IntKind.i64.min ≤ n1 ∧ n1 ≤ IntKind.i64.max := by simpa [Lit.wf] using g1
      obtain ⟨n2, e2, _, g2⟩ := DataW.trod_int Try.underlying2 t2
      obtain rfl : v2 = .int .i64 n2 := by simpa using e2
      have r2 : IntKind.i64.min ≤ n2 ∧ n2 ≤ IntKind.i64.max := by simpa [Lit.wf] using g2
      obtain ⟨n3, e3, _⟩ := DataW.trod_bool Try.underlying4 t3
      obtain rfl : v3 = .bool n3 := by simpa using e3
      obtain ⟨n4, e4, _, g4⟩ := DataW.trod_int Try.underlying3 t4
      obtain rfl : v4 = .int .i64 n4 := by simpa using e4
      have r4 : IntKind.i64.min ≤ n4 ∧ n4 ≤ IntKind.i64.max := by simpa [Lit.wf] using g4
      exact ⟨⟨n0, n1, n2, n3, n4⟩, c0, c1, c2, c3, c4, r0, r1, r2, r4⟩)
    simp only [Prod.mk.injEq] at hx
    obtain ⟨rfl, _⟩ := hx
    have hsl := sized_slice hsz ht hd Try.underlying49
    have hby : Try.prog.bytesOf 57 = 40 := by kernel_rfl
    rw [hby] at hsl
    simp only [List.length_map, List.length_range] at hsl
    have hrb : reachBytes ≤ 140737488351232 := by decide
    refine ⟨some x, cap, zs, by rw [hzl], by omega, ⟨rfl, by omega, fun _ => ⟨x, rfl, fun j p hj => ?_⟩⟩, by omega, fun p hp => ?_⟩
    · obtain ⟨c0, c1, c2, c3, c4, _⟩ := hz j p hj
      refine ⟨opL p, opL_len p, rfl, fun i u hu => ?_⟩
      match i, hu with
      | 0, hu => obtain rfl := Option.some.inj hu; exact c0
      | 1, hu => obtain rfl := Option.some.inj hu; exact c1
      | 2, hu => obtain rfl := Option.some.inj hu; exact c2
      | 3, hu => obtain rfl := Option.some.inj hu; exact c3
      | 4, hu => obtain rfl := Option.some.inj hu; exact c4
    · obtain ⟨i, hi, rfl⟩ := List.getElem_of_mem hp
      exact (hz i _ (List.getElem?_eq_getElem hi)).2.2.2.2.2
end
set_option maxRecDepth 100000 in
theorem open_n64 {H : Type} {enc : TypeId × Value → H} {w : World} {base : Nat} {spare : Nat → Bool} {held : Bool} {b0 : Nat} {v : Value} {d : DataW H} {p : List MemPlace} {ts : List TypeId} {ds : List (DataW H)} {j : Nat}
    (hv : Value.okWide Try.prog w .any b0 28 v) (h : DataW.Trod enc Try.prog w base spare held 28 v d p)
    (hsz : (DataW.weightsEach Try.prog ts ds).all (· ≤ reachBytes) = true) (ht : ts[j]? = some 28) (hd : ds[j]? = some d) :
    ∃ a cap, ∃ zs : List Int, v = .slice a zs.length cap ∧ zs.length ≤ cap ∧ ReadsInt w .i64 a zs.length zs ∧ zs.length * 8 ≤ 140737488351232 ∧ (∀ n ∈ zs, -9223372036854775808 ≤ n ∧ n ≤ 9223372036854775807) := by
  obtain ⟨a, len, cap, rfl⟩ := okWide_slice Try.underlying28 hv
  obtain ⟨fuel, hf⟩ := h
  rcases open_ints Try.underlying28 Try.underlying2 (by kernel_rfl) hf with ⟨hcs, hx⟩ | ⟨x, l, c, zs, hcs, _, hl, hm, hzl, hx, hcell, hwf⟩
  · simp [Value.cells] at hcs
    obtain ⟨rfl, rfl, rfl⟩ := hcs
    exact ⟨none, 0, [], rfl, Nat.le_refl _, ⟨rfl, by simp, fun h => absurd h (by simp)⟩, by simp, by simp⟩
  · simp [Value.cells] at hcs
    obtain ⟨rfl, rfl, rfl⟩ := hcs
    have hlm : len ≤ zs.length := by rw [hzl]; split <;> omega
    simp only [Prod.mk.injEq] at hx
    obtain ⟨rfl, _⟩ := hx
    have hsl := sized_slice hsz ht hd Try.underlying28
    have hby : Try.prog.bytesOf 2 = 8 := by kernel_rfl
    rw [hby] at hsl
    have hl1 : (lits (H := H) .i64 (zs.take len)).length = len := by simp [lits]; omega
    rw [hl1] at hsl
    have hrb : reachBytes ≤ 140737488351232 := by decide
    have htl : (zs.take len).length = len := by rw [List.length_take]; omega
    refine ⟨some x, cap, zs.take len, by rw [htl], by omega, ⟨rfl, by omega, fun _ => ⟨x, rfl, fun j hj => ?_⟩⟩, by omega, fun n hn => by
      have h1 : IntKind.i64.min ≤ n ∧ n ≤ IntKind.i64.max := by simpa [Lit.wf] using hwf n (List.mem_of_mem_take hn)
      exact h1⟩
    rw [hcell j (by omega)]
    congr 2
    simp only [List.getD_eq_getElem?_getD, List.getElem?_take]
    rw [if_pos (by omega)]
end Go.Proofs.Ytadhceoaoopcjaa.SL
