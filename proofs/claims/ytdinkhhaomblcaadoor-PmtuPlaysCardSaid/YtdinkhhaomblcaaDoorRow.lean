/- How the arguments of the statements read: addresses, bounds, lists of news, opened to their values. No condition. -/
import Derived.Test.YtdinkhhaomblcaaDoorRows
import Derived.Test.YtdinkhhaomblcaaDoorGD
import Derived.Deep.Slices
import Derived.Deep.Fields
import Derived.ChangeSame
import Derived.WalkKit
import Derived.ProofKit
import Derived.OpenShut
import Derived.ChangeOld
import Derived.Below
import Derived.SizedLaws
import Derived.JoinedCond
import Derived.Deep.CondSized
import Derived.Lib.SmallJoins
namespace Go.Proofs.YtdinkhhaomblcaaDoor.SL
open Go.ChangeShapes Go.WideShapes Go.ChangeAt Go.RowKit Go.Deep Go.Joins Go.Proofs.YtdinkhhaomblcaaDoorW.PrintWords Go.Proofs.YtdinkhhaomblcaaDoorW.PrintLast Go.Proofs.YtdinkhhaomblcaaDoorW.PrintMore
section
variable {H : Type} {enc : TypeId × Value → H} {P : Program} {w : World} {base : Nat} {spare : Nat → Bool} {held : Bool}
theorem open_slice_fields {t e : TypeId} {fs : Array Field} {fuel : Nat} {cs : List Value} {x : DataW H × List MemPlace} (ht : P.underlying t = some (.slice e)) (he : P.underlying e = some (.struct fs))
    (hone : oneCellFields P fs = true) (hC : P.cellsOf e = fs.size) (h : DataW.trod enc P w base spare held fuel t cs = some x) :
    (cs = [.slice none 0 0] ∧ x = (.nil, [])) ∨
    ∃ (a : Addr) (len cap m : Nat) (D : Nat → DataW H) (Pl : Nat → List MemPlace), cs = [.slice (some a) len cap] ∧ base ≤ a.block ∧ len ≤ cap ∧ cap ≤ maxLen ∧ m = (if spare a.block then cap else len) ∧
      x = (.slice ((List.range len).map D) ((List.range (m - len)).map fun j => D (len + j)), MemPlace.row a (m * fs.size) ++ (List.range m).flatMap Pl) ∧
      ∀ i, i < m → ∃ (ys : List (DataW H × List MemPlace)) (n : Nat), D i = .agg (ys.map (·.1)) ∧ Pl i = ys.flatMap (·.2) ∧ ys.length = fs.size ∧
        ∀ (j : Nat) (f : Field), fs[j]? = some f → ∃ (v : Value) (y : DataW H × List MemPlace), w.cell? (a.add (i * fs.size + j)) = some v ∧ ys[j]? = some y ∧ DataW.trod enc P w base spare held n f.type [v] = some y := by
  rcases open_slice ht h with h0 | ⟨a, len, cap, m, n, D, Pl, hcs, hb, hl, hm, hmm, hx, hi⟩
  · exact .inl h0
  · refine .inr ⟨a, len, cap, m, D, Pl, hcs, hb, hl, hm, hmm, by rw [hC] at hx; exact hx, fun i him => ?_⟩
    obtain ⟨cs', hc, ht'⟩ := hi i him
    rw [hC] at hc
    obtain ⟨ys, n', hn', hy, hlen, hyl, hf⟩ := DataW.trod_struct he ht'
    obtain ⟨_, hcl, hat⟩ := World.cells?_some hc
    simp only [Prod.mk.injEq] at hy
    refine ⟨ys, n', hy.1, hy.2, hyl, fun j f hj => ?_⟩
    obtain ⟨ho, hk⟩ := hone_of hone j f hj
    have hjl : j < fs.size := (Array.getElem?_eq_some_iff.1 hj).1
    have hcell := hat j hjl
    have hv : cs'[j]? = some (cs'[j]'(by omega)) := List.getElem?_eq_getElem (by omega)
    have h1 := hf j f hj
    rw [ho, hk] at h1
    have hone' : (cs'.drop j).take 1 = [cs'[j]'(by omega)] := by
      rw [List.drop_eq_getElem_cons (by omega)]
      rfl
    rw [hone'] at h1
    have hys : ys[j]? = some (ys[j]'(by omega)) := List.getElem?_eq_getElem (by omega)
    refine ⟨_, _, ?_, hys, h1.trans hys⟩
    rw [← Go.Deep.add_add, hcell, hv]
end
theorem list_of {α : Type} {R : Nat → α → Prop} : ∀ n, (∀ i, i < n → ∃ s, R i s) → ∃ zs : List α, zs.length = n ∧ ∀ i s, zs[i]? = some s → R i s
  | 0, _ => ⟨[], rfl, fun i s h => by simp at h⟩
  | n + 1, h => by
    obtain ⟨zs, hl, hz⟩ := list_of n (fun i hi => h i (by omega))
    obtain ⟨s, hs⟩ := h n (by omega)
    refine ⟨zs ++ [s], by simp [hl], fun i t ht => ?_⟩
    rcases Nat.lt_or_ge i zs.length with hi | hi
    · rw [List.getElem?_append_left hi] at ht; exact hz i t ht
    · rw [List.getElem?_append_right hi] at ht
      have : i - zs.length = 0 := by
        rcases Nat.lt_or_ge (i - zs.length) 1 with h1 | h1
        · omega
        · rw [List.getElem?_eq_none (by simpa using h1)] at ht; cases ht
      rw [this] at ht
      simp at ht
      obtain rfl := ht
      have : i = n := by omega
      rw [this]; exact hs
theorem bulk_one {H : Type} (d : DataW H) : 1 ≤ Rows.uptoBulk d := by
  cases d with
  | lit l => cases l <;> simp [Rows.uptoBulk]
  | _ => simp [Rows.uptoBulk]
theorem bulk_length {H : Type} (l : List (DataW H)) : l.length ≤ Rows.uptoBulkAll l := by
  induction l with
  | nil => simp [Rows.uptoBulkAll]
  | cons x r ih => have := bulk_one x; simp only [Rows.uptoBulkAll, List.length_cons]; omega
section
variable {H : Type} {enc : TypeId × Value → H} {w : World} {base : Nat} {spare : Nat → Bool} {held : Bool}
def byteOk (b : List Int) : Prop := ∀ x ∈ b, 0 ≤ x ∧ x ≤ 255
theorem trod_ad {fuel : Nat} {cs : List Value} {x : DataW H × List MemPlace} (h : DataW.trod enc Tryd.prog w base spare held fuel 32 cs = some x) : ∃ a : Ad, cs = aL a ∧ byteOk a.b := by
  obtain ⟨y0, y1, n, _, hl, h0, h1⟩ := trod_struct2 Tryd.underlying32 h
  rw [cells17] at hl
  rw [show Tryd.prog.cellsOf 3 = 1 by kernel_rfl] at h0
  rw [cells16] at h1
  replace h0 : DataW.trod enc Tryd.prog w base spare held n 3 ((cs.drop 0).take 1) = some y0 := h0
  replace h1 : DataW.trod enc Tryd.prog w base spare held n 30 ((cs.drop 1).take 16) = some y1 := h1
  obtain ⟨v, e0, _, _⟩ := DataW.trod_int Tryd.underlying3 h0
  obtain ⟨xs, m, _, _, hcl, hxl, hx⟩ := DataW.trod_array Tryd.underlying30 h1
  obtain ⟨b, hb, hbs⟩ := list_of (R := fun i (s : Int) => ((cs.drop 1).take 16)[i]? = some (.int .u8 s) ∧ 0 ≤ s ∧ s ≤ 255) 16 (fun i hi => by
    have h2 := hx i hi
    rw [cells1, Nat.mul_one, List.getElem?_eq_getElem (by omega)] at h2
    obtain ⟨s, e1, _, hw⟩ := DataW.trod_int Tryd.underlying5 h2
    refine ⟨s, ?_, ?_⟩
    · have := congrArg (·[0]?) e1
      simpa [List.getElem?_take, List.getElem?_drop] using this
    · have hw2 : IntKind.u8.min ≤ s ∧ s ≤ IntKind.u8.max := by simpa [Lit.wf] using hw
      exact hw2)
  refine ⟨⟨v, b, hb⟩, ?_, fun x hx => ?_⟩
  · have e2 : cs = cs.take 1 ++ (cs.drop 1).take 16 := by
      rw [List.take_of_length_le (l := cs.drop 1) (by rw [List.length_drop]; omega), List.take_append_drop]
    have e3 : (cs.drop 1).take 16 = b.map (.int .u8 ·) := by
      apply List.ext_getElem?
      intro i
      rcases Nat.lt_or_ge i 16 with hi | hi
      · rw [(hbs i _ (List.getElem?_eq_getElem (by omega))).1, List.getElem?_map, List.getElem?_eq_getElem (by omega)]
        rfl
      · rw [List.getElem?_eq_none (by rw [List.length_take]; omega), List.getElem?_eq_none (by rw [List.length_map]; omega)]
    rw [List.drop_zero] at e0
    rw [e2, e3, e0]
    rfl
  · obtain ⟨i, hi, rfl⟩ := List.getElem_of_mem hx
    exact (hbs i _ (List.getElem?_eq_getElem hi)).2
theorem open_ad {v : Value} {d : DataW H} {p : List MemPlace} (h : DataW.Trod enc Tryd.prog w base spare held 32 v d p) : ∃ a : Ad, v = .agg (aV a) ∧ byteOk a.b := by
  obtain ⟨fuel, hf⟩ := h
  obtain ⟨a, ha, hok⟩ := trod_ad hf
  refine ⟨a, ?_, hok⟩
  cases v with
  | agg cs =>
    have h1 : cs.toList = aL a := ha
    unfold aV
    rw [← h1, Array.toArray_toList]
  | _ =>
    have h1 := congrArg List.length ha
    rw [aL_len] at h1
    simp [Value.cells] at h1
theorem cells29 : Tryd.prog.cellsOf 29 = 2 := by kernel_rfl
theorem trod_pa {fuel : Nat} {cs : List Value} {x : DataW H × List MemPlace} (h : DataW.trod enc Tryd.prog w base spare held fuel 29 cs = some x) : ∃ E A : Int, cs = [.int .i64 E, .int .i64 A] := by
  obtain ⟨y0, y1, n, _, hl, h0, h1⟩ := trod_struct2 Tryd.underlying29 h
  rw [cells29] at hl
  rw [show Tryd.prog.cellsOf 3 = 1 by kernel_rfl] at h0
  rw [show Tryd.prog.cellsOf 2 = 1 by kernel_rfl] at h1
  replace h0 : DataW.trod enc Tryd.prog w base spare held n 3 ((cs.drop 0).take 1) = some y0 := h0
  replace h1 : DataW.trod enc Tryd.prog w base spare held n 2 ((cs.drop 1).take 1) = some y1 := h1
  obtain ⟨E, e0, _, _⟩ := DataW.trod_int Tryd.underlying3 h0
  obtain ⟨A, e1, _, _⟩ := DataW.trod_int Tryd.underlying2 h1
  refine ⟨E, A, ?_⟩
  have e2 : cs = cs.take 1 ++ (cs.drop 1).take 1 := by
    rw [List.take_of_length_le (l := cs.drop 1) (by rw [List.length_drop]; omega), List.take_append_drop]
  rw [List.drop_zero] at e0
  rw [e2, e0, e1]
  rfl
theorem open_pa {v : Value} {d : DataW H} {p : List MemPlace} (h : DataW.Trod enc Tryd.prog w base spare held 29 v d p) : ∃ E A : Int, v = .agg #[.int .i64 E, .int .i64 A] := by
  obtain ⟨fuel, hf⟩ := h
  obtain ⟨E, A, ha⟩ := trod_pa hf
  refine ⟨E, A, ?_⟩
  cases v with
  | agg cs =>
    have h1 : cs.toList = [.int .i64 E, .int .i64 A] := ha
    rw [← Array.toArray_toList (xs := cs), h1]
  | _ =>
    have h1 := congrArg List.length ha
    simp [Value.cells] at h1
end
/-- One piece of news. -/
structure Nw where
  k : Int
  d : Int
  m : Int
  l : Int
  t : Int
def zN : Nw := ⟨0, 0, 0, 0, 0⟩
def nL (x : Nw) : List Value := [.int .i64 x.k, .int .i64 x.d, .int .i64 x.m, .int .i64 x.l, .int .i64 x.t]
theorem nL_len (x : Nw) : (nL x).length = 5 := rfl
theorem nL_one (x : Nw) : ∀ u ∈ nL x, u.oneCell' = true := fun u hu => by
  simp only [nL, List.mem_cons, List.not_mem_nil, or_false] at hu
  rcases hu with rfl | rfl | rfl | rfl | rfl <;> rfl
abbrev kN : Kd Nw := kF 5 nL nL_len nL_one
section
variable {H : Type} {enc : TypeId × Value → H} {w : World} {base : Nat} {spare : Nat → Bool} {held : Bool}
set_option maxRecDepth 100000 in
theorem open_news {b0 : Nat} {v : Value} {d : DataW H} {p : List MemPlace} {ts : List TypeId} {ds : List (DataW H)} {j : Nat}
    (hv : Value.okWide Tryd.prog w .any b0 45 v) (h : DataW.Trod enc Tryd.prog w base spare held 45 v d p)
    (hsz : (DataW.weightsEach Tryd.prog ts ds).all (· ≤ reachBytes) = true) (ht : ts[j]? = some 45) (hd : ds[j]? = some d) :
    ∃ a cap, ∃ zs : List Nw, v = .slice a zs.length cap ∧ zs.length ≤ cap ∧ kN.C w a zs.length zs ∧ zs.length * 40 ≤ 140737488351232 ∧ zs.length ≤ Rows.uptoBulk d ∧ ∀ x ∈ zs, -9223372036854775808 ≤ x.t ∧ x.t ≤ 9223372036854775807 := by
  obtain ⟨a, len, cap, rfl⟩ := okWide_slice Tryd.underlying45 hv
  obtain ⟨fuel, hf⟩ := h
  rcases open_slice_fields Tryd.underlying45 Tryd.underlying55 (by kernel_rfl) (by kernel_rfl) hf with ⟨hcs, hx⟩ | ⟨x, l, c, m, D, Pl, hcs, _, hl, hm, hmm, hx, hcell⟩
  · simp [Value.cells] at hcs
    obtain ⟨rfl, rfl, rfl⟩ := hcs
    exact ⟨none, 0, [], rfl, Nat.le_refl _, ⟨rfl, by simp, fun h => absurd h (by simp)⟩, by simp, by simp, by simp⟩
  · simp [Value.cells] at hcs
    obtain ⟨rfl, rfl, rfl⟩ := hcs
    have hlm : len ≤ m := by rw [hmm]; split <;> omega
    obtain ⟨zs, hzl, hz⟩ := list_of (R := fun i (s : Nw) => w.cell? (x.add (i * 5 + 0)) = some (.int .i64 s.k) ∧ w.cell? (x.add (i * 5 + 1)) = some (.int .i64 s.d) ∧ w.cell? (x.add (i * 5 + 2)) = some (.int .i64 s.m) ∧ w.cell? (x.add (i * 5 + 3)) = some (.int .i64 s.l) ∧ w.cell? (x.add (i * 5 + 4)) = some (.int .i64 s.t) ∧ -9223372036854775808 ≤ s.t ∧ s.t ≤ 9223372036854775807) len (fun i hi => by
      obtain ⟨ys, n, _, _, _, hf⟩ := hcell i (by omega)
      obtain ⟨v0, y0, c0, _, t0⟩ := hf 0 _ rfl
      obtain ⟨v1, y1, c1, _, t1⟩ := hf 1 _ rfl
      obtain ⟨v2, y2, c2, _, t2⟩ := hf 2 _ rfl
      obtain ⟨v3, y3, c3, _, t3⟩ := hf 3 _ rfl
      obtain ⟨v4, y4, c4, _, t4⟩ := hf 4 _ rfl
      obtain ⟨n0, e0, _, _⟩ := DataW.trod_int Tryd.underlying3 t0
      obtain rfl : v0 = .int .i64 n0 := by simpa using e0
      obtain ⟨n1, e1, _, _⟩ := DataW.trod_int Tryd.underlying3 t1
      obtain rfl : v1 = .int .i64 n1 := by simpa using e1
      obtain ⟨n2, e2, _, _⟩ := DataW.trod_int Tryd.underlying3 t2
      obtain rfl : v2 = .int .i64 n2 := by simpa using e2
      obtain ⟨n3, e3, _, _⟩ := DataW.trod_int Tryd.underlying3 t3
      obtain rfl : v3 = .int .i64 n3 := by simpa using e3
      obtain ⟨n4, e4, _, g4⟩ := DataW.trod_int Tryd.underlying2 t4
      have g5 : IntKind.i64.min ≤ n4 ∧ n4 ≤ IntKind.i64.max := by simpa [Lit.wf] using g4
      obtain rfl : v4 = .int .i64 n4 := by simpa using e4
      exact ⟨⟨n0, n1, n2, n3, n4⟩, c0, c1, c2, c3, c4, g5⟩)
    simp only [Prod.mk.injEq] at hx
    obtain ⟨rfl, _⟩ := hx
    have hsl := sized_slice hsz ht hd Tryd.underlying45
    have hby : Tryd.prog.bytesOf 55 = 40 := by kernel_rfl
    rw [hby] at hsl
    simp only [List.length_map, List.length_range] at hsl
    have hrb : reachBytes ≤ 140737488351232 := by decide
    refine ⟨some x, cap, zs, by rw [hzl], by omega, ⟨rfl, by omega, fun _ => ⟨x, rfl, fun j p hj => ?_⟩⟩, by omega, ?_, fun p hp => ?_⟩
    · obtain ⟨c0, c1, c2, c3, c4, _⟩ := hz j p hj
      refine ⟨nL p, nL_len p, rfl, fun i u hu => ?_⟩
      match i, hu with
      | 0, hu => obtain rfl := Option.some.inj hu; exact c0
      | 1, hu => obtain rfl := Option.some.inj hu; exact c1
      | 2, hu => obtain rfl := Option.some.inj hu; exact c2
      | 3, hu => obtain rfl := Option.some.inj hu; exact c3
      | 4, hu => obtain rfl := Option.some.inj hu; exact c4
    · have := bulk_length ((List.range len).map D)
      simp only [List.length_map, List.length_range] at this
      simp only [Rows.uptoBulk]
      omega
    · obtain ⟨i, hi, rfl⟩ := List.getElem_of_mem hp
      exact (hz i _ (List.getElem?_eq_getElem hi)).2.2.2.2.2
end
end Go.Proofs.YtdinkhhaomblcaaDoor.SL
