/- How the statement PmtuPlays' argument reads: a list of calls, opened to its values. No condition. -/
import Derived.Test.YtdinkhhaomblcaaDoorZB
import Derived.Test.YtdinkhhaomblcaaDoorRow
namespace Go.Proofs.YtdinkhhaomblcaaDoor.SL
open Go.ChangeShapes Go.WideShapes Go.ChangeAt Go.RowKit Go.Deep Go.Joins Go.Proofs.YtdinkhhaomblcaaDoorW.PrintWords Go.Proofs.YtdinkhhaomblcaaDoorW.PrintLast Go.Proofs.YtdinkhhaomblcaaDoorW.PrintMore
section
variable {H : Type} {enc : TypeId × Value → H} {w : World} {base : Nat} {spare : Nat → Bool} {held : Bool}
theorem cellsO : Tryd.prog.cellsOf 34 = 25 := by kernel_rfl
theorem trod_op {fuel : Nat} {cs : List Value} {x : DataW H × List MemPlace} (h : DataW.trod enc Tryd.prog w base spare held fuel 34 cs = some x) : ∃ o : Op8, cs = o8L o ∧ byteOk o.d.b := by
  obtain ⟨ys, n, _, _, hl, hyl, hf⟩ := DataW.trod_struct Tryd.underlying34 h
  rw [cellsO] at hl
  have c1 : Tryd.prog.cellsOf 3 = 1 := by kernel_rfl
  have c2 : Tryd.prog.cellsOf 2 = 1 := by kernel_rfl
  have f0 := hf 0 _ rfl
  have f1 := hf 1 _ rfl
  have f2 := hf 2 _ rfl
  have f3 := hf 3 _ rfl
  have f4 := hf 4 _ rfl
  have f5 := hf 5 _ rfl
  have f6 := hf 6 _ rfl
  have f7 := hf 7 _ rfl
  replace f0 : DataW.trod enc Tryd.prog w base spare held n 3 ((cs.drop 0).take (Tryd.prog.cellsOf 3)) = ys[0]? := f0
  replace f1 : DataW.trod enc Tryd.prog w base spare held n 3 ((cs.drop 1).take (Tryd.prog.cellsOf 3)) = ys[1]? := f1
  replace f2 : DataW.trod enc Tryd.prog w base spare held n 29 ((cs.drop 2).take (Tryd.prog.cellsOf 29)) = ys[2]? := f2
  replace f3 : DataW.trod enc Tryd.prog w base spare held n 32 ((cs.drop 4).take (Tryd.prog.cellsOf 32)) = ys[3]? := f3
  replace f4 : DataW.trod enc Tryd.prog w base spare held n 3 ((cs.drop 21).take (Tryd.prog.cellsOf 3)) = ys[4]? := f4
  replace f5 : DataW.trod enc Tryd.prog w base spare held n 3 ((cs.drop 22).take (Tryd.prog.cellsOf 3)) = ys[5]? := f5
  replace f6 : DataW.trod enc Tryd.prog w base spare held n 3 ((cs.drop 23).take (Tryd.prog.cellsOf 3)) = ys[6]? := f6
  replace f7 : DataW.trod enc Tryd.prog w base spare held n 2 ((cs.drop 24).take (Tryd.prog.cellsOf 2)) = ys[7]? := f7
  have hy : ys.length = 8 := hyl
  rw [c1, List.getElem?_eq_getElem (by omega)] at f0 f1 f4 f5 f6
  rw [c2, List.getElem?_eq_getElem (by omega)] at f7
  rw [cells29, List.getElem?_eq_getElem (by omega)] at f2
  rw [cells17, List.getElem?_eq_getElem (by omega)] at f3
  obtain ⟨k, e0, _, _⟩ := DataW.trod_int Tryd.underlying3 f0
  obtain ⟨t, e1, _, _⟩ := DataW.trod_int Tryd.underlying3 f1
  obtain ⟨E, A, e2⟩ := trod_pa f2
  obtain ⟨d, e3, hok⟩ := trod_ad f3
  obtain ⟨f, e4, _, _⟩ := DataW.trod_int Tryd.underlying3 f4
  obtain ⟨m, e5, _, _⟩ := DataW.trod_int Tryd.underlying3 f5
  obtain ⟨l, e6, _, _⟩ := DataW.trod_int Tryd.underlying3 f6
  obtain ⟨nn, e7, _, _⟩ := DataW.trod_int Tryd.underlying2 f7
  refine ⟨⟨k, t, E, A, d, f, m, l, nn⟩, ?_, hok⟩
  have st : ∀ a b, (cs.drop a).take b ++ cs.drop (a + b) = cs.drop a := fun a b => by rw [← List.drop_drop, List.take_append_drop]
  have p0 : cs = (cs.drop 0).take 1 ++ ((cs.drop 1).take 1 ++ ((cs.drop 2).take 2 ++ ((cs.drop 4).take 17 ++ ((cs.drop 21).take 1 ++ ((cs.drop 22).take 1 ++ ((cs.drop 23).take 1 ++ (cs.drop 24).take 1)))))) := by
    rw [List.take_of_length_le (l := cs.drop 24) (by rw [List.length_drop]; omega)]
    have s0 := st 0 1
    have s1 := st 1 1
    have s2 := st 2 2
    have s3 := st 4 17
    have s4 := st 21 1
    have s5 := st 22 1
    have s6 := st 23 1
    rw [s6, s5, s4, s3, s2, s1, s0, List.drop_zero]
  rw [p0, e0, e1, e2, e3, e4, e5, e6, e7]
  rfl
set_option maxRecDepth 100000 in
theorem open_ops {b0 : Nat} {v : Value} {d : DataW H} {p : List MemPlace} {ts : List TypeId} {ds : List (DataW H)} {j : Nat}
    (hv : Value.okWide Tryd.prog w .any b0 22 v) (h : DataW.Trod enc Tryd.prog w base spare held 22 v d p)
    (hsz : (DataW.weightsEach Tryd.prog ts ds).all (· ≤ reachBytes) = true) (ht : ts[j]? = some 22) (hd : ds[j]? = some d) :
    ∃ a cap, ∃ zs : List Op8, v = .slice a zs.length cap ∧ zs.length ≤ cap ∧ kO8.C w a zs.length zs ∧ zs.length * 88 ≤ 140737488351232 ∧ zs.length ≤ Rows.uptoBulk d ∧ ∀ o ∈ zs, byteOk o.d.b := by
  obtain ⟨a, len, cap, rfl⟩ := okWide_slice Tryd.underlying22 hv
  obtain ⟨fuel, hf⟩ := h
  rcases open_slice Tryd.underlying22 hf with ⟨hcs, hx⟩ | ⟨x, l, c, m, n, D, Pl, hcs, _, hl, hm, hmm, hx, hcell⟩
  · simp [Value.cells] at hcs
    obtain ⟨rfl, rfl, rfl⟩ := hcs
    exact ⟨none, 0, [], rfl, Nat.le_refl _, ⟨rfl, by simp, fun h => absurd h (by simp)⟩, by simp, by simp, by simp⟩
  · simp [Value.cells] at hcs
    obtain ⟨rfl, rfl, rfl⟩ := hcs
    have hlm : len ≤ m := by rw [hmm]; split <;> omega
    obtain ⟨zs, hzl, hz⟩ := list_of (R := fun i (s : Op8) => (∀ j u, (o8L s)[j]? = some u → w.cell? (x.add (i * 25 + j)) = some u) ∧ byteOk s.d.b) len (fun i hi => by
      obtain ⟨cs', hc, ht'⟩ := hcell i (by omega)
      rw [cellsO] at hc
      obtain ⟨_, hcl, hat⟩ := World.cells?_some hc
      obtain ⟨o, rfl, hok⟩ := trod_op ht'
      refine ⟨o, fun j u hu => ?_, hok⟩
      have hj : j < 25 := by have := (List.getElem?_eq_some_iff.1 hu).1; rwa [o8L_len] at this
      rw [← Go.Deep.add_add, hat j hj, hu])
    simp only [Prod.mk.injEq] at hx
    obtain ⟨rfl, _⟩ := hx
    have hsl := sized_slice hsz ht hd Tryd.underlying22
    have hby : Tryd.prog.bytesOf 34 = 88 := by kernel_rfl
    rw [hby] at hsl
    simp only [List.length_map, List.length_range] at hsl
    have hrb : reachBytes ≤ 140737488351232 := by decide
    refine ⟨some x, cap, zs, by rw [hzl], by omega, ⟨rfl, by omega, fun _ => ⟨x, rfl, fun j p hj => ?_⟩⟩, by omega, ?_, fun o ho => ?_⟩
    · exact ⟨o8L p, o8L_len p, rfl, (hz j p hj).1⟩
    · have := bulk_length ((List.range len).map D)
      simp only [List.length_map, List.length_range] at this
      simp only [Rows.uptoBulk]
      omega
    · obtain ⟨i, hi, rfl⟩ := List.getElem_of_mem ho
      exact (hz i _ (List.getElem?_eq_getElem hi)).2
end
end Go.Proofs.YtdinkhhaomblcaaDoor.SL
