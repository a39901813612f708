/- How the arguments of the statements read: addresses, lists of operations, opened to their values. No condition. -/
import Derived.Test.YtgcafklieblldaaRows
import Derived.Test.YtgcafklieblldaaBD
import Derived.Deep.Slices
import Derived.Deep.Fields
import Derived.ChangeSame
import Derived.WalkKit
import Derived.ProofKit
import Derived.OpenShut
import Derived.ChangeOld
import Derived.Below
import Derived.SizedLaws
import Derived.JoinedCond
import Derived.Deep.CondSized
import Derived.Lib.SmallJoins
namespace Go.Proofs.Ytgcafklieblldaa.SL
open Go.ChangeShapes Go.WideShapes Go.ChangeAt Go.RowKit Go.Deep Go.Joins Go.Proofs.YtgcafklieblldaaW.PrintWords Go.Proofs.YtgcafklieblldaaW.PrintLast Go.Proofs.YtgcafklieblldaaW.PrintMore
theorem list_of {α : Type} {R : Nat → α → Prop} : ∀ n, (∀ i, i < n → ∃ s, R i s) → ∃ zs : List α, zs.length = n ∧ ∀ i s, zs[i]? = some s → R i s
  | 0, _ => ⟨[], rfl, fun i s h => by simp at h⟩
  | n + 1, h => by
    obtain ⟨zs, hl, hz⟩ := list_of n (fun i hi => h i (by omega))
    obtain ⟨s, hs⟩ := h n (by omega)
    refine ⟨zs ++ [s], by simp [hl], fun i t ht => ?_⟩
    rcases Nat.lt_or_ge i zs.length with hi | hi
    · rw [List.getElem?_append_left hi] at ht; exact hz i t ht
    · rw [List.getElem?_append_right hi] at ht
      have : i - zs.length = 0 := by
        rcases Nat.lt_or_ge (i - zs.length) 1 with h1 | h1
        · omega
        · rw [List.getElem?_eq_none (by simpa using h1)] at ht; cases ht
      rw [this] at ht
      simp at ht
      obtain rfl := ht
      have : i = n := by omega
      rw [this]; exact hs
theorem bulk_one {H : Type} (d : DataW H) : 1 ≤ Rows.uptoBulk d := by
  cases d with
  | lit l => cases l <;> simp [Rows.uptoBulk]
  | _ => simp [Rows.uptoBulk]
theorem bulk_length {H : Type} (l : List (DataW H)) : l.length ≤ Rows.uptoBulkAll l := by
  induction l with
  | nil => simp [Rows.uptoBulkAll]
  | cons x r ih => have := bulk_one x; simp only [Rows.uptoBulkAll, List.length_cons]; omega
section
variable {H : Type} {enc : TypeId × Value → H} {w : World} {base : Nat} {spare : Nat → Bool} {held : Bool}
def byteOk (b : List Int) : Prop := ∀ x ∈ b, 0 ≤ x ∧ x ≤ 255
theorem trod_ad {fuel : Nat} {cs : List Value} {x : DataW H × List MemPlace} (h : DataW.trod enc Try.prog w base spare held fuel 32 cs = some x) : ∃ a : Ad, cs = aL a ∧ byteOk a.b := by
  obtain ⟨y0, y1, n, _, hl, h0, h1⟩ := trod_struct2 Try.underlying32 h
  rw [cells17] at hl
  rw [show Try.prog.cellsOf 3 = 1 by kernel_rfl] at h0
  rw [cells16] at h1
  replace h0 : DataW.trod enc Try.prog w base spare held n 3 ((cs.drop 0).take 1) = some y0 := h0
  replace h1 : DataW.trod enc Try.prog w base spare held n 30 ((cs.drop 1).take 16) = some y1 := h1
  obtain ⟨v, e0, _, _⟩ := DataW.trod_int Try.underlying3 h0
  obtain ⟨xs, m, _, _, hcl, hxl, hx⟩ := DataW.trod_array Try.underlying30 h1
  obtain ⟨b, hb, hbs⟩ := list_of (R := fun i (s : Int) => ((cs.drop 1).take 16)[i]? = some (.int .u8 s) ∧ 0 ≤ s ∧ s ≤ 255) 16 (fun i hi => by
    have h2 := hx i hi
    rw [cells1, Nat.mul_one, List.getElem?_eq_getElem (by omega)] at h2
    obtain ⟨s, e1, _, hw⟩ := DataW.trod_int Try.underlying5 h2
    refine ⟨s, ?_, ?_⟩
    · have := congrArg (·[0]?) e1
      simpa [List.getElem?_take, List.getElem?_drop] using this
    · have hw2 : IntKind.u8.min ≤ s ∧ s ≤ IntKind.u8.max := by simpa [Lit.wf] using hw
      exact hw2)
  refine ⟨⟨v, b, hb⟩, ?_, fun x hx => ?_⟩
  · have e2 : cs = cs.take 1 ++ (cs.drop 1).take 16 := by
      rw [List.take_of_length_le (l := cs.drop 1) (by rw [List.length_drop]; omega), List.take_append_drop]
    have e3 : (cs.drop 1).take 16 = b.map (.int .u8 ·) := by
      apply List.ext_getElem?
      intro i
      rcases Nat.lt_or_ge i 16 with hi | hi
      · rw [(hbs i _ (List.getElem?_eq_getElem (by omega))).1, List.getElem?_map, List.getElem?_eq_getElem (by omega)]
        rfl
      · rw [List.getElem?_eq_none (by rw [List.length_take]; omega), List.getElem?_eq_none (by rw [List.length_map]; omega)]
    rw [List.drop_zero] at e0
    rw [e2, e3, e0]
    rfl
  · obtain ⟨i, hi, rfl⟩ := List.getElem_of_mem hx
    exact (hbs i _ (List.getElem?_eq_getElem hi)).2
theorem open_ad {v : Value} {d : DataW H} {p : List MemPlace} (h : DataW.Trod enc Try.prog w base spare held 32 v d p) : ∃ a : Ad, v = .agg (aV a) ∧ byteOk a.b := by
  obtain ⟨fuel, hf⟩ := h
  obtain ⟨a, ha, hok⟩ := trod_ad hf
  refine ⟨a, ?_, hok⟩
  cases v with
  | agg cs =>
    have h1 : cs.toList = aL a := ha
    unfold aV
    rw [← h1, Array.toArray_toList]
  | _ =>
    have h1 := congrArg List.length ha
    rw [aL_len] at h1
    simp [Value.cells] at h1
theorem cellsO : Try.prog.cellsOf 35 = 20 := by kernel_rfl
theorem trod_op {fuel : Nat} {cs : List Value} {x : DataW H × List MemPlace} (h : DataW.trod enc Try.prog w base spare held fuel 35 cs = some x) : ∃ o : OpT, cs = oL o ∧ byteOk o.a.b := by
  obtain ⟨ys, n, _, _, hl, hyl, hf⟩ := DataW.trod_struct Try.underlying35 h
  rw [cellsO] at hl
  have c1 : Try.prog.cellsOf 3 = 1 := by kernel_rfl
  have f0 := hf 0 _ rfl
  have f1 := hf 1 _ rfl
  have f2 := hf 2 _ rfl
  have f3 := hf 3 _ rfl
  replace f0 : DataW.trod enc Try.prog w base spare held n 3 ((cs.drop 0).take (Try.prog.cellsOf 3)) = ys[0]? := f0
  replace f1 : DataW.trod enc Try.prog w base spare held n 3 ((cs.drop 1).take (Try.prog.cellsOf 3)) = ys[1]? := f1
  replace f2 : DataW.trod enc Try.prog w base spare held n 3 ((cs.drop 2).take (Try.prog.cellsOf 3)) = ys[2]? := f2
  replace f3 : DataW.trod enc Try.prog w base spare held n 32 ((cs.drop 3).take (Try.prog.cellsOf 32)) = ys[3]? := f3
  have hy : ys.length = 4 := hyl
  rw [c1, List.getElem?_eq_getElem (by omega)] at f0 f1 f2
  rw [cells17, List.getElem?_eq_getElem (by omega)] at f3
  obtain ⟨k, e0, _, _⟩ := DataW.trod_int Try.underlying3 f0
  obtain ⟨wh, e1, _, _⟩ := DataW.trod_int Try.underlying3 f1
  obtain ⟨nn, e2, _, _⟩ := DataW.trod_int Try.underlying3 f2
  obtain ⟨a, e3, hok⟩ := trod_ad f3
  refine ⟨⟨k, wh, nn, a⟩, ?_, hok⟩
  have p0 : cs = cs.take 1 ++ ((cs.drop 1).take 1 ++ ((cs.drop 2).take 1 ++ (cs.drop 3).take 17)) := by
    rw [List.take_of_length_le (l := cs.drop 3) (by rw [List.length_drop]; omega)]
    have q1 : (cs.drop 2).take 1 ++ cs.drop 3 = cs.drop 2 := by rw [show cs.drop 3 = (cs.drop 2).drop 1 by rw [List.drop_drop], List.take_append_drop]
    have q2 : (cs.drop 1).take 1 ++ cs.drop 2 = cs.drop 1 := by rw [show cs.drop 2 = (cs.drop 1).drop 1 by rw [List.drop_drop], List.take_append_drop]
    rw [q1, q2, List.take_append_drop]
  rw [List.drop_zero] at e0
  rw [p0, e0, e1, e2, e3]
  rfl
theorem open_ops {b0 : Nat} {v : Value} {d : DataW H} {p : List MemPlace} {ts : List TypeId} {ds : List (DataW H)} {j : Nat}
    (hv : Value.okWide Try.prog w .any b0 22 v) (h : DataW.Trod enc Try.prog w base spare held 22 v d p)
    (hsz : (DataW.weightsEach Try.prog ts ds).all (· ≤ reachBytes) = true) (ht : ts[j]? = some 22) (hd : ds[j]? = some d) :
    ∃ a cap, ∃ zs : List OpT, v = .slice a zs.length cap ∧ zs.length ≤ cap ∧ kO.C w a zs.length zs ∧ zs.length * 48 ≤ 140737488351232 ∧ ∀ o ∈ zs, byteOk o.a.b := by
  obtain ⟨a, len, cap, rfl⟩ := okWide_slice Try.underlying22 hv
  obtain ⟨fuel, hf⟩ := h
  rcases open_slice Try.underlying22 hf with ⟨hcs, hx⟩ | ⟨x, l, c, m, n, D, Pl, hcs, _, hl, hm, hmm, hx, hcell⟩
  · simp [Value.cells] at hcs
    obtain ⟨rfl, rfl, rfl⟩ := hcs
    exact ⟨none, 0, [], rfl, Nat.le_refl _, ⟨rfl, by simp, fun h => absurd h (by simp)⟩, by simp, by simp⟩
  · simp [Value.cells] at hcs
    obtain ⟨rfl, rfl, rfl⟩ := hcs
    have hlm : len ≤ m := by rw [hmm]; split <;> omega
    obtain ⟨zs, hzl, hz⟩ := list_of (R := fun i (s : OpT) => (∀ j u, (oL s)[j]? = some u → w.cell? (x.add (i * 20 + j)) = some u) ∧ byteOk s.a.b) len (fun i hi => by
      obtain ⟨cs', hc, ht'⟩ := hcell i (by omega)
      rw [cellsO] at hc
      obtain ⟨_, hcl, hat⟩ := World.cells?_some hc
      obtain ⟨o, rfl, hok⟩ := trod_op ht'
      refine ⟨o, fun j u hu => ?_, hok⟩
      have hj : j < 20 := by have := (List.getElem?_eq_some_iff.1 hu).1; rwa [oL_len] at this
      rw [← Go.Deep.add_add, hat j hj, hu])
    simp only [Prod.mk.injEq] at hx
    obtain ⟨rfl, _⟩ := hx
    have hsl := sized_slice hsz ht hd Try.underlying22
    have hby : Try.prog.bytesOf 35 = 48 := by kernel_rfl
    rw [hby] at hsl
    simp only [List.length_map, List.length_range] at hsl
    have hrb : reachBytes ≤ 140737488351232 := by decide
    refine ⟨some x, cap, zs, by rw [hzl], by omega, ⟨rfl, by omega, fun _ => ⟨x, rfl, fun j p hj => ?_⟩⟩, by omega, fun o ho => ?_⟩
    · exact ⟨oL p, oL_len p, rfl, (hz j p hj).1⟩
    · obtain ⟨i, hi, rfl⟩ := List.getElem_of_mem ho
      exact (hz i _ (List.getElem?_eq_getElem hi)).2
end
end Go.Proofs.Ytgcafklieblldaa.SL
