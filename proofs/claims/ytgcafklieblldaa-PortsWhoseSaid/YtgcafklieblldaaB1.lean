/- Places and bounds as wholes: what builds them, their equality. No condition. -/
import Derived.Test.YtgcafklieblldaaAd
import Derived.Test.YtgcafklieblldaaTm
import Derived.Laws.Tables
namespace Go.Proofs.Ytgcafklieblldaa.SL
open Go.RowKit Go.Proofs.YtgcafklieblldaaW.PrintWords Go.Proofs.YtgcafklieblldaaW.PrintLast Go.Proofs.YtgcafklieblldaaW.PrintMore
structure Pl where
  a : Ad
  port : Int
deriving DecidableEq
structure Bd where
  n : Int
  p : Pl
deriving DecidableEq
def pL (x : Pl) : List Value := aL x.a ++ [.int .i64 x.port]
def pV (x : Pl) : Array Value := (pL x).toArray
def bL (x : Bd) : List Value := .int .i64 x.n :: pL x.p
def bV (x : Bd) : Array Value := (bL x).toArray
theorem pL_len (x : Pl) : (pL x).length = 18 := by unfold pL; rw [List.length_append, aL_len]; rfl
theorem bL_len (x : Bd) : (bL x).length = 19 := by unfold bL; rw [List.length_cons, pL_len]
theorem pL_one (x : Pl) : ∀ u ∈ pL x, u.oneCell' = true := fun u hu => by
  rcases List.mem_append.1 hu with hu | hu
  · exact aL_one _ u hu
  · obtain rfl := List.mem_singleton.1 hu; rfl
theorem bL_one (x : Bd) : ∀ u ∈ bL x, u.oneCell' = true := fun u hu => by
  rcases List.mem_cons.1 hu with rfl | hu
  · rfl
  · exact pL_one _ u hu
theorem pV_size (x : Pl) : (pV x).size = 18 := by unfold pV; rw [List.size_toArray, pL_len]
theorem bV_size (x : Bd) : (bV x).size = 19 := by unfold bV; rw [List.size_toArray, bL_len]
def kB : Kd Bd := kF 19 bL bL_len bL_one
theorem flB : Flat kB := flatF
theorem szB : 0 < kB.sz := by decide
def zA (v : Int) : Ad := ⟨v, List.replicate 16 0, rfl⟩
/-- 10.0.0.d -/
def fA (d : Int) : Ad := ⟨4, 10 :: 0 :: 0 :: d :: List.replicate 12 0, rfl⟩
theorem list16 (l : List Int) (h : l.length = 16) : ∃ b0 b1 b2 b3 b4 b5 b6 b7 b8 b9 b10 b11 b12 b13 b14 b15, l = [b0, b1, b2, b3, b4, b5, b6, b7, b8, b9, b10, b11, b12, b13, b14, b15] := by
  match l, h with
  | [b0, b1, b2, b3, b4, b5, b6, b7, b8, b9, b10, b11, b12, b13, b14, b15], _ => exact ⟨_, _, _, _, _, _, _, _, _, _, _, _, _, _, _, _, rfl⟩
theorem built_pl (a : Ad) (port : Int) : Try.prog.built 64 [(0, .agg (aV a)), (1, .int .i64 port)] = some (pV ⟨a, port⟩) := by
  obtain ⟨v, b, hb⟩ := a
  obtain ⟨b0, b1, b2, b3, b4, b5, b6, b7, b8, b9, b10, b11, b12, b13, b14, b15, rfl⟩ := list16 b hb
  kernel_rfl
theorem built_bd (n : Int) (p : Pl) : Try.prog.built 66 [(0, .int .i64 n), (1, .agg (pV p))] = some (bV ⟨n, p⟩) := by
  obtain ⟨⟨v, b, hb⟩, port⟩ := p
  obtain ⟨b0, b1, b2, b3, b4, b5, b6, b7, b8, b9, b10, b11, b12, b13, b14, b15, rfl⟩ := list16 b hb
  kernel_rfl
theorem built_z (v : Int) : Try.prog.built 32 [(0, .int .i64 v)] = some (aV (zA v)) := by kernel_rfl
theorem built_n : Try.prog.built 32 [] = some (aV (zA 0)) := by kernel_rfl
section
variable (w : World)
theorem bld_pl (a : Ad) (port : Int) : (Instr.build 64 #[(0, .agg (aV a)), (1, .int .i64 port)]).run Try.prog w = .ok (.agg (pV ⟨a, port⟩)) w := run_build w _ _ _ (built_pl a port)
theorem bld_bd (n : Int) (p : Pl) : (Instr.build 66 #[(0, .int .i64 n), (1, .agg (pV p))]).run Try.prog w = .ok (.agg (bV ⟨n, p⟩)) w := run_build w _ _ _ (built_bd n p)
theorem bld_z (v : Int) : (Instr.build 32 #[(0, .int .i64 v)]).run Try.prog w = .ok (.agg (aV (zA v))) w := run_build w _ _ _ (built_z v)
theorem bld_n : (Instr.build 32 #[]).run Try.prog w = .ok (.agg (aV (zA 0))) w := run_build w _ _ _ built_n
theorem eqPl (d : Nat) (x y : Pl) : (Op.equalIn (d + 4) 64 (.agg (pV x)) (.agg (pV y))).run Try.prog w = .ok (decide (x = y)) w := by
  have pe : ∀ z : Pl, (pV z).extract 0 17 = aV z.a := fun z => by
    unfold pV pL aV
    rw [List.extract_toArray]
    simp [List.take_left' (aL_len z.a)]
  have pp : ∀ z : Pl, (pV z)[17]? = some (.int .i64 z.port) := fun z => by
    unfold pV pL
    rw [List.getElem?_toArray, List.getElem?_append_right (by rw [aL_len]; exact Nat.le_refl _), aL_len]
    rfl
  have h := eqf_cons (P := Try.prog) (w := w) (d := d + 3) (xs := pV x) (ys := pV y) (f := ⟨"a", 32, 0, false, "mosaic/ports", "", 0⟩) (fs := [⟨"port", 3, 17, false, "mosaic/ports", "", 24⟩]) (by rfl)
    (part_agg w _ (.inr ⟨_, Try.underlying32⟩) _ _) (part_agg w _ (.inr ⟨_, Try.underlying32⟩) _ _) (by rw [cells17, pe, pe]; exact eqAd w d x.a y.a)
    (eqf_last (by rfl) (part_int w _ .i64 Try.underlying3 _ _ (pp x)) (part_int w _ .i64 Try.underlying3 _ _ (pp y)) (run_equalIn_int w (d + 2) _ _ .i64 _ _ Try.underlying3))
  have e : (decide (x.a = y.a) && (x.port == y.port)) = decide (x = y) := by
    rw [Bool.eq_iff_iff, Bool.and_eq_true, beq_iff_eq, decide_eq_true_eq, decide_eq_true_eq]
    exact ⟨fun ⟨h1, h2⟩ => by obtain ⟨a, p⟩ := x; obtain ⟨a', p'⟩ := y; simp only at h1 h2; rw [h1, h2], fun h => by rw [h]; exact ⟨rfl, rfl⟩⟩
  rw [e] at h
  exact eqA_of Try.underlying64 (by kernel_rfl) h
theorem grd_pl : Try.prog.eqGuardType Try.prog.depth 64 = false := by kernel_rfl
theorem grd_ad : Try.prog.eqGuardType Try.prog.depth 32 = false := by kernel_rfl
theorem grd_by : Try.prog.eqGuardType Try.prog.depth 30 = false := by kernel_rfl
theorem eql_pl (x y : Pl) : (binOp .eql 64 (.agg (pV x)) (.agg (pV y))).run Try.prog w = .ok (.bool (decide (x = y))) w := by
  rw [run_eql_struct, show (10000 : Nat) = 9996 + 4 from rfl, eqPl]; rfl
theorem eql_ad (x y : Ad) : (binOp .eql 32 (.agg (aV x)) (.agg (aV y))).run Try.prog w = .ok (.bool (decide (x = y))) w := by
  rw [run_eql_struct, show (10000 : Nat) = 9997 + 3 from rfl, eqAd]; rfl
theorem neq_ad (x y : Ad) : (binOp .neq 32 (.agg (aV x)) (.agg (aV y))).run Try.prog w = .ok (.bool (!decide (x = y))) w := by
  rw [run_neq_struct, show (10000 : Nat) = 9997 + 3 from rfl, eqAd]; rfl
end
section
variable {P : Program} {ops : Array Oper} {rest : List Oper} {o : Oper} {a : Act} {Q : Exit → Act → World → Prop} {w W : World}
/-- An aggregate that is built. -/
theorem wpList_buildA (hgd : o.guard = none) (t : TypeId) (parts : Array (Nat × Operand)) (ho : o.op = .build t parts) (vs : List (Nat × Value)) (hv : (parts.toList.map fun x => (x.1, a.eval x.2)) = vs) {cells : Array Value} (hb : P.built t vs = some cells)
    (h : wpList P ops Q rest (a.put o.dst (.agg cells)) w) : wpList P ops Q (o :: rest) a w :=
  wpList_plain hgd fun _ hK => by
    unfold Oper.wp execOp
    simp only [ho, Sem.run_bind, run_build w t _ cells (by rw [Array.toList_map]; exact (congrArg (P.built t) hv).trans hb), Result.andThen_ok]
    exact hK _ _ h
/-- A variable that was just made is written whole. -/
theorem wpList_store_new (hgd : o.guard = none) (ty : TypeId) (x y : Operand) (ho : o.op = .store ty x y) {zs cells : Array Value} {T : TypeId} (hx : a.eval x = .pointer (some ⟨W.heap.size, 0, none⟩)) (hy : a.eval y = .agg cells)
    (hi : (P.info? ty).map (·.size) = some cells.size) (hold : zs.size = cells.size) (h1 : ∀ u ∈ cells.toList, u.oneCell' = true)
    (h : wpList P ops Q rest (a.put o.dst undef) (W.alloc (.cells cells T))) : wpList P ops Q (o :: rest) a (W.alloc (.cells zs T)) := by
  have hg : (W.alloc (.cells zs T)).heap[W.heap.size]? = some (.cells zs T (0, 0)) := heap_alloc_new W _
  have e : (W.alloc (.cells zs T)).setRow W.heap.size cells = W.alloc (.cells cells T) := by
    unfold World.setRow World.alloc
    dsimp only
    congr 1
    apply Array.ext (by simp)
    intro i h1 h2
    rw [Array.getElem_modify]
    simp only [Array.getElem_push]
    split
    · rename_i hi
      subst hi
      simp
    · rename_i hi
      have : i < W.heap.size := by simp at h1; omega
      simp [this]
  exact wpList_store_row hgd ty x y ho W.heap.size cells hx hy T zs hg hi hold (Array.all_eq_true_iff_forall_mem.2 fun u hu => h1 u (by simpa using hu)) (by rw [e]; exact h)
end
end Go.Proofs.Ytgcafklieblldaa.SL
