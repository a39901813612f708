/- Addresses as values of seventeen cells, taken as wholes: kinds, equality, building. No condition. -/
import Derived.Test.YtdinkhhaomblcaaDoorTm
import Derived.Test.YtdinkhhaomblcaaDoorWEqStruct
import Derived.Test.YtdinkhhaomblcaaDoorProg
import Derived.Deep.MidRow
import Derived.ChangeKeysEq
import Derived.WalkKit
import Derived.Laws.Tables
import Derived.WalkSpells
import Derived.WalkLawsBesides
import Derived.Handy
import Derived.Lib.Hide
import Derived.IntWalk
import Derived.BigQuiet
namespace Go.Proofs.YtdinkhhaomblcaaDoor.SL
open Go.RowKit Go.Proofs.YtdinkhhaomblcaaDoorW.PrintWords Go.Proofs.YtdinkhhaomblcaaDoorW.PrintLast Go.Proofs.YtdinkhhaomblcaaDoorW.PrintMore
/-- A kind whose cells are a function of the value. -/
def kF {α : Type} (n : Nat) (enc : α → List Value) (hl : ∀ x, (enc x).length = n) (h1 : ∀ x, ∀ u ∈ enc x, u.oneCell' = true) : Kd α where
  sz := n
  E := []
  K := fun _ x cs => cs = enc x
  M := fun _ _ _ x cs => cs = enc x
  K_len := fun h => by rw [h]; exact hl _
  K_one := fun h u hu => by rw [h] at hu; exact h1 _ u hu
  K_below := fun _ h => h
  K_of_M := fun h => h
  M_mono := fun _ h => h
  M_bound := fun h => h
  M_move := fun _ h => h
  M_lower := fun _ h => h
theorem flatF {α : Type} {n : Nat} {enc : α → List Value} {hl : ∀ x, (enc x).length = n} {h1 : ∀ x, ∀ u ∈ enc x, u.oneCell' = true} : Flat (kF n enc hl h1) := fun _ _ _ _ _ _ h => h
/-- An address. -/
structure Ad where
  v : Int
  b : List Int
  hb : b.length = 16
deriving DecidableEq
def aL (a : Ad) : List Value := .int .i64 a.v :: a.b.map (.int .u8 ·)
def aV (a : Ad) : Array Value := (aL a).toArray
theorem aL_len (a : Ad) : (aL a).length = 17 := by unfold aL; rw [List.length_cons, List.length_map, a.hb]
theorem aV_size (a : Ad) : (aV a).size = 17 := by unfold aV; rw [List.size_toArray, aL_len]
theorem aL_one (a : Ad) : ∀ u ∈ aL a, u.oneCell' = true := fun u hu => by
  rcases List.mem_cons.1 hu with rfl | hu
  · rfl
  · obtain ⟨x, _, rfl⟩ := List.mem_map.1 hu
    rfl
theorem Ad.ext' {x y : Ad} (h1 : x.v = y.v) (h2 : x.b = y.b) : x = y := by
  obtain ⟨v, b, hb⟩ := x
  obtain ⟨v', b', hb'⟩ := y
  simp only at h1 h2
  subst h1 h2
  rfl
section
variable (w : World)
theorem part_int (e : TypeId) (q : IntKind) (hu : Tryd.prog.underlying e = some (.int q)) (xs : Array Value) (off : Nat) {v : Value} (hx : xs[off]? = some v) : (part e xs off).run Tryd.prog w = .ok v w :=
  run_part_plain w (by unfold Program.plainKey; rw [hu]) hx
theorem part_agg (e : TypeId) (hu : (∃ n e', Tryd.prog.underlying e = some (.array n e')) ∨ ∃ fs, Tryd.prog.underlying e = some (.struct fs)) (xs : Array Value) (off : Nat) : (part e xs off).run Tryd.prog w = .ok (.agg (xs.extract off (off + Tryd.prog.cellsOf e))) w := by
  rcases hu with ⟨n, e', hu⟩ | ⟨fs, hu⟩
  · obtain ⟨i, hi⟩ := info_of_underlying hu
    simp [part, isAgg, run_underlying hu, run_sizeOf w hi]
  · obtain ⟨i, hi⟩ := info_of_underlying hu
    simp [part, isAgg, run_underlying hu, run_sizeOf w hi]
/-- Items that are whole numbers. -/
theorem eqItems_ints (d : Nat) (e : TypeId) (q : IntKind) (hu : Tryd.prog.underlying e = some (.int q)) (xs ys : Array Value) (f g : Nat → Int) : ∀ (is : List Nat), (∀ i ∈ is, xs[i]? = some (.int q (f i)) ∧ ys[i]? = some (.int q (g i))) →
    (Op.eqItems (d + 1) e 1 xs ys is).run Tryd.prog w = .ok (is.all fun i => f i == g i) w
  | [], _ => rfl
  | i :: is, h => by
    obtain ⟨h1, h2⟩ := h i List.mem_cons_self
    have ih := eqItems_ints d e q hu xs ys f g is (fun j hj => h j (List.mem_cons_of_mem _ hj))
    unfold Op.eqItems
    simp only [Nat.mul_one, Sem.run_bind, part_int w e q hu xs i h1, part_int w e q hu ys i h2, run_equalIn_int w d e q q _ _ hu, Result.andThen_ok, List.all_cons]
    cases hc : f i == g i
    · rfl
    · rw [Bool.true_and]
      exact ih
theorem aV_at (a : Ad) (i : Nat) (h : i < 16) : (aV a)[i + 1]? = some (.int .u8 (a.b.getD i 0)) := by
  have hb := a.hb
  unfold aV aL
  simp [List.getD_eq_getElem?_getD, show i < a.b.length by omega]
theorem bytes_eq (x y : List Int) (hx : x.length = 16) (hy : y.length = 16) : ((List.range 16).all fun i => x.getD i 0 == y.getD i 0) = decide (x = y) := by
  rw [Bool.eq_iff_iff, List.all_eq_true, decide_eq_true_eq]
  constructor
  · intro h
    apply List.ext_getElem (by omega)
    intro i h1 h2
    have := h i (List.mem_range.2 (by omega))
    simpa [List.getD_eq_getElem?_getD, h1, h2] using this
  · rintro rfl i _
    simp
theorem cells1 : Tryd.prog.cellsOf 5 = 1 := by kernel_rfl
theorem cells16 : Tryd.prog.cellsOf 30 = 16 := by kernel_rfl
theorem cells17 : Tryd.prog.cellsOf 32 = 17 := by kernel_rfl
theorem eqB (d : Nat) (x y : Ad) : (Op.equalIn (d + 2) 30 (.agg ((aV x).extract 1 17)) (.agg ((aV y).extract 1 17))).run Tryd.prog w = .ok (decide (x.b = y.b)) w := by
  obtain ⟨i, hi⟩ := info_of_underlying Tryd.underlying5
  rw [run_equalIn_array (P := Tryd.prog) w (d + 1) _ _ Tryd.underlying30 hi, cells1, eqItems_ints w d 5 .u8 Tryd.underlying5 _ _ (fun i => x.b.getD i 0) (fun i => y.b.getD i 0) (List.range 16) (fun j hj => ?_), bytes_eq x.b y.b x.hb y.hb]
  have hj := List.mem_range.1 hj
  have h1 := aV_at x j hj
  have h2 := aV_at y j hj
  constructor
  · rw [Array.getElem?_extract, if_pos (by rw [aV_size]; omega), Nat.add_comm]; exact h1
  · rw [Array.getElem?_extract, if_pos (by rw [aV_size]; omega), Nat.add_comm]; exact h2
theorem eqAd (d : Nat) (x y : Ad) : (Op.equalIn (d + 3) 32 (.agg (aV x)) (.agg (aV y))).run Tryd.prog w = .ok (decide (x = y)) w := by
  have h := eqf_cons (P := Tryd.prog) (w := w) (d := d + 2) (xs := aV x) (ys := aV y) (f := ⟨"V", 3, 0, false, "", "", 0⟩) (fs := [⟨"B", 30, 1, false, "", "", 8⟩]) (by rfl) (part_int w _ .i64 Tryd.underlying3 _ _ rfl) (part_int w _ .i64 Tryd.underlying3 _ _ rfl) (run_equalIn_int w (d + 1) _ _ .i64 _ _ Tryd.underlying3)
    (eqf_last (by rfl) (part_agg w _ (.inl ⟨_, _, Tryd.underlying30⟩) _ _) (part_agg w _ (.inl ⟨_, _, Tryd.underlying30⟩) _ _) (by rw [cells16]; exact eqB w d x y))
  have e : (x.v == y.v && decide (x.b = y.b)) = decide (x = y) := by
    rw [Bool.eq_iff_iff, Bool.and_eq_true, beq_iff_eq, decide_eq_true_eq, decide_eq_true_eq]
    exact ⟨fun ⟨h1, h2⟩ => Ad.ext' h1 h2, fun h => by rw [h]; exact ⟨rfl, rfl⟩⟩
  rw [e] at h
  exact eqA_of Tryd.underlying32 (by kernel_rfl) h
end
/-- What is built. -/
def ofBytes (v : Int) (bs : List Int) (h : bs.length = 16) : Ad := ⟨v, bs, h⟩
end Go.Proofs.YtdinkhhaomblcaaDoor.SL
namespace Go.Proofs.YtdinkhhaomblcaaDoor.SL
open Go.RowKit Go.Proofs.YtdinkhhaomblcaaDoorW.PrintWords Go.Proofs.YtdinkhhaomblcaaDoorW.PrintLast Go.Proofs.YtdinkhhaomblcaaDoorW.PrintMore
def zA (v : Int) : Ad := ⟨v, List.replicate 16 0, rfl⟩
/-- 10.0.0.d -/
def fA (d : Int) : Ad := ⟨4, 10 :: 0 :: 0 :: d :: List.replicate 12 0, rfl⟩
theorem list16 (l : List Int) (h : l.length = 16) : ∃ b0 b1 b2 b3 b4 b5 b6 b7 b8 b9 b10 b11 b12 b13 b14 b15, l = [b0, b1, b2, b3, b4, b5, b6, b7, b8, b9, b10, b11, b12, b13, b14, b15] := by
  match l, h with
  | [b0, b1, b2, b3, b4, b5, b6, b7, b8, b9, b10, b11, b12, b13, b14, b15], _ => exact ⟨_, _, _, _, _, _, _, _, _, _, _, _, _, _, _, _, rfl⟩
theorem built_z (v : Int) : Tryd.prog.built 32 [(0, .int .i64 v)] = some (aV (zA v)) := by kernel_rfl
theorem built_n : Tryd.prog.built 32 [] = some (aV (zA 0)) := by kernel_rfl
section
variable (w : World)
theorem bld_z (v : Int) : (Instr.build 32 #[(0, .int .i64 v)]).run Tryd.prog w = .ok (.agg (aV (zA v))) w := run_build w _ _ _ (built_z v)
theorem bld_n : (Instr.build 32 #[]).run Tryd.prog w = .ok (.agg (aV (zA 0))) w := run_build w _ _ _ built_n
theorem grd_ad : Tryd.prog.eqGuardType Tryd.prog.depth 32 = false := by kernel_rfl
theorem eql_ad (x y : Ad) : (binOp .eql 32 (.agg (aV x)) (.agg (aV y))).run Tryd.prog w = .ok (.bool (decide (x = y))) w := by
  rw [run_eql_struct, show (10000 : Nat) = 9997 + 3 from rfl, eqAd]; rfl
theorem neq_ad (x y : Ad) : (binOp .neq 32 (.agg (aV x)) (.agg (aV y))).run Tryd.prog w = .ok (.bool (!decide (x = y))) w := by
  rw [run_neq_struct, show (10000 : Nat) = 9997 + 3 from rfl, eqAd]; rfl
end
section
variable {P : Program} {ops : Array Oper} {rest : List Oper} {o : Oper} {a : Act} {Q : Exit → Act → World → Prop} {w W : World}
/-- An aggregate that is built. -/
theorem wpList_buildA (hgd : o.guard = none) (t : TypeId) (parts : Array (Nat × Operand)) (ho : o.op = .build t parts) (vs : List (Nat × Value)) (hv : (parts.toList.map fun x => (x.1, a.eval x.2)) = vs) {cells : Array Value} (hb : P.built t vs = some cells)
    (h : wpList P ops Q rest (a.put o.dst (.agg cells)) w) : wpList P ops Q (o :: rest) a w :=
  wpList_plain hgd fun _ hK => by
    unfold Oper.wp execOp
    simp only [ho, Sem.run_bind, run_build w t _ cells (by rw [Array.toList_map]; exact (congrArg (P.built t) hv).trans hb), Result.andThen_ok]
    exact hK _ _ h
/-- A variable that was just made is written whole. -/
theorem wpList_store_new (hgd : o.guard = none) (ty : TypeId) (x y : Operand) (ho : o.op = .store ty x y) {zs cells : Array Value} {T : TypeId} (hx : a.eval x = .pointer (some ⟨W.heap.size, 0, none⟩)) (hy : a.eval y = .agg cells)
    (hi : (P.info? ty).map (·.size) = some cells.size) (hold : zs.size = cells.size) (h1 : ∀ u ∈ cells.toList, u.oneCell' = true)
    (h : wpList P ops Q rest (a.put o.dst undef) (W.alloc (.cells cells T))) : wpList P ops Q (o :: rest) a (W.alloc (.cells zs T)) := by
  have hg : (W.alloc (.cells zs T)).heap[W.heap.size]? = some (.cells zs T (0, 0)) := heap_alloc_new W _
  have e : (W.alloc (.cells zs T)).setRow W.heap.size cells = W.alloc (.cells cells T) := by
    unfold World.setRow World.alloc
    dsimp only
    congr 1
    apply Array.ext (by simp)
    intro i h1 h2
    rw [Array.getElem_modify]
    simp only [Array.getElem_push]
    split
    · rename_i hi
      subst hi
      simp
    · rename_i hi
      have : i < W.heap.size := by simp at h1; omega
      simp [this]
  exact wpList_store_row hgd ty x y ho W.heap.size cells hx hy T zs hg hi hold (Array.all_eq_true_iff_forall_mem.2 fun u hu => h1 u (by simpa using hu)) (by rw [e]; exact h)
theorem wpList_guarded (hw : Region.wanted o (yielded ops a.tmps) = true) (h : wpList P ops Q ({ o with guard := none } :: rest) a w) : wpList P ops Q (o :: rest) a w := by
  unfold wpList at h ⊢
  rw [if_pos hw]
  rw [if_pos (by rfl)] at h
  exact h
end
theorem rangeAt_below {w w1 : World} {b o : Nat} {cs : List Value} (h : w.rangeAt b o cs) (hb : b < w.heap.size) (B : Below w.heap.size w w1) : w1.rangeAt b o cs := fun j u hu => by
  rw [World.cell?_of_block (w := w) (B.block b hb)]
  exact h j u hu
theorem rangeAt_row {w : World} {b : Nat} {cells : Array Value} {T : TypeId} {fr : Nat × Nat} (h : w.heap[b]? = some (.cells cells T fr)) (o : Nat) (cs : List Value) (hc : ∀ j u, cs[j]? = some u → cells[o + j]? = some u) : w.rangeAt b o cs := fun j u hu => by
  rw [cell_of_row _ _ _ _ _ _ h]
  exact hc j u hu
theorem sizA : (Tryd.prog.info? 32).map (·.size) = some 17 := by kernel_rfl
section
variable {ops : Array Oper} {rest : List Oper} {o : Oper} {a : Act} {Q : Exit → Act → World → Prop} {w W : World}
theorem ld_A (x : Operand) (hgd : o.guard = none) (ho : o.op = .load 32 x) {b k : Nat} {y : Ad} (hc : w.rangeAt b k (aL y)) (hx : a.eval x = .pointer (some ⟨b, k, none⟩)) (h : wpList Tryd.prog ops Q rest (a.put o.dst (.agg (aV y))) w) : wpList Tryd.prog ops Q (o :: rest) a w :=
  wpList_load_mid hgd _ x ho b k hx (aL y) _ hc Tryd.underlying32 rfl (by rw [aL_len]; exact sizA) h
theorem st_A (x y : Operand) (hgd : o.guard = none) (ho : o.op = .store 32 x y) {zs : Array Value} {T : TypeId} {z : Ad} (hx : a.eval x = .pointer (some ⟨W.heap.size, 0, none⟩)) (hy : a.eval y = .agg (aV z)) (hold : zs.size = 17)
    (h : wpList Tryd.prog ops Q rest (a.put o.dst undef) (W.alloc (.cells (aV z) T))) : wpList Tryd.prog ops Q (o :: rest) a (W.alloc (.cells zs T)) :=
  wpList_store_new hgd _ x y ho hx hy (by rw [aV_size]; exact sizA) (by rw [aV_size, hold]) (aL_one z) h
end
theorem range_A {w : World} {b : Nat} {y : Ad} {T : TypeId} {fr : Nat × Nat} (h : w.heap[b]? = some (.cells (aV y) T fr)) : w.rangeAt b 0 (aL y) := rangeAt_row h 0 _ fun j u hu => by
  unfold aV
  rw [List.getElem?_toArray, Nat.zero_add]
  exact hu
def yL (b : List Int) : List Value := b.map (.int .u8 ·)
def yV (b : List Int) : Array Value := (yL b).toArray
theorem yL_len (b : List Int) (h : b.length = 16) : (yL b).length = 16 := by unfold yL; rw [List.length_map, h]
theorem yV_at (b : List Int) (hb : b.length = 16) (i : Nat) (h : i < 16) : (yV b)[i]? = some (.int .u8 (b.getD i 0)) := by
  unfold yV yL
  simp [List.getD_eq_getElem?_getD, show i < b.length by omega]
theorem eqBy (w : World) (d : Nat) (x y : List Int) (hx : x.length = 16) (hy : y.length = 16) : (Op.equalIn (d + 2) 30 (.agg (yV x)) (.agg (yV y))).run Tryd.prog w = .ok (decide (x = y)) w := by
  obtain ⟨i, hi⟩ := info_of_underlying Tryd.underlying5
  rw [run_equalIn_array (P := Tryd.prog) w (d + 1) _ _ Tryd.underlying30 hi, cells1, eqItems_ints w d 5 .u8 Tryd.underlying5 _ _ (fun i => x.getD i 0) (fun i => y.getD i 0) (List.range 16) (fun j hj => ⟨yV_at x hx j (List.mem_range.1 hj), yV_at y hy j (List.mem_range.1 hj)⟩), bytes_eq x y hx hy]
theorem eql_by (w : World) (x y : List Int) (hx : x.length = 16) (hy : y.length = 16) : (binOp .eql 30 (.agg (yV x)) (.agg (yV y))).run Tryd.prog w = .ok (.bool (decide (x = y))) w := by
  rw [run_eql_struct, show (10000 : Nat) = 9998 + 2 from rfl, eqBy w _ x y hx hy]; rfl
theorem sizY : (Tryd.prog.info? 30).map (·.size) = some 16 := by kernel_rfl
section
variable {ops : Array Oper} {rest : List Oper} {o : Oper} {a : Act} {Q : Exit → Act → World → Prop} {w W : World}
theorem ld_Y (x : Operand) (hgd : o.guard = none) (ho : o.op = .load 30 x) {b k : Nat} {y : List Int} (hy : y.length = 16) (hc : w.rangeAt b k (yL y)) (hx : a.eval x = .pointer (some ⟨b, k, none⟩)) (h : wpList Tryd.prog ops Q rest (a.put o.dst (.agg (yV y))) w) : wpList Tryd.prog ops Q (o :: rest) a w :=
  wpList_load_mid hgd _ x ho b k hx (yL y) _ hc Tryd.underlying30 rfl (by rw [yL_len y hy]; exact sizY) h
end
theorem range_Y {w : World} {b : Nat} {y : Ad} {T : TypeId} {fr : Nat × Nat} (h : w.heap[b]? = some (.cells (aV y) T fr)) : w.rangeAt b 1 (yL y.b) := rangeAt_row h 1 _ fun j u hu => by
  unfold aV aL
  rw [List.getElem?_toArray, Nat.add_comm, List.getElem?_cons_succ]
  exact hu
theorem cell_V {w : World} {b : Nat} {y : Ad} {T : TypeId} {fr : Nat × Nat} (h : w.heap[b]? = some (.cells (aV y) T fr)) : w.cell? ⟨b, 0, none⟩ = some (.int .i64 y.v) := by
  rw [cell_of_row _ _ _ _ _ _ h]; rfl
theorem cell_Y {w : World} {b : Nat} {y : Ad} {T : TypeId} {fr : Nat × Nat} (h : w.heap[b]? = some (.cells (aV y) T fr)) (i : Nat) (hi : i < 16) : w.cell? ⟨b, i + 1, none⟩ = some (.int .u8 (y.b.getD i 0)) := by
  rw [cell_of_row _ _ _ _ _ _ h]; exact aV_at y i hi
def bitsA (a : Ad) : Int := if a.v = 4 then (if (a.b.drop 4).all (· == 0) then 32 else 0) else if a.v = 6 then 128 else 0
set_option maxHeartbeats 2000000 in
theorem bits_calls (a : Ad) (w : World) :
    Calls Tryd.prog 51 #[.agg (aV a)] w fun e w' => e = .returned (.int .i64 (bitsA a)) ∧ Below w.heap.size w w' := by
  have hB0 : Below w.heap.size w (w.alloc (.cells (aV a) 32)) := ((Touch.refl [] w).alloc _).below
  have HB := Lib.hid hB0
  have hb := heap_alloc_new w (.cells (aV a) 32)
  have v0 := cell_V hb
  have HX := Lib.hid hb
  clear hB0 hb
  go_enter Tryd.func51, Tryd.ntmps51
  by_cases h4 : a.v = 4
  · have hd : (a.v == 4) = true := by simpa using h4
    go_wp2_with fail
    generalize hW : w.alloc (.cells (aV a) 32) = W at HB HX v0 ⊢
    generalize w.heap.size = B at HX v0 ⊢
    clear hW v0
    go_loopw [4, 12] (fun _ i wr => ∃ k : Nat, k ≤ 12 ∧ i = .int .i64 k ∧ wr = W ∧ Hid (∀ j, j < k → a.b.getD (4 + j) 0 = 0)) (fun _ i _ => 12 - (intOf i).toNat)
    case atStart => exact ⟨0, by omega, rfl, rfl, Lib.hid (fun j hj => absurd hj (Nat.not_lt_zero _))⟩
    case round =>
      obtain ⟨k, hk, rfl, rfl, AA⟩ := hrel
      by_cases hlt : k < 12
      · have hltz : (k : Int) < 12 := by omega
        have c0 := cell_Y HX.out (4 + k) (by omega)
        rw [show 4 + k + 1 = 5 + k by omega] at c0
        generalize hy : a.b.getD (4 + k) 0 = y at c0
        have HY := Lib.hid hy
        clear hy
        by_cases hq : y = 0
        · have hq' : (y == 0) = true := by simpa using hq
          go_wp2_with fail
          go_roundw
          case rel => exact ⟨k + 1, by omega, by go_num, by trivial, Lib.hid (fun j hj => by
            by_cases e : j = k
            · subst e; rw [HY.out]; exact hq
            · exact AA.out j (by omega))⟩
          case measure => simp [intOf]; omega
        · have hq' : (y == 0) = false := by simpa using hq
          go_wp2_with fail
          go_ret
          refine ⟨?_, HB.out⟩
          have : bitsA a = 0 := by
            unfold bitsA
            rw [if_pos h4, if_neg]
            intro hall
            rw [List.all_eq_true] at hall
            apply hq
            have hb := a.hb
            have hm : (a.b.drop 4)[k]? = some y := by
              rw [List.getElem?_drop, List.getElem?_eq_getElem (by omega)]
              rw [← HY.out, List.getD_eq_getElem?_getD, List.getElem?_eq_getElem (by omega)]
              rfl
            simpa using hall y (List.mem_of_getElem? hm)
          rw [this]
          rfl
      · have hltz : ¬ (k : Int) < 12 := by omega
        have hkx : k = 12 := by omega
        go_wp2
        go_ret
        refine ⟨?_, HB.out⟩
        have : bitsA a = 32 := by
          unfold bitsA
          rw [if_pos h4, if_pos]
          rw [List.all_eq_true]
          intro x hx
          obtain ⟨j, hj, rfl⟩ := List.getElem_of_mem hx
          have hb := a.hb
          rw [List.length_drop] at hj
          have := AA.out j (by omega)
          rw [List.getD_eq_getElem?_getD, List.getElem?_eq_getElem (by omega)] at this
          simpa using this
        rw [this]
        rfl
  · have hd : (a.v == 4) = false := by simpa using h4
    by_cases h6 : a.v = 6
    · have hd6 : (a.v == 6) = true := by simpa using h6
      go_wp2_with fail
      go_ret
      refine ⟨?_, HB.out⟩
      rw [show bitsA a = 128 by unfold bitsA; rw [if_neg h4, if_pos h6]]
      rfl
    · have hd6 : (a.v == 6) = false := by simpa using h6
      go_wp2_with fail
      go_ret
      refine ⟨?_, HB.out⟩
      rw [show bitsA a = 0 by unfold bitsA; rw [if_neg h4, if_neg h6]]
      rfl
def validA (a : Ad) : Bool := decide (0 < bitsA a)
theorem valid_calls (a : Ad) (w : World) :
    Calls Tryd.prog 37 #[.agg (aV a)] w fun e w' => e = .returned (.bool (validA a)) ∧ Below w.heap.size w w' := by
  have hB0 : Below w.heap.size w (w.alloc (.cells (aV a) 32)) := ((Touch.refl [] w).alloc _).below
  have HB := Lib.hid hB0
  have HR := Lib.hid (range_A (heap_alloc_new w (.cells (aV a) 32)))
  have HC := Lib.hid (bits_calls a (w.alloc (.cells (aV a) 32)))
  have HV := Lib.hid (show validA a = decide (0 < bitsA a) from rfl)
  generalize bitsA a = f at HC HV
  clear hB0
  go_enter Tryd.func37, Tryd.ntmps37
  go_wp2_with (first | (refine gate_ (.load 32 (.tmp 1)) rfl ?_; go_must (refine ld_A (.tmp 1) rfl rfl HR.out rfl ?_)) | (go_at_call 51; refine HC.out.mono ?_; rintro e w' ⟨rfl, hb'⟩))
  go_ret
  refine ⟨by rw [HV.out]; rfl, HB.out.trans (hb'.mono HB.out.size)⟩
theorem lv3 (a : Addr) : loadVar 3 a = (do if ← isAgg 3 then pure (.agg (← loadCells a (← sizeOf 3))) else load a) := rfl
theorem lvA {w : World} {b k : Nat} {x : Ad} (h : w.rangeAt b k (aL x)) : (loadVar 32 ⟨b, k, none⟩).run Tryd.prog w = .ok (.agg (aV x)) w :=
  run_loadVar_mid w b k _ (aL x) _ h Tryd.underlying32 rfl (by rw [aL_len]; exact sizA)
theorem svA {w : World} {b : Nat} {zs : Array Value} {T : TypeId} {x : Ad} (h : w.heap[b]? = some (.cells zs T (0, 0))) (hz : zs.size = 17) : (storeVar 32 ⟨b, 0, none⟩ (.agg (aV x))).run Tryd.prog w = .ok () (w.setRow b (aV x)) :=
  run_storeVar_row w b T _ zs (aV x) h (by rw [aV_size]; exact sizA) (by rw [aV_size, hz]) (Array.all_eq_true_iff_forall_mem.2 fun u hu => aL_one x u (by simpa [aV] using hu))
end Go.Proofs.YtdinkhhaomblcaaDoor.SL
