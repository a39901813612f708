/- The library's SortFunc over timers, with Advance's closure. No condition but sizes. -/
import Derived.Test.YtadhceoaoopcjaaV1
import Derived.Shelf.SlGeneric
namespace Go.Proofs.Ytadhceoaoopcjaa.SL
open Go.Shelf Go.Lib Go.Sort Go.RowKit Go.Proofs.YtadhceoaoopcjaaW.PrintWords Go.Proofs.YtadhceoaoopcjaaW.PrintLast Go.Proofs.YtadhceoaoopcjaaW.PrintMore
structure Box2 (B C : Nat) (x y : Du) (W : World) : Prop where
  a0 : W.cell? ⟨B, 0, none⟩ = some (.int .i64 x.id)
  a1 : W.cell? ⟨B, 1, none⟩ = some (.int .i64 x.t)
  b0 : W.cell? ⟨C, 0, none⟩ = some (.int .i64 y.id)
  b1 : W.cell? ⟨C, 1, none⟩ = some (.int .i64 y.t)
theorem Box2.all {B C : Nat} {x y : Du} {W : World} (h : Box2 B C x y W) : W.cell? ⟨B, 0, none⟩ = some (.int .i64 x.id) ∧ W.cell? ⟨B, 1, none⟩ = some (.int .i64 x.t) ∧ W.cell? ⟨C, 0, none⟩ = some (.int .i64 y.id) ∧ W.cell? ⟨C, 1, none⟩ = some (.int .i64 y.t) := ⟨h.a0, h.a1, h.b0, h.b1⟩
set_option maxHeartbeats 4000000 in
theorem advC_calls (x y : Du) (w : World) : Calls Try.prog 27 #[.agg (dV x), .agg (dV y)] w fun e w' => e = .returned (.int .i64 (orI (cmpI x.t y.t) (cmpI x.id y.id))) ∧ ∃ q os', w' = grow (w.drewN q) os' := by
  have HB : Hid ((w.alloc (.cells (dV x) 36)).alloc (.cells (dV y) 36) = grow (w.drewN 0) #[.cells (dV x) 36 (0, 0), .cells (dV y) 36 (0, 0)]) := Lib.hid (by rw [alloc_eq_grow, alloc_eq_grow, grow_grow]; rfl)
  have hz : (w.alloc (.cells (dV x) 36)).heap.size = w.heap.size + 1 := by simp
  have HC : Hid (∀ W, Below ((w.alloc (.cells (dV x) 36)).alloc (.cells (dV y) 36)).heap.size ((w.alloc (.cells (dV x) 36)).alloc (.cells (dV y) 36)) W → Box2 w.heap.size (w.heap.size + 1) x y W) := Lib.hid fun W hW => by
    have g1 := heap_alloc_new (w.alloc (.cells (dV x) 36)) (.cells (dV y) 36)
    rw [hz] at g1
    have g0 : ((w.alloc (.cells (dV x) 36)).alloc (.cells (dV y) 36)).heap[w.heap.size]? = some (.cells (dV x) 36 (0, 0)) := (heap_alloc_old _ _ (by rw [hz]; omega)).trans (heap_alloc_new w _)
    have k0 := box_cells ((hW.block _ (lt_of_block g0)).trans g0)
    have k1 := box_cells ((hW.block _ (lt_of_block g1)).trans g1)
    exact ⟨k0.1, k0.2.1, k1.1, k1.2.1⟩
  clear hz
  go_enter Try.func27, Try.ntmps27
  go_wp2_with fail
  generalize (w.alloc (.cells (dV x) 36)).alloc (.cells (dV y) 36) = W0 at HB HC ⊢
  have HR : Hid (Below W0.heap.size W0 W0) := Lib.hid (Below.refl _ _)
  go_region_held3 (fun W => W.cell? ⟨w.heap.size, 0, none⟩ = some (.int .i64 x.id) ∧ W.cell? ⟨w.heap.size, 1, none⟩ = some (.int .i64 x.t) ∧ W.cell? ⟨w.heap.size + 1, 0, none⟩ = some (.int .i64 y.id) ∧ W.cell? ⟨w.heap.size + 1, 1, none⟩ = some (.int .i64 y.t)) ((refine Box2.all (HC.out _ ?_); first | exact HR.out | exact HR.out.drew | exact (HR.out.alloc HR.out.size _) | exact (HR.out.alloc HR.out.size _).drew)) (first | (go_at_call 29; refine (compare64_calls _ _ _).mono ?_; rintro e w1 ⟨rfl, rfl⟩) | (go_at_call 30; refine (compare_calls _ _ _).mono ?_; rintro e w1 ⟨rfl, rfl⟩) | (go_at_call 28; refine (or_calls _ _ _ _ (by exact heap_alloc_new W0 _)).mono ?_; rintro e w1 ⟨rfl, rfl⟩))
  all_goals
    go_wp2_with fail
    go_ret
    exact ⟨rfl, 1, _, by rw [HB.out, alloc_eq_grow, grow_grow]; rfl⟩
theorem ins_nil (g : Value) (w : World) : Calls Try.prog 53 #[.slice none 0 0, .int .i64 0, .int .i64 0, g] w fun e w' => e = .returned (.tuple #[]) ∧ w' = w := by
  go_enter Try.func53, Try.ntmps53
  go_wp2
  refine wp_loop_rounds 1 ?_
  rw [rounds_succ]
  go_wp2
  go_end0
  exact ⟨rfl, rfl⟩
theorem pdq_nil (g : Value) (w : World) : Calls Try.prog 46 #[.slice none 0 0, .int .i64 0, .int .i64 0, .int .i64 0, g] w fun e w' => e = .returned (.tuple #[]) ∧ w' = w := by
  go_enter Try.func46, Try.ntmps46
  go_wp2
  refine wp_loop_rounds 1 ?_
  rw [rounds_succ]
  go_wp2_with (go_at_call 53; refine (ins_nil _ _).mono ?_; rintro e w1 ⟨rfl, rfl⟩)
  refine bodyPost_ret (results_none rfl _ _ _) rfl ?_
  exact ⟨rfl, rfl⟩
theorem sort_nil (g : Value) (w : World) : Calls Try.prog 26 #[.slice none 0 0, g] w fun e w' => e = .returned (.tuple #[]) ∧ w' = w := by
  have hl : Calls Try.prog 47 #[.int .u64 0] w fun e w' => e = .returned (.int .i64 0) ∧ w' = w := by
    have h := Any.bits_Len (SlLaysF0.n15.bits (P := Try.prog) (ρ := Q.sortDu_ren) { Q.sortDu with }) 0 w (by omega) (by omega)
    exact h
  go_enter Try.func26, Try.ntmps26
  go_wp2_with (first | (go_at_call 47; refine hl.mono ?_; rintro e w1 ⟨rfl, rfl⟩) | (go_at_call 46; refine (pdq_nil _ _).mono ?_; rintro e w1 ⟨rfl, rfl⟩))
  go_end0
  exact ⟨rfl, rfl⟩
instance : Inhabited Du := ⟨⟨0, 0, 0⟩⟩
def cfD (x y : Du) : Int := orI (cmpI x.t y.t) (cmpI x.id y.id)
theorem ltOf_cfD (x y : Du) : ltOf cfD x y = ltD x y := by
  unfold ltOf ltD cfD orI cmpI
  rw [Bool.eq_iff_iff, decide_eq_true_eq, decide_eq_true_eq]
  by_cases h1 : x.t < y.t
  · simp [h1]
  · by_cases h2 : y.t < x.t
    · simp [h1, h2]; omega
    · by_cases h3 : x.id < y.id
      · simp [h1, h2, h3]; omega
      · by_cases h4 : y.id < x.id
        · simp [h1, h2, h3, h4]
        · simp [h1, h2, h3, h4]
theorem swoD : SWO (ltOf cfD) where
  irrefl x := by rw [ltOf_cfD]; exact ltD_irrefl x
  trans x y z h1 h2 := by rw [ltOf_cfD] at *; exact ltD_trans h1 h2
  ntrans x y z h1 h2 := by
    rw [ltOf_cfD] at *
    unfold ltD at *
    rw [decide_eq_false_iff_not] at *
    omega
theorem cmpLaysD (blk off size : Nat) (w : World) : CmpLays Try.prog 27 #[] dL 3 cfD blk off size w :=
  fun _ _ _ _ x y => advC_calls x y _
/-- What the sort leaves of a block: the row's cells, the rest as it was. -/
theorem heap_sortedD (w : World) (g : Nat) (cs : Array Value) (t : TypeId) (fr : Nat × Nat) (d : Array Du) (n : Nat) (os : Array Obj) (hg : w.heap[g]? = some (.cells cs t fr)) :
    (sortWorldK dL 3 w g 0 n d os).heap[g]? = some (.cells (putCells id 0 (flatK dL 3 d) cs) t fr) := by
  have hlt : g < w.heap.size := (Array.getElem?_eq_some_iff.1 hg).1
  unfold sortWorldK
  rw [heap_grow_old _ _ (by simp [putRowK]; exact hlt)]
  unfold putRowK putRow mapBlock
  simp only [Array.getElem?_modify, if_true, heap_ahead, hg, Option.map_some, onCells]
theorem grown_sortedD (w : World) (g : Nat) (d : Array Du) (n : Nat) (os : Array Obj) : w.grownBy (sortWorldK dL 3 w g 0 n d os) (some g) := by
  refine ⟨rfl, rfl, rfl, by simp [sortWorldK, putRowK], fun k hk hne => ?_⟩
  unfold sortWorldK
  rw [heap_grow_old _ _ (by simp [putRowK]; exact hk)]
  unfold putRowK putRow mapBlock
  simp only [Array.getElem?_modify, heap_ahead]
  rw [if_neg (fun h => hne (by rw [h]))]
def flatD : List Du → List Value
  | [] => []
  | x :: l => dL x ++ flatD l
theorem flatD_len : ∀ l : List Du, (flatD l).length = l.length * 3
  | [] => rfl
  | x :: l => by rw [flatD, List.length_append, dL_len, flatD_len l, List.length_cons]; omega
theorem flatD_reps : ∀ (l : List Du) (cs : List Value), Reps (fun x c => c = dL x) 3 l cs ↔ cs = flatD l := by
  intro l
  induction l with
  | nil =>
    intro cs
    constructor
    · intro h; exact List.eq_nil_of_length_eq_zero (by simpa using h.1)
    · rintro rfl; exact ⟨rfl, fun j p hj => by simp at hj⟩
  | cons x l ih =>
    intro cs
    constructor
    · rintro ⟨h1, h2⟩
      have e0 := h2 0 x rfl
      simp only [Nat.zero_mul, List.drop_zero] at e0
      have e1 : cs.drop 3 = flatD l := (ih _).1 ⟨by rw [List.length_drop, h1, List.length_cons]; omega, fun j p hj => by
        have := h2 (j + 1) p (by simpa using hj)
        rw [List.drop_drop, show 3 + j * 3 = (j + 1) * 3 by omega]
        exact this⟩
      rw [flatD, ← e0, ← e1, List.take_append_drop]
    · rintro rfl
      refine ⟨flatD_len _, fun j p hj => ?_⟩
      cases j with
      | zero =>
        obtain rfl : x = p := by simpa using hj
        rw [Nat.zero_mul, List.drop_zero, flatD, List.take_append_of_le_length (by rw [dL_len]; exact Nat.le_refl _), List.take_of_length_le (by rw [dL_len]; exact Nat.le_refl _)]
      | succ j =>
        have := ((ih _).2 rfl).2 j p (by simpa using hj)
        rw [flatD, List.drop_append, dL_len, List.drop_eq_nil_of_le (by rw [dL_len]; omega), List.nil_append, show (j + 1) * 3 - 3 = j * 3 by omega]
        exact this
theorem flatK_flatD (da : Array Du) : flatK dL 3 da = (flatD da.toList).toArray := by
  apply Array.ext_getElem?
  intro i
  have hR := (flatD_reps da.toList _).2 rfl
  by_cases hi : i < da.size * 3
  · have h1 := get_flatK dL 3 da i hi
    have hs : i < (flatK dL 3 da).size := by simpa using hi
    rw [getElem!_pos _ i hs] at h1
    rw [Array.getElem?_eq_getElem hs, h1]
    have hj : i / 3 < da.size := by omega
    rw [getElem!_pos da (i / 3) hj]
    have h2 := hR.2 (i / 3) da[i / 3] (by simp [hj])
    have hm : i % 3 < 3 := Nat.mod_lt _ (by decide)
    have hl : i % 3 < (dL da[i / 3]).length := by rw [dL_len]; exact hm
    have h3 : ((flatD da.toList).drop (i / 3 * 3)).take 3 = dL da[i / 3] := h2
    have h4 := congrArg (·[i % 3]?) h3
    simp only [List.getElem?_take, hm, if_true, List.getElem?_drop] at h4
    rw [show i / 3 * 3 + i % 3 = i by omega] at h4
    rw [List.getElem?_toArray, h4]
    rw [getElem!_pos _ _ (by simp [dL]; exact hm)]
    rw [List.getElem?_eq_getElem hl]
  · rw [Array.getElem?_eq_none (by simp; omega), Array.getElem?_eq_none (by simp [flatD_len]; omega)]
theorem putCells_take (F c : Array Value) (h : F.size ≤ c.size) : ((putCells id 0 F c).toList.take F.size) = F.toList ∧ (putCells id 0 F c).size = c.size := by
  refine ⟨?_, by simp [putCells]⟩
  apply List.ext_getElem?
  intro i
  rw [List.getElem?_take]
  by_cases hi : i < F.size
  · rw [if_pos hi, Array.getElem?_toList, Array.getElem?_toList]
    unfold putCells
    rw [Array.getElem?_mapIdx, Array.getElem?_eq_getElem (show i < c.size by omega)]
    simp only [Option.map_some]
    rw [if_pos ⟨Nat.zero_le _, by omega⟩, Array.getElem?_eq_getElem hi, Nat.sub_zero, getElem!_pos F i hi]
    rfl
  · rw [if_neg hi, Array.getElem?_toList, Array.getElem?_eq_none (by omega)]
/-- What ordered makes of a row. -/
def SortOf (xs ys : List Du) : Prop := ys.Perm xs ∧ ys.Pairwise fun x y => ltD y x = false
theorem sort_R {v : Value} {xs : List Du} {w : World} (h : kD.R 36 w 0 (fun _ => True) v xs) (hl : xs.length < 4611686018427387904) :
    Calls Try.prog 26 #[v, .func (.func 27) #[] #[]] w fun e w' => e = .returned (.tuple #[]) ∧ ∃ ys, SortOf xs ys ∧ kD.R 36 w' 0 (fun _ => True) v ys ∧ w.grownBy w' v.ownBlock := by
  obtain ⟨h0, inner, ⟨ho1, ho2⟩, hr⟩ := h
  rcases ho2 with ⟨rfl, hn⟩ | ⟨g, cap, cur, rfl, _, hg, hnc, hcm, hcs, htake⟩
  · have hx : xs = [] := List.eq_nil_of_length_eq_zero hn
    subst hx
    exact (sort_nil _ w).mono fun e w' ⟨he, hw⟩ => ⟨he, [], ⟨List.Perm.refl _, List.Pairwise.nil⟩, by rw [hw]; exact Kd.R_nil _ _ _ _ _, by rw [hw]; exact ⟨rfl, rfl, rfl, Nat.le_refl _, fun _ _ _ => rfl⟩⟩
  · have hin : inner = flatD xs := (flatD_reps xs inner).1 hr
    obtain ⟨da, hda⟩ : ∃ da : Array Du, da.toList = xs := ⟨xs.toArray, by simp⟩
    have hsz : da.size = xs.length := by rw [← hda]; simp
    have hle : xs.length * 3 ≤ cur.size := by rw [hcs]; exact Nat.mul_le_mul_right _ hnc
    have hH : HoldsK dL 3 w g 0 da := by
      intro j hj
      have hj' : j < (flatD xs).length := by rw [flatD_len]; simp at hj; omega
      rw [flatK_flatD, hda] at hj ⊢
      rw [Nat.zero_add, cell_of_row w g j _ _ _ hg, frozen_of_row w g j _ _ hg]
      refine ⟨?_, rfl⟩
      rw [getElem!_pos _ j (by simpa using hj')]
      have h1 : cur.toList[j]? = some ((flatD xs).toArray[j]'(by simpa using hj')) := by
        have h2 := congrArg (·[j]?) htake
        rw [hin] at h2
        simp only [List.getElem?_take] at h2
        rw [if_pos (by rw [flatD_len] at hj'; exact hj')] at h2
        rw [h2, List.getElem?_eq_getElem hj']
        simp
      rw [Array.getElem?_toList] at h1
      exact h1
    have eg : ∀ args w, (callFunc 27 args).run Try.prog w = .ok (.enter 27 args) w := enters_of Try.func27 (by kernel_rfl) rfl
    have hcon := AnyQ.slices_SortFunc Q.sortDu 3 Try.isAgg36 Try.sizeOf36 dL (fun x => dL_len x) (fun x v hv => dL_one x v hv) cfD swoD 27 #[] g 0 cap da w eg (cmpLaysD g 0 da.size w) hH ((Array.getElem?_eq_some_iff.1 hg).1) (by omega)
    rw [hsz] at hcon
    refine Calls.mono hcon ?_
    rintro e w' ⟨he, d', m, os, hp, hs, rfl⟩
    have hd' : d'.size = xs.length := by have := hp.1; omega
    have hperm : d'.toList.Perm xs := by
      rw [← hda]
      have h := hp.2.2
      have e1 : d'.extract 0 xs.length = d' := Array.extract_eq_self_of_le (by omega)
      have e2 : da.extract 0 xs.length = da := Array.extract_eq_self_of_le (by omega)
      rw [e1, e2] at h
      exact h
    refine ⟨he, d'.toList, ⟨hperm, ?_⟩, ?_, ?_⟩
    · rw [List.pairwise_iff_getElem]
      intro i j hi hj hij
      simp only [Array.length_toList] at hi hj
      have h := hs i j (Nat.zero_le _) hij (by omega)
      rw [getElem!_pos d' j hj, getElem!_pos d' i hi] at h
      simp only [Array.getElem_toList]
      have h2 : ltOf cfD d'[j] d'[i] = false := h
      rwa [ltOf_cfD] at h2
    · have hb := heap_sortedD w g cur _ _ d' m os hg
      obtain ⟨p1, p2⟩ := putCells_take (flatK dL 3 d') cur (by simp; omega)
      refine ⟨fun _ _ => trivial, flatD d'.toList, ⟨?_, .inr ⟨g, cap, _, by rw [hperm.length_eq], Nat.zero_le _, hb, ?_, hcm, ?_, ?_⟩⟩, (flatD_reps _ _).2 rfl⟩
      · rw [flatD_len]; rfl
      · simpa [hd'] using hnc
      · rw [p2]; exact hcs
      · rw [flatK_flatD] at p1 ⊢
        simp only [List.size_toArray, flatD_len, Array.length_toList] at p1
        simp only [Array.length_toList]
        exact p1
    · exact grown_sortedD w g d' m os
end Go.Proofs.Ytadhceoaoopcjaa.SL
