/- The library's SortFunc over addresses with the closure of ordered; ordered. No condition but sizes. -/
import Derived.Test.YtdinkhhaomblcaaDoorG3
import Derived.Test.YtdinkhhaomblcaaDoorQS
import Derived.Test.YtdinkhhaomblcaaDoorTm
import Derived.Test.YtdinkhhaomblcaaDoorBx
import Derived.Shelf.SlGeneric
namespace Go.Proofs.YtdinkhhaomblcaaDoor.SL
open Go.Shelf Go.Lib Go.Sort Go.RowKit Go.Proofs.YtdinkhhaomblcaaDoorW.PrintWords Go.Proofs.YtdinkhhaomblcaaDoorW.PrintLast Go.Proofs.YtdinkhhaomblcaaDoorW.PrintMore
abbrev kA : Kd Ad := kF 17 aL aL_len aL_one
theorem ins_nil (g : Value) (w : World) : Calls Tryd.prog 58 #[.slice none 0 0, .int .i64 0, .int .i64 0, g] w fun e w' => e = .returned (.tuple #[]) ∧ w' = w := by
  go_enter Tryd.func58, Tryd.ntmps58
  go_wp2
  refine wp_loop_rounds 1 ?_
  rw [rounds_succ]
  go_wp2
  go_end0
  exact ⟨rfl, rfl⟩
theorem pdq_nil (g : Value) (w : World) : Calls Tryd.prog 55 #[.slice none 0 0, .int .i64 0, .int .i64 0, .int .i64 0, g] w fun e w' => e = .returned (.tuple #[]) ∧ w' = w := by
  go_enter Tryd.func55, Tryd.ntmps55
  go_wp2
  refine wp_loop_rounds 1 ?_
  rw [rounds_succ]
  go_wp2_with (go_at_call 58; refine (ins_nil _ _).mono ?_; rintro e w1 ⟨rfl, rfl⟩)
  refine bodyPost_ret (results_none rfl _ _ _) rfl ?_
  exact ⟨rfl, rfl⟩
theorem sort_nil (g : Value) (w : World) : Calls Tryd.prog 47 #[.slice none 0 0, g] w fun e w' => e = .returned (.tuple #[]) ∧ w' = w := by
  have hl : Calls Tryd.prog 56 #[.int .u64 0] w fun e w' => e = .returned (.int .i64 0) ∧ w' = w := by
    have h := Any.bits_Len (SlLaysF0.n15.bits (P := Tryd.prog) (ρ := Q.sortAd_ren) { Q.sortAd with }) 0 w (by omega) (by omega)
    exact h
  go_enter Tryd.func47, Tryd.ntmps47
  go_wp2_with (first | (go_at_call 56; refine hl.mono ?_; rintro e w1 ⟨rfl, rfl⟩) | (go_at_call 55; refine (pdq_nil _ _).mono ?_; rintro e w1 ⟨rfl, rfl⟩))
  go_end0
  exact ⟨rfl, rfl⟩
abbrev GAd := { a : Ad // BOk a }
instance : Inhabited GAd := ⟨⟨zA 0, fun x hx => by
  have : x = 0 := by simp [zA] at hx; exact hx
  omega⟩⟩
def encA (x : GAd) : List Value := aL x.1
def cfG (x y : GAd) : Int := cfA x.1 y.1
theorem swoG : SWO (ltOf cfG) where
  irrefl x := swoA.irrefl x.1
  trans x y z := swoA.trans x.1 y.1 z.1
  ntrans x y z := swoA.ntrans x.1 y.1 z.1
theorem cmpLaysA (blk off size : Nat) (w : World) : CmpLays Tryd.prog 48 #[] encA 17 cfG blk off size w :=
  fun _ _ _ _ x y => cmp_closure x.1 y.1 x.2 y.2 _
/-- What the sort leaves of a block: the row's cells, the rest as it was. -/
theorem heap_sortedA (w : World) (g : Nat) (cs : Array Value) (t : TypeId) (fr : Nat × Nat) (d : Array GAd) (n : Nat) (os : Array Obj) (hg : w.heap[g]? = some (.cells cs t fr)) :
    (sortWorldK encA 17 w g 0 n d os).heap[g]? = some (.cells (putCells id 0 (flatK encA 17 d) cs) t fr) := by
  have hlt : g < w.heap.size := (Array.getElem?_eq_some_iff.1 hg).1
  unfold sortWorldK
  rw [heap_grow_old _ _ (by simp [putRowK]; exact hlt)]
  unfold putRowK putRow mapBlock
  simp only [Array.getElem?_modify, if_true, heap_ahead, hg, Option.map_some, onCells]
theorem grown_sortedA (w : World) (g : Nat) (d : Array GAd) (n : Nat) (os : Array Obj) : w.grownBy (sortWorldK encA 17 w g 0 n d os) (some g) := by
  refine ⟨rfl, rfl, rfl, by simp [sortWorldK, putRowK], fun k hk hne => ?_⟩
  unfold sortWorldK
  rw [heap_grow_old _ _ (by simp [putRowK]; exact hk)]
  unfold putRowK putRow mapBlock
  simp only [Array.getElem?_modify, heap_ahead]
  rw [if_neg (fun h => hne (by rw [h]))]
def flatA : List Ad → List Value
  | [] => []
  | x :: l => aL x ++ flatA l
theorem flatA_len : ∀ l : List Ad, (flatA l).length = l.length * 17
  | [] => rfl
  | x :: l => by rw [flatA, List.length_append, aL_len, flatA_len l, List.length_cons]; omega
theorem flatA_reps : ∀ (l : List Ad) (cs : List Value), Reps (fun x c => c = aL x) 17 l cs ↔ cs = flatA l := by
  intro l
  induction l with
  | nil =>
    intro cs
    constructor
    · intro h; exact List.eq_nil_of_length_eq_zero (by simpa using h.1)
    · rintro rfl; exact ⟨rfl, fun j p hj => by simp at hj⟩
  | cons x l ih =>
    intro cs
    constructor
    · rintro ⟨h1, h2⟩
      have e0 := h2 0 x rfl
      simp only [Nat.zero_mul, List.drop_zero] at e0
      have e1 : cs.drop 17 = flatA l := (ih _).1 ⟨by rw [List.length_drop, h1, List.length_cons]; omega, fun j p hj => by
        have := h2 (j + 1) p (by simpa using hj)
        rw [List.drop_drop, show 17 + j * 17 = (j + 1) * 17 by omega]
        exact this⟩
      rw [flatA, ← e0, ← e1, List.take_append_drop]
    · rintro rfl
      refine ⟨flatA_len _, fun j p hj => ?_⟩
      cases j with
      | zero =>
        obtain rfl : x = p := by simpa using hj
        rw [Nat.zero_mul, List.drop_zero, flatA, List.take_append_of_le_length (by rw [aL_len]; exact Nat.le_refl _), List.take_of_length_le (by rw [aL_len]; exact Nat.le_refl _)]
      | succ j =>
        have := ((ih _).2 rfl).2 j p (by simpa using hj)
        rw [flatA, List.drop_append, aL_len, List.drop_eq_nil_of_le (by rw [aL_len]; omega), List.nil_append, show (j + 1) * 17 - 17 = j * 17 by omega]
        exact this
theorem flatK_flatA (da : Array GAd) : flatK encA 17 da = (flatA (da.toList.map (·.1))).toArray := by
  apply Array.ext_getElem?
  intro i
  have hR := (flatA_reps (da.toList.map (·.1)) _).2 rfl
  by_cases hi : i < da.size * 17
  · have h1 := get_flatK encA 17 da i hi
    have hs : i < (flatK encA 17 da).size := by simpa using hi
    rw [getElem!_pos _ i hs] at h1
    rw [Array.getElem?_eq_getElem hs, h1]
    have hj : i / 17 < da.size := by omega
    rw [getElem!_pos da (i / 17) hj]
    have h2 := hR.2 (i / 17) da[i / 17].1 (by simp [hj])
    have hm : i % 17 < 17 := Nat.mod_lt _ (by decide)
    have hl : i % 17 < (aL da[i / 17].1).length := by rw [aL_len]; exact hm
    have h3 : ((flatA (da.toList.map (·.1))).drop (i / 17 * 17)).take 17 = aL da[i / 17].1 := h2
    have h4 := congrArg (·[i % 17]?) h3
    simp only [List.getElem?_take, hm, if_true, List.getElem?_drop] at h4
    rw [show i / 17 * 17 + i % 17 = i by omega] at h4
    rw [List.getElem?_toArray, h4]
    rw [getElem!_pos _ _ (by simp [encA, aL_len]; exact hm)]
    unfold encA
    rw [List.getElem?_eq_getElem hl]
  · rw [Array.getElem?_eq_none (by simp; omega), Array.getElem?_eq_none (by simp [flatA_len]; omega)]
theorem putCells_take (F c : Array Value) (h : F.size ≤ c.size) : ((putCells id 0 F c).toList.take F.size) = F.toList ∧ (putCells id 0 F c).size = c.size := by
  refine ⟨?_, by simp [putCells]⟩
  apply List.ext_getElem?
  intro i
  rw [List.getElem?_take]
  by_cases hi : i < F.size
  · rw [if_pos hi, Array.getElem?_toList, Array.getElem?_toList]
    unfold putCells
    rw [Array.getElem?_mapIdx, Array.getElem?_eq_getElem (show i < c.size by omega)]
    simp only [Option.map_some]
    rw [if_pos ⟨Nat.zero_le _, by omega⟩, Array.getElem?_eq_getElem hi, Nat.sub_zero, getElem!_pos F i hi]
    rfl
  · rw [if_neg hi, Array.getElem?_toList, Array.getElem?_eq_none (by omega)]
/-- What ordered makes of a row. -/
def SortOf (xs ys : List Ad) : Prop := ys.Perm xs ∧ ys.Pairwise fun x y => ltA y x = false
theorem sort_R {v : Value} {xs : List Ad} {w : World} (h : kA.R 32 w 0 (fun _ => True) v xs) (hok : ∀ x ∈ xs, BOk x) (hl : xs.length < 4611686018427387904) :
    Calls Tryd.prog 47 #[v, .func (.func 48) #[] #[]] w fun e w' => e = .returned (.tuple #[]) ∧ ∃ ys, SortOf xs ys ∧ kA.R 32 w' 0 (fun _ => True) v ys ∧ w.grownBy w' v.ownBlock := by
  obtain ⟨h0, inner, ⟨ho1, ho2⟩, hr⟩ := h
  rcases ho2 with ⟨rfl, hn⟩ | ⟨g, cap, cur, rfl, _, hg, hnc, hcm, hcs, htake⟩
  · have hx : xs = [] := List.eq_nil_of_length_eq_zero hn
    subst hx
    exact (sort_nil _ w).mono fun e w' ⟨he, hw⟩ => ⟨he, [], ⟨List.Perm.refl _, List.Pairwise.nil⟩, by rw [hw]; exact Kd.R_nil _ _ _ _ _, by rw [hw]; exact ⟨rfl, rfl, rfl, Nat.le_refl _, fun _ _ _ => rfl⟩⟩
  · have hin : inner = flatA xs := (flatA_reps xs inner).1 hr
    obtain ⟨da, hda⟩ : ∃ da : Array GAd, da.toList.map (·.1) = xs := ⟨(xs.attach.map fun x => (⟨x.1, hok x.1 x.2⟩ : GAd)).toArray, by simp⟩
    have hsz : da.size = xs.length := by rw [← hda]; simp
    have hle : xs.length * 17 ≤ cur.size := by rw [hcs]; exact Nat.mul_le_mul_right _ hnc
    have hH : HoldsK encA 17 w g 0 da := by
      intro j hj
      have hj' : j < (flatA xs).length := by rw [flatA_len]; simp at hj; omega
      rw [flatK_flatA, hda] at hj ⊢
      rw [Nat.zero_add, cell_of_row w g j _ _ _ hg, frozen_of_row w g j _ _ hg]
      refine ⟨?_, rfl⟩
      rw [getElem!_pos _ j (by simpa using hj')]
      have h1 : cur.toList[j]? = some ((flatA xs).toArray[j]'(by simpa using hj')) := by
        have h2 := congrArg (·[j]?) htake
        rw [hin] at h2
        simp only [List.getElem?_take] at h2
        rw [if_pos (by rw [flatA_len] at hj'; exact hj')] at h2
        rw [h2, List.getElem?_eq_getElem hj']
        simp
      rw [Array.getElem?_toList] at h1
      exact h1
    have eg : ∀ args w, (callFunc 48 args).run Tryd.prog w = .ok (.enter 48 args) w := enters_of Tryd.func48 (by kernel_rfl) rfl
    have hcon := AnyQ.slices_SortFunc Q.sortAd 17 Tryd.isAgg32 Tryd.sizeOf32 encA (fun x => aL_len x.1) (fun x v hv => aL_one x.1 v hv) cfG swoG 48 #[] g 0 cap da w eg (cmpLaysA g 0 da.size w) hH ((Array.getElem?_eq_some_iff.1 hg).1) (by omega)
    rw [hsz] at hcon
    refine Calls.mono hcon ?_
    rintro e w' ⟨he, d', m, os, hp, hs, rfl⟩
    have hd' : d'.size = xs.length := by have := hp.1; omega
    have hperm : (d'.toList.map (·.1)).Perm xs := by
      rw [← hda]
      refine List.Perm.map _ ?_
      have h := hp.2.2
      have e1 : d'.extract 0 xs.length = d' := Array.extract_eq_self_of_le (by omega)
      have e2 : da.extract 0 xs.length = da := Array.extract_eq_self_of_le (by omega)
      rw [e1, e2] at h
      exact h
    refine ⟨he, d'.toList.map (·.1), ⟨hperm, ?_⟩, ?_, ?_⟩
    · rw [List.pairwise_iff_getElem]
      intro i j hi hj hij
      simp only [List.length_map, Array.length_toList] at hi hj
      have h := hs i j (Nat.zero_le _) hij (by omega)
      rw [getElem!_pos d' j hj, getElem!_pos d' i hi] at h
      simp only [List.getElem_map, Array.getElem_toList]
      have h2 : ltOf cfA d'[j].1 d'[i].1 = false := h
      rwa [ltOf_cfA] at h2
    · have hb := heap_sortedA w g cur _ _ d' m os hg
      obtain ⟨p1, p2⟩ := putCells_take (flatK encA 17 d') cur (by simp; omega)
      refine ⟨fun _ _ => trivial, flatA (d'.toList.map (·.1)), ⟨?_, .inr ⟨g, cap, _, by rw [hperm.length_eq], Nat.zero_le _, hb, ?_, hcm, ?_, ?_⟩⟩, (flatA_reps _ _).2 rfl⟩
      · rw [flatA_len]; rfl
      · simpa [hd'] using hnc
      · rw [p2]; exact hcs
      · rw [flatK_flatA] at p1 ⊢
        simp only [List.size_toArray, flatA_len, List.length_map, Array.length_toList] at p1
        simp only [List.length_map, Array.length_toList]
        exact p1
    · exact grown_sortedA w g d' m os
theorem flA : Flat kA := flatF
abbrev obAd (v : Value) (l : List Ad) : Ob := obW kA 32 flA v l
theorem ordered_calls {w0 w : World} {Γ : List Ob} (h : St w0 w Γ) (i : Nat) {v : Value} {xs : List Ad} (hi : Γ[i]? = some (obAd v xs)) (hok : ∀ x ∈ xs, BOk x) (hl : xs.length < 4611686018427387904) :
    Calls Tryd.prog 32 #[v] w fun e w' => e = .returned v ∧ ∃ ys, SortOf xs ys ∧ St w0 w' (Γ.set i (obAd v ys)) := by
  have HC : Hid (Calls Tryd.prog 47 #[v, .func (.func 48) #[] #[]] w fun e w' => e = .returned (.tuple #[]) ∧ ∃ ys, SortOf xs ys ∧ St w0 w' (Γ.set i (obAd v ys))) := Lib.hid ((sort_R (h.get i hi) hok hl).mono fun e w' ⟨he, ys, hs, hR, hg⟩ => ⟨he, ys, hs, h.growW i hi hR hg (.inl rfl)⟩)
  clear h hi hok hl
  go_enter Tryd.func32, Tryd.ntmps32
  go_wp2_with (go_at_call 47; refine HC.out.mono ?_; rintro e w1 ⟨rfl, hh⟩; have HH := Lib.hid hh; clear hh)
  go_ret
  exact ⟨rfl, HH.out⟩
/-- Addresses in their order, each once. -/
theorem sortOf_ord {xs ys : List Ad} (h : SortOf xs ys) (hn : xs.Nodup) : OrdA ys := ordA_of_sorted (h.1.nodup_iff.2 hn) h.2
end Go.Proofs.YtdinkhhaomblcaaDoor.SL
