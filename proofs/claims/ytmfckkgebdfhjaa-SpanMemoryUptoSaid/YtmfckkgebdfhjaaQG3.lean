/- The library's SortFunc over spans, with joined's closure: the contract that joined's walk leans on. -/
import Derived.Test.YtmfckkgebdfhjaaQS
import Derived.Test.YtmfckkgebdfhjaaQG2
namespace Go.Proofs.Ytmfckkgebdfhjaa.Q
open Go.Shelf Go.RowKit Go.Lib Go.Sort

abbrev GSp := { s : Sp // goodB s = true }
instance : Inhabited GSp := ⟨⟨⟨0, 1⟩, rfl⟩⟩
def encG (x : GSp) : List Value := [.int .i64 x.1.f0, .int .i64 x.1.f1]
def cfG (x y : GSp) : Int := x.1.f0 - y.1.f0
theorem swoG : SWO (ltOf cfG) where
  irrefl x := by unfold ltOf cfG; simp
  trans x y z h1 h2 := by unfold ltOf cfG at *; simp at *; omega
  ntrans x y z h1 h2 := by unfold ltOf cfG at *; simp at *; omega

set_option maxHeartbeats 1000000 in
theorem cmp_closure (x y : GSp) (W : World) : Calls Try.prog 41 #[.agg #[.int .i64 x.1.f0, .int .i64 x.1.f1], .agg #[.int .i64 y.1.f0, .int .i64 y.1.f1]] W fun e w' => e = .returned (.int .i64 (cfG x y)) ∧ ∃ q os', w' = grow (W.drewN q) os' := by
  obtain ⟨⟨x0, x1⟩, hx⟩ := x
  obtain ⟨⟨y0, y1⟩, hy⟩ := y
  rw [goodB_iff] at hx hy
  obtain ⟨hx0, hx1, hx2⟩ := hx
  obtain ⟨hy0, hy1, hy2⟩ := hy
  simp only at hx0 hx1 hx2 hy0 hy1 hy2
  unfold cfG
  go_enter Try.func41, Try.ntmps41
  go_wp2
  go_ret
  exact ⟨rfl, 0, _, by rw [alloc_eq_grow, alloc_eq_grow, grow_grow]; rfl⟩
theorem cmpLaysG (blk off size : Nat) (w : World) : CmpLays Try.prog 41 #[] encG 2 cfG blk off size w :=
  fun _ _ _ _ x y => cmp_closure x y _

theorem flat_flatK (da : Array GSp) : flatK encG 2 da = (flat (da.toList.map (·.1))).toArray := by
  apply Array.ext_getElem?
  intro i
  by_cases hi : i < da.size * 2
  · have h1 := get_flatK encG 2 da i hi
    have hs : i < (flatK encG 2 da).size := by simpa using hi
    rw [getElem!_pos _ i hs] at h1
    rw [Array.getElem?_eq_getElem hs, h1]
    have hj : i / 2 < da.size := by omega
    rw [getElem!_pos da (i / 2) hj]
    obtain ⟨g0, g1⟩ := flat_get (da.toList.map (·.1)) (i / 2) (by simpa using hj)
    rcases Nat.mod_two_eq_zero_or_one i with hm | hm
    · rw [hm]
      have e : i = i / 2 * 2 := by omega
      have : (flat (da.toList.map (·.1))).toArray[i]? = some (.int .i64 da[i / 2].1.f0) := by
        rw [List.getElem?_toArray]
        conv => lhs; rw [e]
        rw [g0]
        simp
      rw [this]; rfl
    · rw [hm]
      have e : i = i / 2 * 2 + 1 := by omega
      have : (flat (da.toList.map (·.1))).toArray[i]? = some (.int .i64 da[i / 2].1.f1) := by
        rw [List.getElem?_toArray]
        conv => lhs; rw [e]
        rw [g1]
        simp
      rw [this]; rfl
  · rw [Array.getElem?_eq_none (by simp; omega), Array.getElem?_eq_none (by simp [flat_length]; omega)]

theorem putCells_all (F c : Array Value) (h : F.size = c.size) : putCells id 0 F c = F := by
  apply Array.ext_getElem?
  intro i
  unfold putCells
  by_cases hi : i < c.size
  · rw [Array.getElem?_mapIdx, Array.getElem?_eq_getElem hi]
    simp only [Option.map_some]
    rw [if_pos ⟨Nat.zero_le _, by omega⟩, Array.getElem?_eq_getElem (by omega), Nat.sub_zero, getElem!_pos F i (by omega)]
    rfl
  · rw [Array.getElem?_eq_none (by simp; omega), Array.getElem?_eq_none (by omega)]
theorem heap_sorted (w : World) (g : Nat) (cs : Array Value) (t : TypeId) (fr : Nat × Nat) (d : Array GSp) (n : Nat) (os : Array Obj) (hg : w.heap[g]? = some (.cells cs t fr)) (hs : d.size * 2 = cs.size) :
    (sortWorldK encG 2 w g 0 n d os).heap[g]? = some (.cells (flatK encG 2 d) t fr) := by
  have hlt : g < w.heap.size := (Array.getElem?_eq_some_iff.1 hg).1
  unfold sortWorldK
  rw [heap_grow_old _ _ (by simp [putRowK]; exact hlt)]
  unfold putRowK putRow mapBlock
  simp only [Array.getElem?_modify, if_true, heap_ahead, hg, Option.map_some, onCells]
  rw [putCells_all _ _ (by simpa using hs)]
theorem grown_sorted (w : World) (g : Nat) (d : Array GSp) (n : Nat) (os : Array Obj) : w.grownBy (sortWorldK encG 2 w g 0 n d os) (some g) := by
  refine ⟨rfl, rfl, rfl, by simp [sortWorldK, putRowK], fun k hk hne => ?_⟩
  unfold sortWorldK
  rw [heap_grow_old _ _ (by simp [putRowK]; exact hk)]
  unfold putRowK putRow mapBlock
  simp only [Array.getElem?_modify, heap_ahead]
  rw [if_neg (fun h => hne (by rw [h]))]

theorem sort_ok : SortOk := by
  intro g n d w hn hn2 hgood hg
  obtain ⟨da, hda⟩ : ∃ da : Array GSp, da.toList.map (·.1) = d := by
    refine ⟨(d.attach.map fun x => (⟨x.1, hgood x.1 x.2⟩ : GSp)).toArray, ?_⟩
    simp
  have hsz : da.size = d.length := by rw [← hda]; simp
  have hH : HoldsK encG 2 w g 0 da := by
    intro j hj
    have hj' : j < (flat d).length := by rw [flat_length]; simp at hj; omega
    rw [flat_flatK, hda] at hj ⊢
    rw [Nat.zero_add, cell_of_row w g j _ _ _ hg, frozen_of_row w g j _ _ hg]
    refine ⟨?_, rfl⟩
    rw [getElem!_pos _ j (by simpa using hj'), Array.getElem?_eq_getElem (by simpa using hj')]
    rfl
  have eg : ∀ args w, (callFunc 41 args).run Try.prog w = .ok (.enter 41 args) w := enters_of Try.func41 (by kernel_rfl) rfl
  have hcon := AnyQ.slices_SortFunc sortSp 2 Try.isAgg24 Try.sizeOf24 encG (fun _ => rfl) (fun x v hv => by simp [encG] at hv; rcases hv with rfl | rfl <;> rfl) cfG swoG 41 #[] g 0 n da w eg (cmpLaysG g 0 da.size w) hH ((Array.getElem?_eq_some_iff.1 hg).1) (by omega)
  rw [hsz, ← hn] at hcon
  refine Calls.mono hcon ?_
  rintro e w' ⟨he, d', m, os, hp, hs, rfl⟩
  refine ⟨he, d'.toList.map (·.1), ?_, ?_, ?_, grown_sorted _ _ _ _ _⟩
  · rw [← hda]
    refine List.Perm.map _ ?_
    have h := hp.2.2
    have e1 : d'.extract 0 n = d' := by
      apply Array.extract_eq_self_of_le
      have := hp.1
      omega
    have e2 : da.extract 0 n = da := by
      apply Array.extract_eq_self_of_le
      omega
    rw [e1, e2] at h
    exact h
  · rw [List.pairwise_iff_getElem]
    intro i j hi hj hij
    simp only [List.length_map, Array.length_toList] at hi hj
    have hsd := hp.1
    have h := hs i j (Nat.zero_le _) hij (by omega)
    rw [getElem!_pos d' j hj, getElem!_pos d' i hi] at h
    unfold ltOf cfG at h
    simp only [decide_eq_false_iff_not] at h
    simp only [List.getElem_map, Array.getElem_toList]
    omega
  · have h := heap_sorted w g _ _ _ d' m os hg (by rw [hp.1]; simp [flat_length]; omega)
    rw [flat_flatK] at h
    exact h
end Go.Proofs.Ytmfckkgebdfhjaa.Q
namespace Go.Proofs.Ytmfckkgebdfhjaa.Q
open Go.RowKit Go.Proofs.YtmfckkgebdfhjaaW.PrintWords Go.Proofs.YtmfckkgebdfhjaaW.PrintLast Go.Proofs.YtmfckkgebdfhjaaW.PrintMore
theorem joined_calls (A0 : Option Addr) (c0 : Nat) (l0 : List Sp) (w : World) (hr0 : Kd.C k24 w A0 l0.length l0) (hlen : l0.length < 8796093022208) (hgood : ∀ s ∈ l0, goodB s = true) :
    Calls Try.prog 33 #[.slice A0 l0.length c0] w fun e w' => ∃ v0_ : Value, e = .returned (v0_) ∧ Kd.R k24 24 w' w.heap.size (fun _ => True) v0_ (joinS l0) ∧ Below w.heap.size w w' :=
  joined_core sort_ok A0 c0 l0 w hr0 hlen hgood
#print axioms joined_calls
end Go.Proofs.Ytmfckkgebdfhjaa.Q
