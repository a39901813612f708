/- The watch: all estimates. No condition but sizes. -/
import Derived.Test.YtdinkhhaomblcaaDoorKC
namespace Go.Proofs.YtdinkhhaomblcaaDoor.SL
open Go.RowKit Go.Proofs.YtdinkhhaomblcaaDoorW.PrintWords Go.Proofs.YtdinkhhaomblcaaDoorW.PrintLast Go.Proofs.YtdinkhhaomblcaaDoorW.PrintMore
/-- The estimates of the destinations ahead of number k; noughts behind. -/
def estP (M : Mp) (first : Int) (k : Nat) : Array Value := ((List.range 12).map fun j => if j < k then Value.int .i64 (estS M first (j : Int)) else .int .i64 0).toArray
theorem estP_size (M : Mp) (first : Int) (k : Nat) : (estP M first k).size = 12 := by simp [estP]
theorem estP_get (M : Mp) (first : Int) (k j : Nat) (hj : j < 12) : (estP M first k)[j]? = some (if j < k then Value.int .i64 (estS M first (j : Int)) else .int .i64 0) := by
  unfold estP
  rw [List.getElem?_toArray, List.getElem?_map, List.getElem?_range hj]
  rfl
theorem estP_step (M : Mp) (first : Int) (k : Nat) (hk : k < 12) : (estP M first k).setIfInBounds k (.int .i64 (estS M first (k : Int))) = estP M first (k + 1) := by
  apply Array.ext_getElem?
  intro j
  rw [Array.getElem?_setIfInBounds]
  by_cases hj : j < 12
  · rw [estP_get _ _ _ _ hj, estP_get _ _ _ _ hj, estP_size]
    by_cases e : k = j
    · subst e
      simp [hk]
    · rw [if_neg e]
      by_cases hlt : j < k
      · rw [if_pos hlt, if_pos (by omega)]
      · rw [if_neg hlt, if_neg (by omega)]
  · rw [Array.getElem?_eq_none (by rw [estP_size]; omega), Array.getElem?_eq_none (by rw [estP_size]; omega), estP_size]
    split
    · omega
    · rfl
theorem estP_zero (M : Mp) (first : Int) : estP M first 0 = #[.int .i64 0, .int .i64 0, .int .i64 0, .int .i64 0, .int .i64 0, .int .i64 0, .int .i64 0, .int .i64 0, .int .i64 0, .int .i64 0, .int .i64 0, .int .i64 0] := rfl
theorem zero12 (w : World) : (zeroValue 49).run Tryd.prog w = .ok (.agg #[.int .i64 0, .int .i64 0, .int .i64 0, .int .i64 0, .int .i64 0, .int .i64 0, .int .i64 0, .int .i64 0, .int .i64 0, .int .i64 0, .int .i64 0, .int .i64 0]) w := by kernel_rfl
theorem siz12 : (Tryd.prog.info? 49).map (·.size) = some 12 := by kernel_rfl
theorem estP_one (M : Mp) (first : Int) (k : Nat) : (estP M first k).all (·.oneCell') = true := by
  refine Array.all_eq_true_iff_forall_mem.2 fun u hu => ?_
  simp only [estP, List.mem_toArray, List.mem_map] at hu
  obtain ⟨j, _, rfl⟩ := hu
  split <;> rfl
section
variable {w0 w : World} {Δ : List Ob} {wp p b : Nat} {E A first now : Int} {hv : Value} {hd : List Int} {c : Ca}
set_option maxHeartbeats 4000000 in
set_option maxRecDepth 100000 in
theorem c_wall (h : St w0 w (Wat wp p b E A first now hv hd c Δ)) (hk : OkC c) (hf : FlC c) (h1 : 1280 ≤ first) (h2 : first ≤ 65535) :
    Calls Tryd.prog 17 #[.pointer (some ⟨wp, 0, none⟩)] w fun e w' => e = .returned (.agg (estP c.M first 12)) ∧ St w0 w' (Wat wp p b E A first now hv hd c Δ) := by
  have HS0 := Lib.hid h
  have HK := Lib.hid (And.intro hk (And.intro hf (And.intro h1 h2)))
  clear h hk hf h1 h2
  go_enter Tryd.func17, Tryd.ntmps17
  go_wp2_with (refine gate_ (.alloc 49) rfl ?_; first
    | (refine wpList_alloc_B rfl 49 rfl _ zero12 _ rfl HS1.out ?_; intro w2 hz hs; clear hz; have HS2 := Lib.hid (St.inW hs.front1); clear hs HS1)
    | (refine wpList_alloc_B rfl 49 rfl _ zero12 _ rfl HS0.out ?_; intro w1 hz hs; clear hz; have HS1 := Lib.hid (St.inW hs.front1); clear hs HS0))
  have HS : Hid (St w0 w2 (Wat wp p b E A first now hv hd c (obB w1.heap.size (estP c.M first 0) 49 :: obB w.heap.size (estP c.M first 0) 49 :: Δ))) := HS2
  clear HS2
  go_loopw [4] (fun i wr => ∃ k : Nat, k ≤ 12 ∧ i = .int .i64 k ∧ Hid (St w0 wr (Wat wp p b E A first now hv hd c (obB w1.heap.size (estP c.M first k) 49 :: obB w.heap.size (estP c.M first 0) 49 :: Δ)))) (fun i _ => 12 - (intOf i).toNat)
  case atStart => exact ⟨0, by decide, rfl, HS⟩
  case round =>
    obtain ⟨k, hk, rfl, HSa⟩ := hrel
    clear HS
    by_cases hlt : k < 12
    · have hltz : (k : Int) < 12 := by omega
      have hk0 : (0 : Int) ≤ (k : Int) := by omega
      go_wp2_with (go_at_call 23; refine (c_wget HSa.out HK.out.1 HK.out.2.1 HK.out.2.2.1 HK.out.2.2.2 (k : Int)).mono ?_; rintro e w3 ⟨rfl, hs⟩; have HSb := Lib.hid hs; have qk : w3.cell? ⟨w1.heap.size, k, none⟩ = some (.int .i64 0) := hs.cellB 4 rfl k (by rw [estP_get _ _ _ _ hlt, if_neg (Nat.lt_irrefl _)]); have fk := hs.freeB 4 rfl k; clear hs)
      have HSc : Hid (St w0 (w3.setCell ⟨w1.heap.size, k, none⟩ (.int .i64 (estS c.M first (k : Int)))) (Wat wp p b E A first now hv hd c (obB w1.heap.size (estP c.M first (k + 1)) 49 :: obB w.heap.size (estP c.M first 0) 49 :: Δ))) := Lib.hid (by rw [← estP_step _ _ _ hlt]; exact HSb.out.setB 4 rfl k _)
      go_roundw
      case rel => exact ⟨k + 1, by omega, by go_num, HSc⟩
      case measure => simp [intOf]; omega
    · have hltz : ¬ (k : Int) < 12 := by omega
      obtain rfl : k = 12 := by omega
      clear hlt hk
      go_wp2_with (first
        | (refine gate_ (.load 49 (.tmp 3)) rfl ?_; go_must (refine wpList_load_B HSa.out 4 rfl rfl 49 (.tmp 3) rfl rfl Tryd.underlying49 rfl (by rw [estP_size]; exact siz12) ?_))
        | (refine gate_ (.store 49 (.tmp 2) (.tmp 14)) rfl ?_; go_must (refine wpList_store_B HSa.out 5 rfl rfl rfl 49 (.tmp 2) (.tmp 14) rfl (estP c.M first 12) rfl rfl (by rw [estP_size]; exact siz12) (by rw [estP_size, estP_size]) (estP_one _ _ _) ?_; intro w5 hs; have HSd := Lib.hid hs; clear hs)))
      refine bodyPost_ret (results_cell_row rfl _ _ w.heap.size _ (estP c.M first 12) _ _ rfl (HSd.out.get 5 rfl) Tryd.underlying49 rfl (by rw [estP_size]; exact siz12)) rfl ?_
      exact ⟨rfl, HSd.out.sub (((((List.sublist_cons_self _ Δ).cons _).cons_cons obG).cons_cons (obC p b c)).cons_cons (obI hv hd) |>.cons_cons _)⟩
end
end Go.Proofs.YtdinkhhaomblcaaDoor.SL
