/- The watch: the estimate of one destination, of all. No condition but sizes. -/
import Derived.Test.YtdinkhhaomblcaaDoorKM
namespace Go.Proofs.YtdinkhhaomblcaaDoor.SL
open Go.RowKit Go.Proofs.YtdinkhhaomblcaaDoorW.PrintWords Go.Proofs.YtdinkhhaomblcaaDoorW.PrintLast Go.Proofs.YtdinkhhaomblcaaDoorW.PrintMore
/-- Every estimate is at least its floor. -/
def FlC (c : Ca) : Prop := ∀ x ∈ c.M, floorA x.1 ≤ x.2.est
theorem valid_fA (d : Int) : validA (fA d) = true := by kernel_rfl
theorem valid_sA (d : Int) : validA (sA d) = true := by kernel_rfl
theorem dst_valid (n : Int) : validA (dstA n) = true := by
  unfold dstA
  split
  · exact valid_fA _
  · exact valid_sA _
theorem floor_le (a : Ad) : 68 ≤ floorA a ∧ floorA a ≤ 1280 := by unfold floorA; split <;> omega
/-- The estimate of destination number n. -/
def estS (M : Mp) (first : Int) (n : Int) : Int := (getS M (dstA n) first).1
theorem get_dst {c : Ca} (hk : OkC c) (hf : FlC c) {first : Int} (h1 : 1280 ≤ first) (h2 : first ≤ 65535) (n : Int) : getS c.M (dstA n) first = (estS c.M first n, 0) ∧ floorA (dstA n) ≤ estS c.M first n ∧ estS c.M first n ≤ first := by
  have hfl := floor_le (dstA n)
  have hg : getS c.M (dstA n) first = match lookM c.M (dstA n) with | some x => (if x.est < first then x.est else first, 0) | none => (first, 0) := if_neg (fun h => h.elim (fun h => by rw [dst_valid] at h; cases h) (fun h => by omega))
  unfold estS
  cases hl : lookM c.M (dstA n) with
  | none =>
    rw [hl] at hg
    rw [hg]
    exact ⟨rfl, by show floorA (dstA n) ≤ first; omega, Int.le_refl _⟩
  | some x =>
    rw [hl] at hg
    have hx := hf _ ((look_mem hk.nd).1 hl)
    replace hx : floorA (dstA n) ≤ x.est := hx
    rw [hg]
    refine ⟨rfl, ?_, ?_⟩
    · show floorA (dstA n) ≤ if x.est < first then x.est else first
      split <;> omega
    · show (if x.est < first then x.est else first) ≤ first
      split <;> omega
theorem c_dst {w0 w : World} {Γ : List Ob} (h : St w0 w Γ) (n : Int) : Calls Tryd.prog 22 #[.int .i64 n] w fun e w' => e = .returned (.agg (aV (dstA n))) ∧ St w0 w' Γ := (dst_calls n w).mono fun _ _ ⟨he, hb⟩ => ⟨he, h.below hb⟩
theorem c_floor {w0 w : World} {Γ : List Ob} (h : St w0 w Γ) (a : Ad) : Calls Tryd.prog 25 #[.agg (aV a)] w fun e w' => e = .returned (.int .i64 (floorA a)) ∧ St w0 w' Γ := (floor2_calls a w).mono fun _ _ ⟨he, hb⟩ => ⟨he, h.below hb⟩
theorem lvPtr (a : Addr) : loadVar 24 a = (do if ← isAgg 24 then pure (.agg (← loadCells a (← sizeOf 24))) else load a) := rfl
/-- What the watch's methods have in their hands. -/
abbrev Wat (wp p b : Nat) (E A first now : Int) (hv : Value) (hd : List Int) (c : Ca) (Δ : List Ob) : List Ob := obWt wp p E A first now hv :: obI hv hd :: obC p b c :: obG :: Δ
theorem St.inW {w0 w : World} {Δ : List Ob} {wp p b : Nat} {E A first now : Int} {hv : Value} {hd : List Int} {c : Ca} {x : Ob} (h : St w0 w (x :: Wat wp p b E A first now hv hd c Δ)) : St w0 w (Wat wp p b E A first now hv hd c (x :: Δ)) :=
  h.perm (((((List.Perm.swap obG x Δ).symm.cons (obC p b c)).trans (List.Perm.swap (obC p b c) x (obG :: Δ)).symm).cons (obI hv hd)).trans (List.Perm.swap (obI hv hd) x (obC p b c :: obG :: Δ)).symm |>.cons (obWt wp p E A first now hv) |>.trans (List.Perm.swap (obWt wp p E A first now hv) x (obI hv hd :: obC p b c :: obG :: Δ)).symm)
theorem St.offW {w0 w : World} {Δ : List Ob} {wp p b : Nat} {E A first now : Int} {hv : Value} {hd : List Int} {c : Ca} {x : Ob} (h : St w0 w (Wat wp p b E A first now hv hd c (x :: Δ))) : St w0 w (Wat wp p b E A first now hv hd c Δ) :=
  h.sub ((((List.sublist_cons_self x Δ).cons_cons obG).cons_cons (obC p b c)).cons_cons (obI hv hd) |>.cons_cons _)
section
variable {P : Program} {ops : Array Oper} {rest : List Oper} {o : Oper} {a : Act} {Q : Exit → Act → World → Prop} {w0 W : World} {Γ : List Ob}
/-- A whole box is loaded. -/
theorem wpList_load_B (h : St w0 W Γ) (i : Nat) {b : Nat} {cs : Array Value} {T : TypeId} (hi : Γ[i]? = some (obB b cs T)) (hgd : o.guard = none) (ty : TypeId) (x : Operand) (ho : o.op = .load ty x)
    (hx : a.eval x = .pointer (some ⟨b, 0, none⟩)) {d : TypeDesc} (hu : P.underlying ty = some d) (hd : d.isRow = true) (hsz : (P.info? ty).map (·.size) = some cs.size)
    (K : wpList P ops Q rest (a.put o.dst (.agg cs)) W) : wpList P ops Q (o :: rest) a W := by
  refine wpList_load_mid hgd ty x ho b 0 hx cs.toList d (fun j u hu => ?_) hu hd (by rw [Array.length_toList]; exact hsz) (by rw [Array.toArray_toList]; exact K)
  rw [Nat.zero_add]
  exact h.cellB i hi j (by rw [Array.getElem?_toList] at hu; exact hu)
end
section
variable {w0 w : World} {Δ : List Ob} {wp p b : Nat} {E A first now : Int} {hv : Value} {hd : List Int} {c : Ca}
attribute [-go_sem] loadVar
attribute [local go_sem] lv3 lvPtr
attribute [local go_sem ↓] Go.wp_at_zero Go.wp_at_succ
set_option maxHeartbeats 4000000 in
set_option maxRecDepth 100000 in
theorem c_wget (h : St w0 w (Wat wp p b E A first now hv hd c Δ)) (hk : OkC c) (hf : FlC c) (h1 : 1280 ≤ first) (h2 : first ≤ 65535) (n : Int) :
    Calls Tryd.prog 23 #[.pointer (some ⟨wp, 0, none⟩), .int .i64 n] w fun e w' => e = .returned (.int .i64 (estS c.M first n)) ∧ St w0 w' (Wat wp p b E A first now hv hd c Δ) := by
  have HS0 := Lib.hid h
  obtain ⟨hg, hl, hu⟩ := get_dst hk hf h1 h2 n
  generalize estS c.M first n = est at hg hl hu ⊢
  have HG := Lib.hid hg
  have d1 : decide (est < floorA (dstA n)) = false := decide_eq_false (by omega)
  have d2 : decide (est > first) = false := decide_eq_false (by omega)
  clear h hg hl hu hk hf h1 h2
  generalize ha : dstA n = a at HG d1
  have HA := Lib.hid ha
  clear ha
  go_enter Tryd.func23, Tryd.ntmps23
  go_wp2_with (first
    | (go_at_call 22; refine (c_dst HS0.out n).mono ?_; rw [HA.out]; rintro e w1 ⟨rfl, hs⟩; have HS1 := Lib.hid hs; clear hs HS0)
    | (refine gate_ (.alloc 32) rfl ?_; go_must (refine wpList_alloc_B rfl 32 rfl _ zeroA _ rfl HS1.out ?_; intro w2 hz hs; clear hz; have HS2 := Lib.hid (St.inW hs.front1); clear hs HS1))
    | (refine gate_ (.store 32 (.tmp 5) (.tmp 9)) rfl ?_; go_must (refine wpList_store_B HS2.out 4 rfl rfl rfl 32 (.tmp 5) (.tmp 9) rfl (aV a) rfl rfl (by rw [aV_size]; exact sizA) (by rw [aV_size]; exact aV_size _) (aV_one _) ?_; intro w3 hs; have HS3 : Hid (St w0 w3 (Wat wp p b E A first now hv hd c (obB w1.heap.size (aV a) 32 :: Δ))) := Lib.hid hs; clear hs HS2)))
  have HSd := Lib.hid HS3.out.drew
  have hLD : ∀ W : World, W.rangeAt w1.heap.size 0 (aL a) → (loadVar 32 ⟨w1.heap.size, 0, none⟩).run Tryd.prog W = .ok (.agg (aV a)) W := fun W h => lvA h
  go_region_held3 (fun W => W.rangeAt w1.heap.size 0 (aL a) ∧ W.cell? ⟨wp, 0, none⟩ = some (.pointer (some ⟨p, 0, none⟩)) ∧ W.cell? ⟨wp, 3, none⟩ = some (.int .i64 first))
    (first | exact ⟨range_A (HS3.out.get 4 rfl), HS3.out.cellB 0 rfl 0 rfl, HS3.out.cellB 0 rfl 3 rfl⟩ | exact ⟨range_A (HSd.out.get 4 rfl), HSd.out.cellB 0 rfl 0 rfl, HSd.out.cellB 0 rfl 3 rfl⟩ | exact ⟨range_A (HS4.out.get 4 rfl), HS4.out.cellB 0 rfl 0 rfl, HS4.out.cellB 0 rfl 3 rfl⟩)
    (first | (go_at_call 26; refine (c_getK HSd.out 2 rfl a first HG.out).mono ?_; rintro e w4 ⟨rfl, hs⟩; have HS4 := Lib.hid hs; clear hs))
  all_goals
    have q3 : w4.cell? ⟨wp, 3, none⟩ = some (.int .i64 first) := HS4.out.cellB 0 rfl 3 rfl
    go_wp2_with (first
      | (refine gate_ (.load 32 (.tmp 5)) rfl ?_; refine wpList_guarded (by rfl) ?_; refine ld_A (.tmp 5) rfl rfl (range_A (HS4.out.get 4 rfl)) rfl ?_)
      | (go_at_call 25; refine (c_floor HS4.out a).mono ?_; rintro e w5 ⟨rfl, hs⟩; have HS5 := Lib.hid hs; have q3 : w5.cell? ⟨wp, 3, none⟩ = some (.int .i64 first) := HS5.out.cellB 0 rfl 3 rfl; clear hs))
    go_ret
    exact ⟨rfl, HS5.out.offW⟩
end
end Go.Proofs.YtdinkhhaomblcaaDoor.SL
