/- The walks of the document's New, All, Close; the calls as objects' calls. No condition but sizes. -/
import Derived.Test.YtgcafklieblldaaP5
namespace Go.Proofs.Ytgcafklieblldaa.SL
open Go.RowKit Go.Proofs.YtgcafklieblldaaW.PrintWords Go.Proofs.YtgcafklieblldaaW.PrintLast Go.Proofs.YtgcafklieblldaaW.PrintMore
theorem newR_no (n : Int) (w : World) (h : n < 1 ∨ 32 < n) :
    Calls Try.prog 14 #[.int .i64 n] w fun e w' => e = .returned (.tuple #[.pointer none, .int .i64 1]) ∧ w' = w := by
  by_cases h1 : n < 1
  · go_enter Try.func14, Try.ntmps14
    go_wp2
    go_ret2
    exact ⟨by simp, rfl⟩
  · have h2 : n > 32 := by omega
    go_enter Try.func14, Try.ntmps14
    go_wp2
    go_ret2
    exact ⟨by simp, rfl⟩
theorem built_newR (n : Int) : Try.prog.built 71 [(0, .int .i64 n)] = some #[.int .i64 n, .int .i64 0, .slice none 0 0] := by kernel_rfl
theorem newR_yes (n : Int) (w : World) (h1 : 1 ≤ n) (h2 : n ≤ 32) :
    Calls Try.prog 14 #[.int .i64 n] w fun e w' => e = .returned (.tuple #[.pointer (some ⟨w.heap.size, 0, none⟩), .int .i64 0]) ∧ w' = w.alloc (.cells #[.int .i64 n, .int .i64 0, .slice none 0 0] 71) := by
  go_enter Try.func14, Try.ntmps14
  go_wp2
  go_ret2
  exact ⟨by simp, rfl⟩
set_option maxHeartbeats 2000000 in
theorem allR_calls (p : Nat) (v : Value) (most g : Int) (l : List Bd) (w : World) (h : UAt w p v most g l) (hl : (l.length : Int) ≤ 1000) :
    Calls Try.prog 29 #[.pointer (some ⟨p, 0, none⟩)] w fun e w' => ∃ u, e = .returned u ∧ (∃ A c, u = .slice A l.length c) ∧ St w w' [obI u (nums l)] := by
  obtain ⟨A, c, rfl, hlc⟩ := RS_len h.row
  have HT := Lib.hid h
  clear h hlc
  have HS0 : Hid (St w w [obI (.slice none 0 0) []]) := Lib.hid ((St.nil w).newW flI)
  go_enter Try.func29, Try.ntmps29
  go_wp2_with fail
  go_loopw [3, 4] (fun u i wr => ∃ k : Nat, k ≤ l.length ∧ i = .int .i64 k ∧ Hid (∃ B d, u = .slice B k d) ∧ Hid (St w wr [obI u (nums (l.take k))])) (fun _ i _ => l.length - (intOf i).toNat)
  case atStart => exact ⟨0, Nat.zero_le _, rfl, Lib.hid ⟨_, _, rfl⟩, HS0⟩
  case round =>
    obtain ⟨k, hk, rfl, HU, HS⟩ := hrel
    clear HS0
    have hT := HT.out.below HS.out.bl
    have g0 := cell_of_row _ _ 2 _ _ _ hT.st
    replace g0 : wr.cell? ⟨p, 2, none⟩ = some (.slice A l.length c) := g0
    by_cases hlt : k < l.length
    · have hltz : (k : Int) < (l.length : Int) := by omega
      obtain ⟨gr, c', hv, hra, hgs⟩ := RS_at hT.row k l[k] (List.getElem?_eq_getElem hlt)
      injection hv with hA h2 h3
      subst hA h3
      clear h2 hgs hT
      generalize hy : l[k] = y at hra
      have HY := Lib.hid hy
      clear hy
      have hn0 : wr.cell? ⟨gr, k * 19, none⟩ = some (.int .i64 y.n) := hra 0 _ rfl
      clear hra
      have hll : (nums (l.take k)).length = k := by simp [nums]; omega
      have HLL := Lib.hid hll
      clear hll
      go_wp2_with (at_builtin; go_must (refine wpList_append_St kI HS.out 0 rfl rfl (.tmp 14) (.tmp 23) 37 (.int .i64 0) 8 rfl Try.underlying37 infoI rfl (by decide) (by decide) y.n [.int .i64 y.n] rfl (by rfl) rfl (by rw [HLL.out]; omega) ?_))
      intro v1 w9 HG HS9
      have HU2 : Hid (∃ B d, v1 = .slice B (k + 1) d) := Lib.hid (by
        obtain ⟨A1, c1, hv1⟩ := HG.out.slice
        exact ⟨A1, c1, by rw [hv1, HLL.out]⟩)
      have HS10 : Hid (St w w9 [obI v1 (nums (l.take (k + 1)))]) := Lib.hid (by
        have e : nums (l.take (k + 1)) = nums (l.take k) ++ [y.n] := by
          unfold nums
          rw [List.take_succ_eq_append_getElem hlt, HY.out, List.map_append]
          rfl
        rw [e]
        exact HS9.out)
      clear HS HG HS9
      go_wp2
      go_roundw
      case rel => exact ⟨k + 1, by omega, by go_num, HU2, HS10⟩
      case measure => simp [intOf]; omega
    · have hltz : ¬ (k : Int) < (l.length : Int) := by omega
      have hkx : k = l.length := by omega
      subst hkx
      clear hT
      go_wp2_with fail
      go_ret
      refine ⟨_, rfl, HU.out, ?_⟩
      have := HS.out
      rw [List.take_length] at this
      exact this
theorem closeR_no (p : Nat) (v : Value) (most g : Int) (l : List Bd) (n : Int) (w : World) (h : UAt w p v most g l) (hl : (l.length : Int) ≤ 1000) (hi : idxB l n < 0) :
    Calls Try.prog 28 #[.pointer (some ⟨p, 0, none⟩), .int .i64 n] w fun e w' => e = .returned (.int .i64 1) ∧ Below w.heap.size w w' := by
  have HC := Lib.hid (place_calls p v most g l n w h hl)
  have hd : decide (idxB l n < 0) = true := decide_eq_true hi
  generalize idxB l n = f at HC hd
  clear hi h
  go_enter Try.func28, Try.ntmps28
  go_wp2_with (go_at_call 35; refine HC.out.mono ?_; rintro e w' ⟨rfl, hb'⟩)
  go_ret
  exact ⟨rfl, hb'⟩
theorem infoS : (Try.prog.info? 80).map (fun i => (i.zero, i.size, i.bytes)) = some (some (.agg (bV zB)), kB.sz, 40) := by kernel_rfl
theorem infS : ∃ i, Try.prog.info? 80 = some i ∧ i.size = kB.sz := by
  obtain ⟨i, h1, h2⟩ := Option.map_eq_some_iff.1 infoS
  exact ⟨i, h1, by injection h2 with _ h3; injection h3⟩
abbrev obSk (v : Value) (l : List Bd) : Ob := obW kB 80 flB v l
set_option maxHeartbeats 4000000 in
theorem closeR_yes (p : Nat) (v : Value) (most g : Int) (l : List Bd) (n : Int) (k : Nat) (w : World) (h : UAt w p v most g l) (hl : (l.length : Int) ≤ 1000) (hi : idxB l n = (k : Int)) :
    Calls Try.prog 28 #[.pointer (some ⟨p, 0, none⟩), .int .i64 n] w fun e w' => ∃ v', e = .returned (.int .i64 0) ∧ UAt w' p v' most g (l.eraseIdx k) ∧ Touch [p] w w' ∧ ∀ b, v'.ownBlock = some b → w.heap.size ≤ b := by
  obtain ⟨x, hx, _⟩ := idxI_some hi
  have hkl := (List.getElem?_eq_some_iff.1 hx).1
  obtain ⟨gr, c, rfl, _⟩ := RS_at h.row k x hx
  have hC := (Kd.R_reads' h.row).2.2
  have hcl : l.length ≤ c := (Kd.R_reads' h.row).2.1
  obtain ⟨i0, hi0, hs0⟩ := infS
  have hs1 := cut_to (P := Try.prog) 69 80 .i64 Try.underlying69 hi0 (some ⟨gr, 0, none⟩) l.length c (k : Int) (by omega) (by omega) hcl
  have hs2 := cut_from (P := Try.prog) 69 80 .i64 Try.underlying69 hi0 kB.sz hs0 (some ⟨gr, 0, none⟩) l.length c ((k : Int) + 1) (by omega) (by omega)
  have hCt := Kd.C_take hC (Nat.le_of_lt hkl)
  have hCd := Kd.C_drop hC (show k + 1 ≤ l.length from hkl) hcl
  have htl : (l.take k).length = k := by rw [List.length_take]; omega
  have hdl : (l.drop (k + 1)).length = l.length - (k + 1) := List.length_drop
  have hri : ((k : Int) + 1).toNat = k + 1 := by omega
  rw [htl] at hCt
  rw [hri] at hs2
  obtain ⟨AD, hAD⟩ : ∃ AD, (if c = k + 1 then some (⟨gr, 0, none⟩ : Addr) else (some (⟨gr, 0, none⟩ : Addr)).map (·.add ((k + 1) * kB.sz))) = AD := ⟨_, rfl⟩
  rw [hdl, hAD] at hCd
  rw [hAD] at hs2
  rw [Int.toNat_natCast] at hs1
  have hCx : Hid (∀ w' : World, UAt w' p (.slice (some ⟨gr, 0, none⟩) l.length c) most g l → w'.cell? ⟨p, 2, none⟩ = some (.slice (some ⟨gr, 0, none⟩) l.length c)) := Lib.hid fun w' h' => cell_of_row _ _ 2 _ _ _ h'.st
  have HC : Hid (Calls Try.prog 35 #[.pointer (some ⟨p, 0, none⟩), .int .i64 n] w fun e w' => e = .returned (.int .i64 (k : Int)) ∧ w'.cell? ⟨p, 2, none⟩ = some (.slice (some ⟨gr, 0, none⟩) l.length c) ∧ Hid (St w w' [])) :=
    Lib.hid ((place_calls p _ most g l n w h hl).mono fun e w' hh => by
      obtain ⟨h1, h2⟩ := hh
      rw [hi] at h1
      exact ⟨h1, cell_of_row _ _ 2 _ _ _ (h.below h2).st, Lib.hid ((St.nil w).below h2)⟩)
  have hd : decide ((k : Int) < 0) = false := decide_eq_false (by omega)
  have HH := Lib.hid h
  have HL := Lib.hid hl
  have hwr : IntKind.i64.wrap ((k : Int) + 1) = (k : Int) + 1 := by go_unwrap
  have hkz : (k : Int) ≤ (l.length : Int) := by omega
  have HCT := Lib.hid hCt
  have HCD := Lib.hid hCd
  have HKL := Lib.hid hkl
  clear hi h hx hC hcl hi0 hs0 hCt hCd htl hdl hri hAD hkl
  go_enter Try.func28, Try.ntmps28
  go_wp2_with (first | (go_at_call 35; refine HC.out.mono ?_; rintro e w1 ⟨rfl, c2, HS⟩) | (at_builtin; go_must (refine wpList_append_new_St kB flB HS.out rfl (.tmp 12) (.tmp 18) 69 (.agg (bV zB)) 40 rfl Try.underlying69 infoS (bV_size zB) szB (by decide) (l.take k) (some ⟨gr, 0, none⟩) k c rfl rfl (Kd.C_below HCT.out HS.out.bl) (by have := HL.out; omega) ?_)))
  intro v1 w2 hv HS2
  obtain ⟨B, d, rfl⟩ := hv.out
  have c3 := hCx.out w2 (HH.out.below HS2.out.bl)
  clear hv c2 HS
  go_wp2_with (at_builtin; go_must (refine wpList_append_rows_St kB HS2.out 0 rfl rfl (.tmp 21) (.tmp 28) 69 (.agg (bV zB)) 40 rfl Try.underlying69 infoS (bV_size zB) szB (by decide) (l.drop (k + 1)) AD (l.length - (k + 1)) (c - (k + 1)) rfl rfl (Kd.C_below HCD.out HS2.out.bl) (by have := HL.out; have := HKL.out; rw [List.length_take]; omega) ?_))
  intro v2 w3 hv HS3
  obtain ⟨B2, d2, rfl⟩ := hv.out
  generalize hN : min k l.length + (l.length - (k + 1)) = N at HS3 ⊢
  clear hN
  have h3 := HH.out.below HS3.out.bl
  have c4 := hCx.out w3 h3
  have f4 : w3.frozen? ⟨p, 2, none⟩ = false := blk_frozen h3.st 2
  have H3 := Lib.hid h3
  clear hv c3 h3
  go_wp2_with fail
  go_ret
  have hst := blk_set H3.out.st 2 (.slice B2 N d2)
  have hne : ∀ b, (Value.slice B2 N d2).ownBlock = some b → w.heap.size ≤ b := fun b hb => HS3.out.base 0 _ rfl b (by show b ∈ (Value.slice B2 N d2).ownBlock.toList; rw [hb]; simp)
  have hpw : p < w.heap.size := lt_of_block HH.out.st
  have hl2 : l.take k ++ l.drop (k + 1) = l.eraseIdx k := (List.eraseIdx_eq_take_drop_succ l k).symm
  have hR : RS w3 0 (.slice B2 N d2) (l.take k ++ l.drop (k + 1)) := HS3.out.get 0 rfl
  rw [hl2] at hR
  exact ⟨.slice B2 N d2, rfl, ⟨hst, RS_same hR fun b hb => Below.heap_setCell _ _ _ _ (fun e => by have := hne b hb; have e' : b = p := e; omega), fun e => by have := hne p e; omega⟩, (Touch.of_below HS3.out.bl).setCell (p := ⟨p, 2, none⟩) (.inl List.mem_cons_self) _, hne⟩
/-- Behind a call, another table at the same place. -/
theorem St.putU {w0 w : World} {Γ : List Ob} {p : Nat} {v : Value} {most g : Int} {l : List Bd} (h : St w0 w Γ) (i : Nat) (hi : Γ[i]? = some (obU p v most g l)) {w' : World} {v' : Value} {most' g' : Int} {l' : List Bd} (hT : UAt w' p v' most' g' l') (ht : Touch (p :: v.ownBlock.toList) w w')
    (hv : ∀ b, v'.ownBlock = some b → v.ownBlock = some b ∨ w.heap.size ≤ b) : St w0 w' (Γ.set i (obU p v' most' g' l')) := by
  have key : ∀ o ∈ [obU p v' most' g' l'], ∀ b ∈ o.all, b ∈ p :: v.ownBlock.toList ∨ w.heap.size ≤ b := fun o ho b hb => by
    obtain rfl := List.mem_singleton.1 ho
    rcases List.mem_cons.1 hb with rfl | hb
    · exact .inl List.mem_cons_self
    · rcases hv b (by simpa using hb) with h1 | h1
      · exact .inl (List.mem_cons_of_mem _ (by rw [h1]; simp))
      · exact .inr h1
  have := h.upd i hi ht (obU p v' most' g' l') [] (fun o ho => by obtain rfl := List.mem_singleton.1 ho; exact hT) (fun o ho b hb => key o ho b (o.sub b hb)) key (List.pairwise_singleton _ _)
  rwa [List.append_nil] at this
section
variable {w0 w : World} {Γ : List Ob} {p : Nat} {v : Value} {most g : Int} {l : List Bd}
theorem St.set_same (h : St w0 w Γ) (i : Nat) {o : Ob} (hi : Γ[i]? = some o) : Γ.set i o = Γ := by
  obtain ⟨h1, h2⟩ := List.getElem?_eq_some_iff.1 hi
  rw [← h2, List.set_getElem_self]
theorem d_close (h : St w0 w Γ) (i : Nat) (hi : Γ[i]? = some (obU p v most g l)) (hl : (l.length : Int) ≤ 1000) (n : Int) :
    Calls Try.prog 28 #[.pointer (some ⟨p, 0, none⟩), .int .i64 n] w fun e w' => ∃ v', e = .returned (.int .i64 (closeE l n)) ∧ St w0 w' (Γ.set i (obU p v' most g (closeL l n))) := by
  by_cases hq : idxB l n < 0
  · refine (closeR_no p v most g l n w (h.get i hi) hl hq).mono ?_
    rintro e w' ⟨rfl, hb⟩
    refine ⟨v, by rw [closeE, if_pos hq], ?_⟩
    rw [closeL_no hq, h.set_same i hi]
    exact h.below hb
  · obtain ⟨k, hk⟩ : ∃ k : Nat, idxB l n = k := ⟨(idxB l n).toNat, by omega⟩
    refine (closeR_yes p v most g l n k w (h.get i hi) hl hk).mono ?_
    rintro e w' ⟨v', rfl, hT, ht, hv⟩
    refine ⟨v', by rw [closeE, if_neg hq], ?_⟩
    rw [closeL_yes hk]
    exact h.putU i hi hT (ht.mono (fun b hb => by obtain rfl := List.mem_singleton.1 hb; simp)) (fun b hb => .inr (hv b hb))
theorem d_at (h : St w0 w Γ) (i : Nat) (hi : Γ[i]? = some (obU p v most g l)) (hl : (l.length : Int) ≤ 1000) (n : Int) :
    Calls Try.prog 27 #[.pointer (some ⟨p, 0, none⟩), .int .i64 n] w fun e w' => e = .returned (.tuple #[.agg (aV (atB l n).1), .int .i64 (atB l n).2.1, .int .i64 (atB l n).2.2]) ∧ St w0 w' Γ :=
  (atR_calls p v most g l n w (h.get i hi) hl).mono fun _ _ ⟨he, hb⟩ => ⟨he, h.below hb⟩
theorem d_find (h : St w0 w Γ) (i : Nat) (hi : Γ[i]? = some (obU p v most g l)) (hl : (l.length : Int) ≤ 1000) (hwf : WF l g) (a : Ad) (port : Int) :
    Calls Try.prog 26 #[.pointer (some ⟨p, 0, none⟩), .agg (aV a), .int .i64 port] w fun e w' => e = .returned (.int .i64 (findP l a port)) ∧ St w0 w' Γ :=
  (findR_calls p v most g l a port w (h.get i hi) hl hwf).mono fun _ _ ⟨he, hb⟩ => ⟨he, h.below hb⟩
theorem d_all (h : St w0 w Γ) (i : Nat) (hi : Γ[i]? = some (obU p v most g l)) (hl : (l.length : Int) ≤ 1000) :
    Calls Try.prog 29 #[.pointer (some ⟨p, 0, none⟩)] w fun e w' => ∃ A c, e = .returned (.slice A l.length c) ∧ St w0 w' (Γ ++ [obI (.slice A l.length c) (nums l)]) := by
  refine (allR_calls p v most g l w (h.get i hi) hl).mono ?_
  rintro e w' ⟨u, rfl, ⟨A, c, rfl⟩, hs⟩
  exact ⟨A, c, rfl, h.add hs.bl [obI (.slice A l.length c) (nums l)] (fun o ho => by obtain rfl := List.mem_singleton.1 ho; exact hs.get 0 rfl) (fun o ho b hb => by obtain rfl := List.mem_singleton.1 ho; exact hs.base 0 _ rfl b hb) (List.pairwise_singleton _ _)⟩
theorem d_new (h : St w0 w Γ) (n : Int) (h1 : 1 ≤ n) (h2 : n ≤ 32) :
    Calls Try.prog 14 #[.int .i64 n] w fun e w' => ∃ p, e = .returned (.tuple #[.pointer (some ⟨p, 0, none⟩), .int .i64 0]) ∧ St w0 w' (Γ ++ [obU p (.slice none 0 0) n 0 []]) := by
  refine (newR_yes n w h1 h2).mono ?_
  rintro e w' ⟨rfl, rfl⟩
  refine ⟨_, rfl, h.add ((Touch.refl [] w).alloc _).below [obU w.heap.size (.slice none 0 0) n 0 []] (fun o ho => ?_) (fun o ho b hb => ?_) (List.pairwise_singleton _ _)⟩
  · obtain rfl := List.mem_singleton.1 ho
    exact ⟨heap_alloc_new w _, Kd.R_nil _ _ _ _ _, by simp [Value.ownBlock]⟩
  · obtain rfl := List.mem_singleton.1 ho
    have hb' : b ∈ [w.heap.size] := hb
    obtain rfl := List.mem_singleton.1 hb'
    exact Nat.le_refl _
end
end Go.Proofs.Ytgcafklieblldaa.SL
