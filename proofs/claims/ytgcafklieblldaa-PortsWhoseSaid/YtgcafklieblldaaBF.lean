/- The walk of the statement's view of a table. No condition but sizes. -/
import Derived.Test.YtgcafklieblldaaBE
namespace Go.Proofs.Ytgcafklieblldaa.SL
open Go.RowKit Go.Proofs.YtgcafklieblldaaW.PrintWords Go.Proofs.YtgcafklieblldaaW.PrintLast Go.Proofs.YtgcafklieblldaaW.PrintMore
def five (r : Ad × Int × Int) : List Int := [r.2.1, r.1.v, wrap64 (r.1.b.getD 0 0), wrap64 (r.1.b.getD 3 0), wrap64 (r.1.b.getD 15 0)]
def viewA (l : List Bd) : List Int := l.flatMap fun b => five (atB l b.n)
def viewL (l : List Bd) (s : List OpT) : List Int := nums l ++ viewA l ++ s.map fun o => findP l o.a o.n
def OpsAt (w : World) (A : Option Addr) (s : List OpT) : Prop := ∀ k, k < s.length → ∃ ad, A = some ad ∧ OpAt w ad k (s.getD k zO)
theorem OpsAt.below {w w' : World} {A : Option Addr} {s : List OpT} (h : OpsAt w A s) (hb : Below w.heap.size w w') : OpsAt w' A s := fun k hk => by
  obtain ⟨ad, h1, h2⟩ := h k hk
  exact ⟨ad, h1, h2.below hb⟩
theorem take_getD {α : Type} (l : List α) (k : Nat) (z : α) (hk : k < l.length) : l.take (k + 1) = l.take k ++ [l.getD k z] := by
  rw [List.take_succ_eq_append_getElem hk, List.getD_eq_getElem?_getD, List.getElem?_eq_getElem hk]; rfl
theorem flat_le {l m : List Bd} : (m.flatMap fun b => five (atB l b.n)).length = 5 * m.length := by
  induction m with
  | nil => rfl
  | cons x m ih => rw [List.flatMap_cons, List.length_append, ih]; simp only [five, List.length_cons, List.length_nil]; omega
theorem lit5 (W : World) (a b c d e : Int) : kI.C (W.alloc (.cells #[.int .i64 a, .int .i64 b, .int .i64 c, .int .i64 d, .int .i64 e] 3)) (some ⟨W.heap.size, 0, none⟩) 5 [a, b, c, d, e] :=
  (Kd.R_reads' (Kd.R_of_own (own_lit W 0 3 .i64 [a, b, c, d, e] (Nat.zero_le _) (by show 5 ≤ _; decide)) (fun _ _ => trivial))).2.2
theorem lv5 (a : Addr) : loadVar 5 a = (do if ← isAgg 5 then pure (.agg (← loadCells a (← sizeOf 5))) else load a) := rfl
attribute [-go_sem] loadVar
attribute [local go_sem] lv3 lv59 lv5
set_option maxHeartbeats 4000000 in
set_option maxRecDepth 100000 in
theorem view_calls (p : Nat) (v : Value) (most g : Int) (l : List Bd) (A : Option Addr) (c : Nat) (s : List OpT) (w : World) (h : TAt w p v most g l) (h0 : OpsAt w A s) (hl : l.length ≤ 32) (hsz : s.length ≤ 3000000000000) :
    Calls Try.prog 20 #[.pointer (some ⟨p, 0, none⟩), .slice A s.length c] w fun e w' => ∃ B d, e = .returned (.slice B (viewL l s).length d) ∧ St w w' [obI (.slice B (viewL l s).length d) (viewL l s)] := by
  have HT := Lib.hid h
  have HA := Lib.hid h0
  have HL := Lib.hid hl
  have hbig : s.length ≤ 9223372036854775807 := by omega
  have HZ := Lib.hid hsz
  have hl32 : (l.length : Int) ≤ 32 := by omega
  clear h h0 hl hsz
  have HAll : Hid (Calls Try.prog 12 #[.pointer (some ⟨p, 0, none⟩)] w fun e w' => ∃ B d, e = .returned (.slice B l.length d) ∧ St w w' [obI (.slice B l.length d) (nums l)]) := Lib.hid ((all_calls p v most g l w HT.out (Nat.le_trans HL.out (by decide))).mono fun e w' hh => by
    obtain ⟨u, rfl, ⟨B, d, rfl⟩, hs⟩ := hh
    exact ⟨B, d, rfl, hs⟩)
  go_enter Try.func20, Try.ntmps20
  go_wp2_with (go_at_call 12; refine HAll.out.mono ?_; rintro e w1 ⟨B, d, rfl, hs⟩; have HS := Lib.hid hs; clear hs)
  go_loopw [5, 7, 8, 9, 10] (fun u i _ _ _ wr => ∃ (k : Nat) (B : Option Addr) (d : Nat) (Y : List Int), k ≤ l.length ∧ i = .int .i64 k ∧ u = .slice B Y.length d ∧ Hid (Y = nums l ++ (l.take k).flatMap fun b => five (atB l b.n)) ∧ Hid (St w wr [obI (.slice B Y.length d) Y])) (fun _ i _ _ _ _ => l.length - (intOf i).toNat)
  case atStart => exact ⟨0, B, d, nums l, Nat.zero_le _, rfl, by simp [nums], Lib.hid (by rw [List.take_zero, List.flatMap_nil, List.append_nil]), Lib.hid (by rw [show (nums l).length = l.length by simp [nums]]; exact HS.out)⟩
  case round =>
    obtain ⟨k, B2, d2, Y, hk, rfl, rfl, HY, HS2⟩ := hrel
    clear HS
    by_cases hlt : k < l.length
    · have hltz : (k : Int) < (l.length : Int) := by omega
      have hlen : Y.length = l.length + 5 * k := by
        rw [HY.out, List.length_append, flat_le, List.length_take, nums, List.length_map, Nat.min_eq_left (by omega)]
      have hkb : (k : Int) < (Y.length : Int) := by omega
      obtain ⟨ad, rfl, g1⟩ := cellsI HS2.out 0 rfl k (by rw [hlen]; omega)
      have hg : Y.getD k 0 = l[k].n := by
        rw [HY.out, List.getD_eq_getElem?_getD, List.getElem?_append_left (by simpa [nums] using hlt)]
        simp [nums, hlt]
      rw [hg] at g1
      have htk := take_getD l k zB hlt
      have hxd : l.getD k zB = l[k] := by rw [List.getD_eq_getElem?_getD, List.getElem?_eq_getElem hlt]; rfl
      rw [hxd] at htk
      generalize l[k] = x at g1 htk
      have HTK := Lib.hid (And.intro htk hlen)
      have hT2 := HT.out.below HS2.out.bl
      obtain ⟨r, hr⟩ : ∃ r, atB l x.n = r := ⟨_, rfl⟩
      have hc := atN_calls p v most g l x.n wr hT2
      rw [hr] at hc
      obtain ⟨ra, rp, re⟩ := r
      obtain ⟨z0, hz0⟩ : ∃ z, ra.b.getD 0 0 = z := ⟨_, rfl⟩
      obtain ⟨z3, hz3⟩ : ∃ z, ra.b.getD 3 0 = z := ⟨_, rfl⟩
      obtain ⟨z15, hz15⟩ : ∃ z, ra.b.getD 15 0 = z := ⟨_, rfl⟩
      have HF : Hid (five (atB l x.n) = [rp, ra.v, wrap64 z0, wrap64 z3, wrap64 z15]) := Lib.hid (by rw [hr]; show [rp, ra.v, wrap64 (ra.b.getD 0 0), wrap64 (ra.b.getD 3 0), wrap64 (ra.b.getD 15 0)] = _; rw [hz0, hz3, hz15])
      have HC : Hid (Calls Try.prog 19 #[.pointer (some ⟨p, 0, none⟩), .int .i64 x.n] wr fun e w' => e = .returned (.tuple #[.agg (aV ra), .int .i64 rp, .int .i64 re]) ∧
          ((w'.alloc (.cells (aV ra) 32)).cell? ⟨w'.heap.size, 0, none⟩ = some (.int .i64 ra.v) ∧ (w'.alloc (.cells (aV ra) 32)).cell? ⟨w'.heap.size, 1, none⟩ = some (.int .u8 z0) ∧
            (w'.alloc (.cells (aV ra) 32)).cell? ⟨w'.heap.size, 4, none⟩ = some (.int .u8 z3) ∧ (w'.alloc (.cells (aV ra) 32)).cell? ⟨w'.heap.size, 16, none⟩ = some (.int .u8 z15)) ∧
          Hid (St w (w'.alloc (.cells (aV ra) 32)) [obI (.slice (some ad) Y.length d2) Y]) ∧ (w'.alloc (.cells (aV ra) 32)).heap.size = w'.heap.size + 1) := by
        rw [← hz0, ← hz3, ← hz15]
        exact Lib.hid (hc.mono fun e w' hh => by
          obtain ⟨h1, h2⟩ := hh
          have hX := heap_alloc_new w' (.cells (aV ra) 32)
          exact ⟨h1, ⟨cell_V hX, cell_Y hX 0 (by omega), cell_Y hX 3 (by omega), cell_Y hX 15 (by omega)⟩, Lib.hid ((HS2.out.below h2).alloc0 _), by simp⟩)
      clear hr hc hT2 hg htk hxd hlen hz0 hz3 hz15
      go_wp2_with (first | (go_at_call 19; refine HC.out.mono ?_; rintro e w1 ⟨rfl, ⟨q0, q1, q2, q3⟩, HS3, hsz⟩) | (refine gate_ (.store 32 (.tmp 8) (.tmp 28)) rfl ?_; go_must (refine st_A (.tmp 8) (.tmp 28) rfl rfl rfl rfl rfl ?_)) | (at_builtin; go_must (refine wpList_append_rows_St kI (HS3.out.alloc0 (.cells #[.int .i64 rp, .int .i64 ra.v, .int .i64 (wrap64 z0), .int .i64 (wrap64 z3), .int .i64 (wrap64 z15)] 3)) 0 rfl rfl (.tmp 31) (.tmp 47) 37 (.int .i64 0) 8 rfl Try.underlying37 infoI rfl (by decide) (by decide) [rp, ra.v, wrap64 z0, wrap64 z3, wrap64 z15] (some ⟨(w1.alloc (.cells (aV ra) 32)).heap.size, 0, none⟩) 5 5 rfl (by rw [hsz]; rfl) (lit5 _ _ _ _ _ _) (by have h1 := HTK.out.2; have h2 := HL.out; omega) ?_)))
      intro v1 w9 hv HS9
      obtain ⟨B3, d3, hv1⟩ := hv.out
      subst hv1
      clear HS2 HS3 hv q0 q1 q2 q3
      have HS10 : Hid (St w w9 [obI (.slice B3 (Y ++ [rp, ra.v, wrap64 z0, wrap64 z3, wrap64 z15]).length d3) (Y ++ [rp, ra.v, wrap64 z0, wrap64 z3, wrap64 z15])]) := Lib.hid (by simpa using HS9.out)
      have HY2 : Hid (Y ++ [rp, ra.v, wrap64 z0, wrap64 z3, wrap64 z15] = nums l ++ (l.take (k + 1)).flatMap fun b => five (atB l b.n)) := Lib.hid (by
        rw [HTK.out.1, List.flatMap_append, ← List.append_assoc, ← HY.out, List.flatMap_cons, List.flatMap_nil, List.append_nil, HF.out])
      have hlen2 : (Y ++ [rp, ra.v, wrap64 z0, wrap64 z3, wrap64 z15]).length = Y.length + 5 := by simp
      rw [hlen2] at HS10
      generalize Y ++ [rp, ra.v, wrap64 z0, wrap64 z3, wrap64 z15] = Y2 at HS10 HY2 hlen2 ⊢
      clear HS9
      go_wp2
      go_roundw
      case rel => exact ⟨k + 1, B3, d3, Y2, by omega, by go_num, by rw [hlen2], HY2, by rw [hlen2]; exact HS10⟩
      case measure => simp [intOf]; omega
    · have hltz : ¬ (k : Int) < (l.length : Int) := by omega
      have hkx : k = l.length := by omega
      have hY := HY.out
      rw [hkx, List.take_length] at hY
      have HYV : Hid (Y = nums l ++ viewA l) := Lib.hid hY
      clear hkx hY HY hk hlt
      go_wp2_with fail
      go_loopw [5, 11] (fun u i wr => ∃ (j : Nat) (B : Option Addr) (d : Nat) (Z : List Int), j ≤ s.length ∧ i = .int .i64 j ∧ u = .slice B Z.length d ∧ Hid (Z = nums l ++ viewA l ++ (s.take j).map fun o => findP l o.a o.n) ∧ Hid (St w wr [obI (.slice B Z.length d) Z])) (fun _ i _ => s.length - (intOf i).toNat)
      case atStart => exact ⟨0, B2, d2, Y, Nat.zero_le _, rfl, rfl, Lib.hid (by rw [HYV.out, List.take_zero, List.map_nil, List.append_nil]), HS2⟩
      case round =>
        obtain ⟨j, B4, d4, Z, hj, rfl, rfl, HZZ, HS4⟩ := hrel
        clear HS2
        by_cases hlt : j < s.length
        · have hltz2 : (j : Int) < (s.length : Int) := by omega
          obtain ⟨ad, rfl, hop⟩ := HA.out j hlt
          have HH := Lib.hid hop
          have hop2 := hop.below HS4.out.bl
          clear hop
          have htk := take_getD s j zO hlt
          generalize s.getD j zO = x at HH hop2 htk
          have HTK := Lib.hid htk
          obtain ⟨o0, o1, o2, o3⟩ := hop2
          have HO := Lib.hid o3
          have hLD : ∀ W : World, W.rangeAt (ad.add (j * 20)).block ((ad.add (j * 20)).off + 3) (aL x.a) → (loadVar 32 ⟨(ad.add (j * 20)).block, (ad.add (j * 20)).off + 3, none⟩).run Try.prog W = .ok (.agg (aV x.a)) W := fun W h => lvA h
          have hZl : Z.length ≤ 192 + s.length := by
            have h1 : Z.length = (nums l).length + (viewA l).length + j := by rw [HZZ.out]; simp; omega
            have h2 : (viewA l).length = 5 * l.length := flat_le
            have h3 := HL.out
            simp only [nums, List.length_map] at h1
            omega
          have HZL := Lib.hid hZl
          have HCF : Hid (Calls Try.prog 18 #[.pointer (some ⟨p, 0, none⟩), .agg (aV x.a), .int .i64 x.n] wr.drew fun e w' => e = .returned (.int .i64 (findP l x.a x.n)) ∧ St w w' [obI (.slice B4 Z.length d4) Z]) := Lib.hid ((find_calls p v most g l x.a x.n wr.drew (HT.out.below HS4.out.drew.bl)).mono fun e w' hh => ⟨hh.1, HS4.out.drew.below hh.2⟩)
          obtain ⟨f, hf⟩ : ∃ f, findP l x.a x.n = f := ⟨_, rfl⟩
          rw [hf] at HCF
          have HFF := Lib.hid hf
          clear hf
          clear htk o3 hZl
          go_wp2_with fail
          go_region_held3 (fun W => W.cell? ⟨(ad.add (j * 20)).block, (ad.add (j * 20)).off + 2, none⟩ = some (.int .i64 x.n) ∧ W.rangeAt (ad.add (j * 20)).block ((ad.add (j * 20)).off + 3) (aL x.a)) (first | exact ⟨o2, HO.out⟩ | exact ⟨(HH.out.below HS9.out.bl).2.2.1, (HH.out.below HS9.out.bl).2.2.2⟩ | exact ⟨(HH.out.below (HS5.out.alloc0 _).bl).2.2.1, (HH.out.below (HS5.out.alloc0 _).bl).2.2.2⟩ | exact ⟨(HH.out.below HS5.out.bl).2.2.1, (HH.out.below HS5.out.bl).2.2.2⟩) (first | (go_at_call 18; refine HCF.out.mono ?_; rintro e w1 ⟨rfl, hs⟩; have HS5 := Lib.hid hs; clear hs) | (refine Kd.R_append_step kI (w0 := w1) (W := w1) 0 rfl (.tmp 55) (.tmp 68) 37 3 (.int .i64 0) 8 rfl Try.underlying37 infoI rfl (by decide) (by decide) (.slice B4 Z.length d4) Z f [.int .i64 f] (fun _ => True) (fun _ => False) (by first | (go_simp; done) | (go_simp; rfl)) (by first | (go_simp; done) | (go_simp; rfl)) rfl (fun _ h => h.elim) (fun _ _ => trivial) (HS5.out.get 0 rfl) (blw0 _) (Nat.zero_le _) (by have := HZL.out; have := HZ.out; omega) ?_; intro v1 w9 hR9 _ hg9 hat9; obtain ⟨B5, d5, rfl⟩ := Kd.R_slice hR9; have HS9 := Lib.hid (HS5.out.growW (hf := flI) 0 rfl hR9 hg9 hat9)))
          have HS10 : Hid (St w w9 [obI (.slice B5 (Z ++ [f]).length d5) (Z ++ [f])]) := Lib.hid HS9.out
          have HZ2 : Hid (Z ++ [f] = nums l ++ viewA l ++ (s.take (j + 1)).map fun o => findP l o.a o.n) := Lib.hid (by
            rw [HTK.out, List.map_append, ← List.append_assoc, ← HZZ.out, ← HFF.out]
            rfl)
          have hlen2 : (Z ++ [f]).length = Z.length + 1 := by simp
          rw [hlen2] at HS10
          generalize Z ++ [f] = Z2 at HS10 HZ2 hlen2
          go_wp2_with fail
          go_roundw
          case rel => exact ⟨j + 1, B5, d5, Z2, by omega, by go_num, by rw [hlen2], HZ2, by rw [hlen2]; exact HS10⟩
          case measure => simp [intOf]; omega
        · have hltz : ¬ (j : Int) < (s.length : Int) := by omega
          have hjx : j = s.length := by omega
          have hZ := HZZ.out
          rw [hjx, List.take_length] at hZ
          have HZV : Hid (Z = viewL l s) := Lib.hid hZ
          clear hZ hjx
          go_wp2_with fail
          go_ret
          refine ⟨B4, d4, by rw [← HZV.out]; rfl, by rw [← HZV.out]; exact HS4.out⟩
end Go.Proofs.Ytgcafklieblldaa.SL
