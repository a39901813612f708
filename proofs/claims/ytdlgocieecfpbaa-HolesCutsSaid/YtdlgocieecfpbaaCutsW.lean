/- The walk of the statement HolesCuts: whatever the numbers: true, and all memory stays as it was. No condition but the numbers' own range. -/
import Derived.Test.YtdlgocieecfpbaaZ
import Derived.Test.YtdlgocieecfpbaaSK
namespace Go.Proofs.Ytdlgocieecfpbaa.Q
open Go.RowKit Go.Proofs.YtdlgocieecfpbaaW.PrintWords Go.Proofs.YtdlgocieecfpbaaW.PrintLast Go.Proofs.YtdlgocieecfpbaaW.PrintMore Go.Proofs.Ytdlgocieecfpbaa.SL
attribute [local go_sem ↓] Go.wp_at_zero Go.wp_at_succ
theorem flatP : Flat k33 := fun w w' base ok x cs h => by
  obtain rfl := k33_open h
  exact k33_mkM w' base ok x
theorem mkP {w : World} {base : Nat} {ok : Nat → Prop} (x : Pc) : k33.M w base ok x [.int .i64 x.f0, .int .i64 x.f1, .bool x.f2] := k33_mkM w base ok x
theorem infoP : (Try.prog.info? 33).map (fun i => (i.zero, i.size, i.bytes)) = some (some (.agg #[.int .i64 0, .int .i64 0, .bool false]), 3, 24) := by kernel_rfl
theorem infoP' : ∃ i, Try.prog.info? 33 = some i ∧ i.size = 3 := by
  obtain ⟨i0, hi, hzz⟩ := Option.map_eq_some_iff.1 infoP
  simp only [Prod.mk.injEq] at hzz
  exact ⟨i0, hi, hzz.2.1⟩
theorem right_len2 {T : Int → Bool} {l : List Sp} {en : Int} (h : Inv T l en) : l.length ≤ 2000000 := Nat.le_trans (rightB_len h.right) (by omega)
theorem rdP (l : List Pc) (i : Nat) (h : i < l.length) : rd_T33 l (i : Int) = l[i] := by
  simp [rd_T33, List.getD_eq_getElem?_getD, List.getElem?_eq_getElem h]
theorem cellsP {w : World} {A : Option Addr} {l : List Pc} (h : k33.C w A l.length l) (i : Nat) (hi : i < l.length) : ∃ ad, A = some ad ∧ w.cell? (ad.add (i * 3)) = some (.int .i64 l[i].f0) ∧ w.cell? ⟨(ad.add (i * 3)).block, (ad.add (i * 3)).off + 1, none⟩ = some (.int .i64 l[i].f1) ∧ w.cell? ⟨(ad.add (i * 3)).block, (ad.add (i * 3)).off + 2, none⟩ = some (.bool l[i].f2) := by
  obtain ⟨ad, hA, h0, h1, h2⟩ := at_T33 h (i : Int) (by omega) (by omega)
  rw [rdP l i hi, Int.toNat_natCast] at h0 h1 h2
  exact ⟨ad, hA, h0, h1, h2⟩
theorem cells3 {w0 w : World} {Γ : List Ob} (h : St w0 w Γ) (i : Nat) {ad : Addr} {n c : Nat} {xs : List Pc} (hi : Γ[i]? = some (obW k33 33 flatP (.slice (some ad) n c) xs)) {r : Nat} (hr : r < xs.length) {x : Pc} (hx : xs[r] = x) :
    w.cell? (ad.add (r * 3)) = some (.int .i64 x.f0) ∧ w.cell? ⟨(ad.add (r * 3)).block, (ad.add (r * 3)).off + 1, none⟩ = some (.int .i64 x.f1) ∧ w.cell? ⟨(ad.add (r * 3)).block, (ad.add (r * 3)).off + 2, none⟩ = some (.bool x.f2) := by
  obtain ⟨ad', hA, h0⟩ := cellsP (h.readW i hi) r hr
  obtain rfl := Option.some.inj hA
  rw [hx] at h0
  exact h0
theorem mem_without {α : Type} (R : List α) (r : Nat) (h : r < R.length) (q : α) : q ∈ R ↔ q = R[r] ∨ q ∈ R.take r ++ R.drop (r + 1) := by
  have e : R = R.take r ++ R[r] :: R.drop (r + 1) := by rw [← List.drop_eq_getElem_cons h, List.take_append_drop]
  constructor
  · intro hq
    rw [e] at hq
    rcases List.mem_append.1 hq with hq | hq
    · exact .inr (List.mem_append.2 (.inl hq))
    · rcases List.mem_cons.1 hq with hq | hq
      · exact .inl hq
      · exact .inr (List.mem_append.2 (.inr hq))
  · rintro (rfl | hq)
    · exact List.getElem_mem h
    · rcases List.mem_append.1 hq with hq | hq
      · exact List.mem_of_mem_take hq
      · exact List.mem_of_mem_drop hq
theorem three_cells {w : World} {p : Nat} {x y z : Value} {t : TypeId} {f : Nat × Nat} (h : w.heap[p]? = some (.cells #[x, y, z] t f)) : w.cell? ⟨p, 0, none⟩ = some x ∧ w.cell? ⟨p, 1, none⟩ = some y ∧ w.cell? ⟨p, 2, none⟩ = some z :=
  ⟨cell_of_row w p 0 _ _ _ h, cell_of_row w p 1 _ _ _ h, cell_of_row w p 2 _ _ _ h⟩
theorem box3 {w0 w : World} {Γ : List Ob} (h : St w0 w Γ) (i : Nat) {b : Nat} {x y z : Value} {t : TypeId} (hi : Γ[i]? = some (obB b #[x, y, z] t)) : w.cell? ⟨b, 0, none⟩ = some x ∧ w.cell? ⟨b, 1, none⟩ = some y ∧ w.cell? ⟨b, 2, none⟩ = some z := three_cells (h.get i hi)
theorem C_ints {w : World} {A : Option Addr} {xs : List Int} (h : ReadsInt w .i64 A xs.length xs) : Kd.C (Kd.int .i64) w A xs.length xs := by
  refine ⟨rfl, h.2.1, fun hn => ?_⟩
  obtain ⟨ad, e, hc⟩ := h.2.2 hn
  refine ⟨ad, e, fun j p hp => ⟨[.int .i64 p], rfl, rfl, fun i u hu => ?_⟩⟩
  have hj : j < xs.length := (List.getElem?_eq_some_iff.1 hp).1
  have hpj : xs.getD j 0 = p := by rw [List.getD_eq_getElem?_getD, hp]; rfl
  match i, hu with
  | 0, hu =>
    obtain rfl := Option.some.inj hu
    have := hc j hj
    rw [hpj] at this
    show w.cell? (ad.add (j * 1 + 0)) = _
    rw [Nat.mul_one, Nat.add_zero]
    exact this
theorem reads_below {w w' : World} {A : Option Addr} {xs : List Int} (h : ReadsInt w .i64 A xs.length xs) (hb : Below w.heap.size w w') : ReadsInt w' .i64 A xs.length xs := h.below hb
theorem cnt_le0 (T : Int → Bool) : ∀ N, 0 ≤ cnt T N
  | 0 => Int.le_refl _
  | N + 1 => by
    have := cnt_le0 T N
    simp only [cnt]
    split <;> omega
theorem c_rest (a : Int) (m : Nat) (hm : m < 4000000000) (w : World) : Calls Try.prog 24 #[.int .i64 a, .int .i64 m] w fun e w' => ∃ r : Nat, r ≤ m ∧ e = .returned (.int .i64 r) ∧ Below w.heap.size w w' := by
  obtain ⟨r, h1, h2⟩ := rest_eval a m hm
  exact (mosaiclaw13_rest.calls a m r w h2).mono fun e w' ⟨he, hd⟩ => ⟨r, h1, he, hd.below⟩
theorem c_restZ (a z : Int) (h0 : 0 ≤ z) (hz : z < 4000000000) (w : World) : Calls Try.prog 24 #[.int .i64 a, .int .i64 z] w fun e w' => ∃ r : Nat, (r : Int) ≤ z ∧ e = .returned (.int .i64 r) ∧ Below w.heap.size w w' := by
  obtain ⟨m, rfl⟩ := Int.eq_ofNat_of_zero_le h0
  exact (c_rest a m (by omega) w).mono fun e w' ⟨r, h1, h2⟩ => ⟨r, by omega, h2⟩
theorem c_cut {w0 w : World} {Γ : List Ob} (h : St w0 w Γ) (N : Int) (h1 : 1 ≤ N) (h2 : N ≤ 65535) (A : Option Addr) (c : Nat) (cs : List Int) (hr : ReadsInt w .i64 A cs.length cs) (hc : cs.length ≤ c) :
    Calls Try.prog 25 #[.int .i64 N, .slice A cs.length c] w fun e w' => ∃ v L, e = .returned v ∧ Pieces N 0 L ∧ St w0 w' (Γ ++ [obW k33 33 flatP v L]) := by
  obtain ⟨L, h3, h4⟩ := cutP_eval N h1 h2 cs
  refine (mosaiclaw13_cut.calls 100000 N A c cs L w (C_ints hr) hc h3).mono ?_
  rintro e w' ⟨v, rfl, hR, hb⟩
  exact ⟨v, L, rfl, h4, h.addW flatP hb hR⟩
set_option maxHeartbeats 16000000 in
set_option maxRecDepth 100000 in
theorem cuts_calls (a : Int) (A1 A2 A3 : Option Addr) (c1 c2 c3 : Nat) (cs ms qs : List Int) (w : World) (h1 : ReadsInt w .i64 A1 cs.length cs) (g1 : cs.length ≤ c1) (h2 : ReadsInt w .i64 A2 ms.length ms) (g2 : ms.length ≤ c2) (h3 : ReadsInt w .i64 A3 qs.length qs) :
    Calls Try.prog 6 #[.int .i64 a, .slice A1 cs.length c1, .slice A2 ms.length c2, .slice A3 qs.length c3] w fun e w' => e = .returned (.bool true) ∧ Below w.heap.size w w' := by
  have hu := Try.underlying50
  have hu3 := Try.underlying33
  have hal := h3.2.1
  have H1 := Lib.hid h1
  have H2 := Lib.hid h2
  have HA := Lib.hid h3
  clear h1 h2 h3
  have HS := Lib.hid (St.nil w)
  go_enter Try.func6, Try.ntmps6
  go_wp2_with fail
  refine (c_rest a 65534 (by omega) _).mono ?_
  rintro e w1 ⟨r, hr, rfl, hb⟩
  have HS := Lib.hid (HS.out.below hb)
  have hN1 : 1 ≤ 1 + (r : Int) := by omega
  have hN2 : 1 + (r : Int) ≤ 65535 := by omega
  clear hb hr
  go_wp2_with fail
  generalize 1 + (r : Int) = N at *
  go_wp2_with fail
  refine (c_new HS.out).mono ?_
  rintro e w1 ⟨p, A, c, rfl, hs⟩
  have HS := Lib.hid hs
  clear hs 
  go_wp2_with fail
  refine (known_calls _).mono ?_
  rintro e wk ⟨rfl, hb⟩
  have HS := Lib.hid (HS.out.below hb)
  clear hb
  go_wp2_with fail
  refine (c_cut HS.out N hN1 hN2 A1 c1 cs (reads_below H1.out HS.out.bl) g1).mono ?_
  rintro e w5 ⟨v1, L, rfl, hP, hs⟩
  have HS := Lib.hid hs
  have HP := Lib.hid hP
  clear hs hP
  go_wp2_with fail
  refine (c_cut HS.out N hN1 hN2 A2 c2 ms (reads_below H2.out HS.out.bl) g2).mono ?_
  rintro e w6 ⟨v2, O, rfl, hO, hs⟩
  have HS2 := Lib.hid hs
  have HO := Lib.hid hO
  clear hs hO HS
  have hc0 : cnt (fun _ => false) 65535 = 0 := cnt_none _ (fun _ => rfl) _
  have HC0 := Lib.hid hc0
  clear hc0
  go_wp2_with fail
  go_loopw [10, 12, 13, 14] (fun v th ed i wr => ∃ (j : Nat) (R : List Pc) (T : Int → Bool) (l : List Sp) (en : Int) (A : Option Addr) (c : Nat) (t : Int) (b : Bool), j + R.length = L.length ∧ i = .int .i64 j ∧ th = .int .i64 t ∧ ed = .bool b ∧ Hid (cnt T 65535 = t) ∧ Hid (decide (0 ≤ en) = b) ∧ Hid (CS N T l en) ∧ Hid (Todo N T en R) ∧ Hid (St w wr [obH p A c l en, obW k33 33 flatP v R, obW k33 33 flatP v2 O])) (fun _ _ _ i _ => L.length - (intOf i).toNat)
  case atStart => exact ⟨0, L, _, _, _, _, _, 0, false, by omega, rfl, rfl, rfl, HC0, Lib.hid rfl, Lib.hid (CS.start N), Lib.hid (Todo.start hN1 HP.out), HS2⟩
  case round =>
    clear HS2 HC0
    obtain ⟨j, R, T, l, en, A, c, t, b, hj, rfl, rfl, rfl, Ht, Hb, HC, HD, HS⟩ := hrel
    obtain ⟨Al, cl, hv, hcl, _⟩ := HS.out.readsW 1 rfl
    subst hv
    have hLl := HP.out.len
    have hOl := HO.out.len
    obtain ⟨AO, cO, hv2, _, _⟩ := HS.out.readsW 2 rfl
    subst hv2
    have hO1 : 0 < O.length := by
      obtain ⟨z, hz, _⟩ := HO.out.last (by omega)
      exact List.length_pos_of_mem hz
    have hmz : (O.length : Int) ≤ 65535 := by omega
    have hmz1 : (1 : Int) ≤ (O.length : Int) := by omega
    have hjz : (j : Int) + (R.length : Int) = (L.length : Int) := by omega
    have ht0 := HC.out.cnt_le
    have hts := inv_size HC.out.inv
    have htl := HC.out.inv.lim_le
    rw [Ht.out] at ht0 hts
    have ht1 : 0 ≤ t := by
      have := cnt_le0 T 65535
      rw [Ht.out] at this
      exact this
    have ht2 : t ≤ 65535 := ht0.2.1
    rcases Nat.eq_zero_or_pos R.length with hR0 | hR0
    · have hRn : R = [] := List.length_eq_zero_iff.1 hR0
      subst hRn
      obtain ⟨e1, e2, e3⟩ := Todo.fin hN1 hN2 HC.out HD.out
      rw [Ht.out] at e2
      subst e1
      subst e2
      have hdn : doneA l t = true := by unfold doneA; rw [decide_eq_true (by omega), decide_eq_true e3]; rfl
      have HDN := Lib.hid hdn
      have HE3 := Lib.hid e3
      clear hj hjz hcl ht0 hts htl hdn e3 hR0 hOl hLl
      go_wp2_with fail
      refine (c_doneK HS.out 0 rfl HDN.out).mono ?_
      rintro e w' ⟨rfl, rfl⟩
      go_wp2_with fail
      refine (c_end HS.out 0 rfl).mono ?_
      rintro e w' ⟨rfl, rfl⟩
      go_wp2_with fail
      refine (c_holes HS.out 0 rfl (by have := HE3.out; omega)).mono ?_
      rintro e w7 ⟨B1, d1, rfl, hs⟩
      have HS := Lib.hid hs
      have hl0 := HE3.out
      clear hs
      rw [hl0]
      go_wp2
      go_ret
      exact ⟨rfl, HS.out.bl⟩
    · obtain ⟨n, hn⟩ : ∃ n, R.length = n + 1 := ⟨R.length - 1, by omega⟩
      have hnz : (n : Int) ≤ 65535 := by omega
      have hjz2 : (j : Int) ≤ 65535 := by omega
      have HJJ := Lib.hid (And.intro hj hLl)
      have HHm := Lib.hid hOl
      clear hj hjz hR0 ht0 hts htl hLl hOl hO1
      by_cases hq : j < qs.length
      · have hqz : (j : Int) < (qs.length : Int) := by omega
        obtain ⟨ad1, hA1, g0⟩ := HA.out.at_ (j : Int) (by omega) hqz
        rw [Int.toNat_natCast] at g0
        have G0 := Lib.hid g0
        have gg := pw_cell_below HS.out.bl g0
        generalize rd qs (j : Int) = y at *
        subst hA1
        clear g0
        go_wp2_with fail
        refine (c_rest y n (by have := HJJ.out; omega) _).mono ?_
        rintro e w6 ⟨r, hrn, rfl, hb⟩
        have HS := Lib.hid (HS.out.below hb)
        clear hb gg
        have hrl : r < R.length := by omega
        obtain ⟨x, hx⟩ : ∃ x, R[r] = x := ⟨_, rfl⟩
        obtain ⟨ad2, hA2, -⟩ := cellsP (HS.out.readW 1 rfl) r hrl
        subst hA2
        have hxm : x ∈ R := by rw [← hx]; exact List.getElem_mem _
        have HG := Lib.hid (HD.out.good x hxm)
        obtain ⟨l0, l1, l2⟩ := cells3 HS.out 1 rfl hrl hx
        have hM2 := mem_without R r hrl
        rw [hx] at hM2
        have HM2 := Lib.hid hM2
        have hrz : (r : Int) < (n : Int) + 1 := by omega
        have hrz2 : (r : Int) < ((n + 1 : Nat) : Int) := by omega
        have hrz3 : (0 : Int) ≤ (r : Int) := by omega
        have hrz4 : r < n + 1 := by omega
        have HS := Lib.hid (HS.out.box #[.int .i64 x.f0, .int .i64 x.f1, .bool x.f2] 33)
        have hC := HS.out.readW 1 rfl
        obtain ⟨i0, hi0, hi1⟩ := infoP'
        have hs1 := cut_to (P := Try.prog) 22 33 .i64 Try.underlying22 hi0 (some ad2) R.length cl (r : Int) (by omega) (by omega) hcl
        have hs2 := cut_from (P := Try.prog) 22 33 .i64 Try.underlying22 hi0 k33.sz (show i0.size = k33.sz from hi1) (some ad2) R.length cl ((r : Int) + 1) (by omega) (by omega)
        have hCt := Kd.C_take hC (Nat.le_of_lt hrl)
        have hCd := Kd.C_drop hC (show r + 1 ≤ R.length from hrl) hcl
        have htl : (R.take r).length = r := by rw [List.length_take]; omega
        have hdl : (R.drop (r + 1)).length = R.length - (r + 1) := List.length_drop
        have hri : ((r : Int) + 1).toNat = r + 1 := by omega
        rw [htl] at hCt
        rw [hri] at hs2
        have hAD : ∃ AD, (if cl = r + 1 then some ad2 else (some ad2).map (·.add ((r + 1) * k33.sz))) = AD := ⟨_, rfl⟩
        obtain ⟨AD, hAD⟩ := hAD
        have hCd2 := hCd
        rw [hdl, hAD] at hCd2
        rw [hAD] at hs2
        rw [Int.toNat_natCast] at hs1
        rw [hn] at hs1 hs2 hCd2
        have hwr : IntKind.i64.wrap ((r : Int) + 1) = (r : Int) + 1 := IntWalk.i64_in _ (by omega)
        have HCT := Lib.hid hCt
        have HCD := Lib.hid hCd2
        clear hC hCt hCd hCd2 htl hdl hri hAD hi0 hi1 hM2 hxm hx
        go_wp2_with fail
        obtain ⟨w7, hw7⟩ : ∃ W, W = w6.alloc (.cells #[.int .i64 x.f0, .int .i64 x.f1, .bool x.f2] 33) := ⟨_, rfl⟩
        rw [← hw7] at HS HCT HCD ⊢
        clear hw7
        go_region_law ((first | (refine Kd.R_append_rows_step k33 (Rr := k33.K _) (w0 := w7.drew) w7.heap.size rfl (.tmp 65) (.tmp 69) 22 33 (.agg #[.int .i64 0, .int .i64 0, .bool false]) 24 rfl Try.underlying22 infoP rfl (by decide) (by decide) v1 ([] ++ R.take r) (R.drop (r + 1)) AD (n + 1 - (r + 1)) (cl - (r + 1)) (fun _ => True) (fun _ => False) (by first | (go_simp; done) | (go_simp; rfl)) (by first | (go_simp; done) | (go_simp; rfl)) hR1 (Kd.C_below (Kd.C_below HCD.out (Below.refl _ _).drew) hB1) (fun x cs h => flatP _ _ _ _ x cs h) (fun _ h => h.elim) (fun _ _ => trivial) hB1 hB1.size (by simp; omega) ?_; intro v2 w9 hR2 hB2 hg2 hat2) | (refine Kd.R_append_rows_step k33 (Rr := k33.K _) (w0 := w7.drew) w7.heap.size rfl (.const (.slice none 0 0)) (.tmp 64) 22 33 (.agg #[.int .i64 0, .int .i64 0, .bool false]) 24 rfl Try.underlying22 infoP rfl (by decide) (by decide) (.slice none 0 0) [] (R.take r) (some ad2) r cl (fun _ => True) (fun _ => False) (by rfl) (by first | (go_simp; done) | (go_simp; rfl)) (Kd.R_nil k33 33 _ _ _) (Kd.C_below HCT.out (Below.refl _ _).drew) (fun x cs h => flatP _ _ _ _ x cs h) (fun _ h => h.elim) (fun _ _ => trivial) (Below.refl _ _) (Nat.le_refl _) (by simp; omega) ?_; intro v1 w8 hR1 hB1 hg1 hat1)))
        rw [List.nil_append] at hR2
        have HS := Lib.hid (HS.out.drew.anewW 1 rfl hB2 hR2)
        have hlen : j + 1 + (R.take r ++ R.drop (r + 1)).length = L.length := by
          have := HJJ.out.1
          rw [List.length_append, List.length_take, List.length_drop]
          omega
        have HL9 := Lib.hid hlen
        have hmeas : (j : Int) < (L.length : Int) := by have := HJJ.out; omega
        clear hR2 hB2 hg2 hat2 hR1 hB1 hg1 hat1 hlen hs1 hs2 hwr l0 l1 l2
        obtain ⟨hok, hC2, hsz, hf1, hf2, hf3, hf4, hf5⟩ := HC.out.put hN1 hN2 HG.out
        have e2 : errP l en x.f0 x.f1 x.f2 = 0 := if_pos hok
        obtain ⟨F, e1⟩ : ∃ F, freshP l en x.f0 x.f1 x.f2 = F := ⟨_, rfl⟩
        obtain ⟨L2, e3⟩ : ∃ F, leftP l en x.f0 x.f1 x.f2 = F := ⟨_, rfl⟩
        obtain ⟨E2, e4⟩ : ∃ F, endP l en x.f0 x.f1 x.f2 = F := ⟨_, rfl⟩
        obtain ⟨T2, e5⟩ : ∃ F, putT T l en x.f0 x.f1 x.f2 = F := ⟨_, rfl⟩
        obtain ⟨t2, ht3⟩ : ∃ z, cnt T2 65535 = z := ⟨_, rfl⟩
        obtain ⟨sF, hsF⟩ : ∃ z, sizeS F = z := ⟨_, rfl⟩
        rw [e3, e4, e5] at hC2
        rw [e1, e5, Ht.out, ht3, hsF] at hsz
        rw [e4] at hf1 hf2
        rw [e5] at hf3 hf4
        rw [e1] at hf5
        have hle := hC2.cnt_le.2.1
        rw [ht3] at hle
        have hs0 := (sizeS_nonneg hf5 (by omega)).1
        rw [hsF] at hs0
        have hle2 : t + sF ≤ 65535 := by omega
        have hdone := hC2.done hN1
        rw [ht3] at hdone
        have HTD2 := Lib.hid (show Todo N T2 E2 (R.take r ++ R.drop (r + 1)) from ⟨fun q hq => HD.out.good q ((HM2.out q).2 (.inr hq)), fun z z1 z2 => (HD.out.cover z z1 z2).elim (fun h => .inl (hf3 z h)) (fun ⟨q, hq, hz⟩ => ((HM2.out q).1 hq).elim (fun h => .inl (by subst h; exact hf4 z hz.1 hz.2)) (fun h => .inr ⟨q, h, hz⟩)), HD.out.last.elim (fun h => .inl (by cases hm3 : x.f2 with | true => rw [hf2 hm3]; exact h | false => exact hf1 hm3)) (fun ⟨q, hq, hz⟩ => ((HM2.out q).1 hq).elim (fun h => .inl (by subst h; exact hf1 hz)) (fun h => .inr ⟨q, h, hz⟩))⟩)
        have hcase : ∃ b2, decide (0 ≤ E2) = b2 ∧ ((b = true ∧ b2 = true) ∨ (b = false ∧ x.f2 = true ∧ b2 = false) ∨ (b = false ∧ x.f2 = false ∧ b2 = true)) := by
          refine ⟨_, rfl, ?_⟩
          have hb := Hb.out
          cases hm2 : x.f2 with
          | true => rw [hf2 hm2, hb]; cases b <;> simp
          | false => rw [hf1 hm2, decide_eq_true (by omega)]; cases b <;> simp
        obtain ⟨b2, hb2, hcase⟩ := hcase
        rw [hb2] at hdone
        have HC2 := Lib.hid hC2
        have HT2 := Lib.hid ht3
        have HB2 := Lib.hid hb2
        have HSF := Lib.hid hsF
        have HF5 := Lib.hid hf5
        have HDO := Lib.hid hdone
        have HE := Lib.hid (And.intro e1 (And.intro e2 (And.intro e3 e4)))
        clear e1 e2 e3 e4 e5 hok hC2 hf1 hf2 hf3 hf4 hf5 hdone ht3 hb2 hsF
        obtain ⟨b0, b1, b2c⟩ := box3 HS.out 3 rfl
        go_wp2_with fail
        refine (c_putK HS.out 0 rfl (right_len2 HC.out.inv) x.f0 x.f1 x.f2 HE.out.1 HE.out.2.1 HE.out.2.2.1 HE.out.2.2.2).mono ?_
        rintro e wp ⟨A4, c4, B4, d4, rfl, hs⟩
        have HS := Lib.hid hs
        clear hs b0 b1 b2c
        go_wp2_with fail
        refine (d_sizeL HS.out 4 rfl (Nat.le_trans (rightB_len HF5.out) (by omega)) (right_good HF5.out)).mono ?_
        rintro e wq ⟨rfl, hd⟩
        have HS := Lib.hid (HS.out.below hd.below)
        clear hd
        rw [HSF.out]
        obtain ⟨b0, b1, b2c⟩ := box3 HS.out 3 rfl
        have hneq : (!(t2 == N) == (t2 == N)) = false := by cases (t2 == N) <;> rfl
        rcases hcase with ⟨rfl, rfl⟩ | ⟨rfl, hx2, rfl⟩ | ⟨rfl, hx2, rfl⟩
        all_goals
          first | rw [hx2] at b2c | skip
          have hdo := HDO.out
          first | rw [Bool.true_and] at hdo | rw [Bool.false_and] at hdo
          have HDX := Lib.hid hdo
          clear hdo
          go_wp2_with fail
          refine (c_doneK HS.out 0 rfl HDX.out).mono ?_
          rintro e w' ⟨rfl, rfl⟩
          clear b0 b1 b2c
          by_cases h3 : (j : Int) % 3 = 1
          · have h3' : ((j : Int) % 3 == 1) = true := by rw [beq_iff_eq]; exact h3
            clear h3
            have gg := pw_cell_below HS.out.bl G0.out
            go_wp2_with fail
            refine (c_restZ _ ((O.length : Int) - 1) (by omega) (by omega) _).mono ?_
            rintro e w9 ⟨r2, hr2, rfl, hb⟩
            have HS := Lib.hid (HS.out.below hb)
            clear hb gg
            have hrl2 : r2 < O.length := by omega
            obtain ⟨x2, hx4⟩ : ∃ x, O[r2] = x := ⟨_, rfl⟩
            obtain ⟨adO, hAO, -⟩ := cellsP (HS.out.readW 2 rfl) r2 hrl2
            subst hAO
            have hxm2 : x2 ∈ O := by rw [← hx4]; exact List.getElem_mem _
            have HG2 := Lib.hid (HO.out.good x2 hxm2)
            obtain ⟨l0, l1, l2⟩ := cells3 HS.out 2 rfl hrl2 hx4
            have hrz5 : (r2 : Int) < (O.length : Int) := by omega
            have hrz6 : (0 : Int) ≤ (r2 : Int) := by omega
            have HS := Lib.hid (HS.out.box #[.int .i64 x2.f0, .int .i64 x2.f1, .bool x2.f2] 33)
            clear hxm2 hx4
            go_wp2_with fail
            clear l0 l1 l2
            obtain ⟨hok, hC2, hsz, hf1, hf2, hf3, hf4, hf5⟩ := HC2.out.put hN1 hN2 HG2.out
            have e2 : errP L2 E2 x2.f0 x2.f1 x2.f2 = 0 := if_pos hok
            obtain ⟨F3, e1⟩ : ∃ F3, freshP L2 E2 x2.f0 x2.f1 x2.f2 = F3 := ⟨_, rfl⟩
            obtain ⟨L3, e3⟩ : ∃ F3, leftP L2 E2 x2.f0 x2.f1 x2.f2 = F3 := ⟨_, rfl⟩
            obtain ⟨E3, e4⟩ : ∃ F3, endP L2 E2 x2.f0 x2.f1 x2.f2 = F3 := ⟨_, rfl⟩
            obtain ⟨T3, e5⟩ : ∃ F3, putT T2 L2 E2 x2.f0 x2.f1 x2.f2 = F3 := ⟨_, rfl⟩
            obtain ⟨t3, ht3⟩ : ∃ z, cnt T3 65535 = z := ⟨_, rfl⟩
            obtain ⟨sF3, hsF⟩ : ∃ z, sizeS F3 = z := ⟨_, rfl⟩
            rw [e3, e4, e5] at hC2
            rw [e1, e5, HT2.out, ht3, hsF] at hsz
            rw [e4] at hf1 hf2
            rw [e5] at hf3 hf4
            rw [e1] at hf5
            have hle := hC2.cnt_le.2.1
            rw [ht3] at hle
            have hs0 := (sizeS_nonneg hf5 (by omega)).1
            rw [hsF] at hs0
            have hle2 : t2 + sF3 ≤ 65535 := by omega
            have hdone := hC2.done hN1
            rw [ht3] at hdone
            have HTD3 := Lib.hid (show Todo N T3 E3 (R.take r ++ R.drop (r + 1)) from ⟨HTD2.out.good, fun z z1 z2 => (HTD2.out.cover z z1 z2).elim (fun h => .inl (hf3 z h)) .inr, HTD2.out.last.elim (fun h => .inl (by cases hm3 : x2.f2 with | true => rw [hf2 hm3]; exact h | false => exact hf1 hm3)) .inr⟩)
            have hcase : ∃ b3, decide (0 ≤ E3) = b3 ∧ ((decide (0 ≤ E2) = true ∧ b3 = true) ∨ (decide (0 ≤ E2) = false ∧ x2.f2 = true ∧ b3 = false) ∨ (decide (0 ≤ E2) = false ∧ x2.f2 = false ∧ b3 = true)) := by
              refine ⟨_, rfl, ?_⟩
              cases hm2 : x2.f2 with
              | true => rw [hf2 hm2]; cases decide (0 ≤ E2) <;> simp
              | false => rw [hf1 hm2, decide_eq_true (show 0 ≤ N by omega)]; cases decide (0 ≤ E2) <;> simp
            obtain ⟨b3, hb2, hcase⟩ := hcase
            rw [hb2] at hdone
            have HC3 := Lib.hid hC2
            have HT3 := Lib.hid ht3
            have HB3 := Lib.hid hb2
            have HSF3 := Lib.hid hsF
            have HF53 := Lib.hid hf5
            have HDO3 := Lib.hid hdone
            have HE3 := Lib.hid (And.intro e1 (And.intro e2 (And.intro e3 e4)))
            clear e1 e2 e3 e4 e5 hok hC2 hf1 hf2 hf3 hf4 hf5 hdone ht3 hb2 hsF
            obtain ⟨b0, b1, b2c⟩ := box3 HS.out 5 rfl
            go_wp2_with fail
            refine (c_putK HS.out 0 rfl (right_len2 HC2.out.inv) x2.f0 x2.f1 x2.f2 HE3.out.1 HE3.out.2.1 HE3.out.2.2.1 HE3.out.2.2.2).mono ?_
            rintro e wp ⟨A5, c5, B5, d5, rfl, hs⟩
            have HS := Lib.hid hs
            clear hs b0 b1 b2c
            go_wp2_with fail
            refine (d_sizeL HS.out 6 rfl (Nat.le_trans (rightB_len HF53.out) (by omega)) (right_good HF53.out)).mono ?_
            rintro e wq ⟨rfl, hd⟩
            have HS := Lib.hid (HS.out.below hd.below)
            clear hd
            rw [HSF3.out]
            obtain ⟨b0, b1, b2c⟩ := box3 HS.out 5 rfl
            have hneq3 : (!(t3 == N) == (t3 == N)) = false := by cases (t3 == N) <;> rfl
            rcases hcase with ⟨hq1, rfl⟩ | ⟨hq1, hx3, rfl⟩ | ⟨hq1, hx3, rfl⟩
            all_goals first
              | exact absurd (HB2.out.symm.trans hq1) (by decide)
              | ((first | rw [hx3] at b2c | skip)
                 have hdo := HDO3.out
                 (first | rw [Bool.true_and] at hdo | rw [Bool.false_and] at hdo)
                 have HDX3 := Lib.hid hdo
                 clear hdo
                 go_wp2_with fail
                 refine (c_doneK HS.out 0 rfl HDX3.out).mono ?_
                 rintro e w' ⟨rfl, rfl⟩
                 clear b0 b1 b2c
                 go_wp2
                 go_roundw
                 case rel => exact ⟨j + 1, _, _, _, _, _, _, _, _, HL9.out, by go_num, rfl, rfl, HT3, HB3, HC3, HTD3, Lib.hid (HS.out.pick [0, 1, 2] (by decide))⟩
                 case measure => simp [intOf]; omega)
          · have h3' : ((j : Int) % 3 == 1) = false := by rw [beq_eq_false_iff_ne]; exact h3
            clear h3
            go_wp2
            go_roundw
            case rel => exact ⟨j + 1, _, _, _, _, _, _, _, _, HL9.out, by go_num, rfl, rfl, HT2, HB2, HC2, HTD2, Lib.hid (HS.out.pick [0, 1, 2] (by decide))⟩
            case measure => simp [intOf]; omega
      · have hqz : (qs.length : Int) ≤ (j : Int) := by omega
        obtain ⟨r, hrn, hre⟩ : ∃ r : Nat, r ≤ n ∧ r = n := ⟨n, Nat.le_refl _, rfl⟩
        subst hre
        have hrl : r < R.length := by omega
        obtain ⟨x, hx⟩ : ∃ x, R[r] = x := ⟨_, rfl⟩
        obtain ⟨ad2, hA2, -⟩ := cellsP (HS.out.readW 1 rfl) r hrl
        subst hA2
        have hxm : x ∈ R := by rw [← hx]; exact List.getElem_mem _
        have HG := Lib.hid (HD.out.good x hxm)
        obtain ⟨l0, l1, l2⟩ := cells3 HS.out 1 rfl hrl hx
        have hM2 := mem_without R r hrl
        rw [hx] at hM2
        have HM2 := Lib.hid hM2
        have hrz : (r : Int) < (r : Int) + 1 := by omega
        have hrz2 : (r : Int) < ((r + 1 : Nat) : Int) := by omega
        have hrz3 : (0 : Int) ≤ (r : Int) := by omega
        have hrz4 : r < r + 1 := by omega
        have HS := Lib.hid (HS.out.box #[.int .i64 x.f0, .int .i64 x.f1, .bool x.f2] 33)
        have hC := HS.out.readW 1 rfl
        obtain ⟨i0, hi0, hi1⟩ := infoP'
        have hs1 := cut_to (P := Try.prog) 22 33 .i64 Try.underlying22 hi0 (some ad2) R.length cl (r : Int) (by omega) (by omega) hcl
        have hs2 := cut_from (P := Try.prog) 22 33 .i64 Try.underlying22 hi0 k33.sz (show i0.size = k33.sz from hi1) (some ad2) R.length cl ((r : Int) + 1) (by omega) (by omega)
        have hCt := Kd.C_take hC (Nat.le_of_lt hrl)
        have hCd := Kd.C_drop hC (show r + 1 ≤ R.length from hrl) hcl
        have htl : (R.take r).length = r := by rw [List.length_take]; omega
        have hdl : (R.drop (r + 1)).length = R.length - (r + 1) := List.length_drop
        have hri : ((r : Int) + 1).toNat = r + 1 := by omega
        rw [htl] at hCt
        rw [hri] at hs2
        have hAD : ∃ AD, (if cl = r + 1 then some ad2 else (some ad2).map (·.add ((r + 1) * k33.sz))) = AD := ⟨_, rfl⟩
        obtain ⟨AD, hAD⟩ := hAD
        have hCd2 := hCd
        rw [hdl, hAD] at hCd2
        rw [hAD] at hs2
        rw [Int.toNat_natCast] at hs1
        rw [hn] at hs1 hs2 hCd2
        have hwr : IntKind.i64.wrap ((r : Int) + 1) = (r : Int) + 1 := IntWalk.i64_in _ (by omega)
        have HCT := Lib.hid hCt
        have HCD := Lib.hid hCd2
        clear hC hCt hCd hCd2 htl hdl hri hAD hi0 hi1 hM2 hxm hx
        go_wp2_with fail
        obtain ⟨w7, hw7⟩ : ∃ W, W = wr.alloc (.cells #[.int .i64 x.f0, .int .i64 x.f1, .bool x.f2] 33) := ⟨_, rfl⟩
        rw [← hw7] at HS HCT HCD ⊢
        clear hw7
        go_region_law ((first | (refine Kd.R_append_rows_step k33 (Rr := k33.K _) (w0 := w7.drew) w7.heap.size rfl (.tmp 65) (.tmp 69) 22 33 (.agg #[.int .i64 0, .int .i64 0, .bool false]) 24 rfl Try.underlying22 infoP rfl (by decide) (by decide) v1 ([] ++ R.take r) (R.drop (r + 1)) AD (r + 1 - (r + 1)) (cl - (r + 1)) (fun _ => True) (fun _ => False) (by first | (go_simp; done) | (go_simp; rfl)) (by first | (go_simp; done) | (go_simp; rfl)) hR1 (Kd.C_below (Kd.C_below HCD.out (Below.refl _ _).drew) hB1) (fun x cs h => flatP _ _ _ _ x cs h) (fun _ h => h.elim) (fun _ _ => trivial) hB1 hB1.size (by simp; omega) ?_; intro v2 w9 hR2 hB2 hg2 hat2) | (refine Kd.R_append_rows_step k33 (Rr := k33.K _) (w0 := w7.drew) w7.heap.size rfl (.const (.slice none 0 0)) (.tmp 64) 22 33 (.agg #[.int .i64 0, .int .i64 0, .bool false]) 24 rfl Try.underlying22 infoP rfl (by decide) (by decide) (.slice none 0 0) [] (R.take r) (some ad2) r cl (fun _ => True) (fun _ => False) (by rfl) (by first | (go_simp; done) | (go_simp; rfl)) (Kd.R_nil k33 33 _ _ _) (Kd.C_below HCT.out (Below.refl _ _).drew) (fun x cs h => flatP _ _ _ _ x cs h) (fun _ h => h.elim) (fun _ _ => trivial) (Below.refl _ _) (Nat.le_refl _) (by simp; omega) ?_; intro v1 w8 hR1 hB1 hg1 hat1)))
        rw [List.nil_append] at hR2
        have HS := Lib.hid (HS.out.drew.anewW 1 rfl hB2 hR2)
        have hlen : j + 1 + (R.take r ++ R.drop (r + 1)).length = L.length := by
          have := HJJ.out.1
          rw [List.length_append, List.length_take, List.length_drop]
          omega
        have HL9 := Lib.hid hlen
        have hmeas : (j : Int) < (L.length : Int) := by have := HJJ.out; omega
        clear hR2 hB2 hg2 hat2 hR1 hB1 hg1 hat1 hlen hs1 hs2 hwr l0 l1 l2
        obtain ⟨hok, hC2, hsz, hf1, hf2, hf3, hf4, hf5⟩ := HC.out.put hN1 hN2 HG.out
        have e2 : errP l en x.f0 x.f1 x.f2 = 0 := if_pos hok
        obtain ⟨F, e1⟩ : ∃ F, freshP l en x.f0 x.f1 x.f2 = F := ⟨_, rfl⟩
        obtain ⟨L2, e3⟩ : ∃ F, leftP l en x.f0 x.f1 x.f2 = F := ⟨_, rfl⟩
        obtain ⟨E2, e4⟩ : ∃ F, endP l en x.f0 x.f1 x.f2 = F := ⟨_, rfl⟩
        obtain ⟨T2, e5⟩ : ∃ F, putT T l en x.f0 x.f1 x.f2 = F := ⟨_, rfl⟩
        obtain ⟨t2, ht3⟩ : ∃ z, cnt T2 65535 = z := ⟨_, rfl⟩
        obtain ⟨sF, hsF⟩ : ∃ z, sizeS F = z := ⟨_, rfl⟩
        rw [e3, e4, e5] at hC2
        rw [e1, e5, Ht.out, ht3, hsF] at hsz
        rw [e4] at hf1 hf2
        rw [e5] at hf3 hf4
        rw [e1] at hf5
        have hle := hC2.cnt_le.2.1
        rw [ht3] at hle
        have hs0 := (sizeS_nonneg hf5 (by omega)).1
        rw [hsF] at hs0
        have hle2 : t + sF ≤ 65535 := by omega
        have hdone := hC2.done hN1
        rw [ht3] at hdone
        have HTD2 := Lib.hid (show Todo N T2 E2 (R.take r ++ R.drop (r + 1)) from ⟨fun q hq => HD.out.good q ((HM2.out q).2 (.inr hq)), fun z z1 z2 => (HD.out.cover z z1 z2).elim (fun h => .inl (hf3 z h)) (fun ⟨q, hq, hz⟩ => ((HM2.out q).1 hq).elim (fun h => .inl (by subst h; exact hf4 z hz.1 hz.2)) (fun h => .inr ⟨q, h, hz⟩)), HD.out.last.elim (fun h => .inl (by cases hm3 : x.f2 with | true => rw [hf2 hm3]; exact h | false => exact hf1 hm3)) (fun ⟨q, hq, hz⟩ => ((HM2.out q).1 hq).elim (fun h => .inl (by subst h; exact hf1 hz)) (fun h => .inr ⟨q, h, hz⟩))⟩)
        have hcase : ∃ b2, decide (0 ≤ E2) = b2 ∧ ((b = true ∧ b2 = true) ∨ (b = false ∧ x.f2 = true ∧ b2 = false) ∨ (b = false ∧ x.f2 = false ∧ b2 = true)) := by
          refine ⟨_, rfl, ?_⟩
          have hb := Hb.out
          cases hm2 : x.f2 with
          | true => rw [hf2 hm2, hb]; cases b <;> simp
          | false => rw [hf1 hm2, decide_eq_true (by omega)]; cases b <;> simp
        obtain ⟨b2, hb2, hcase⟩ := hcase
        rw [hb2] at hdone
        have HC2 := Lib.hid hC2
        have HT2 := Lib.hid ht3
        have HB2 := Lib.hid hb2
        have HSF := Lib.hid hsF
        have HF5 := Lib.hid hf5
        have HDO := Lib.hid hdone
        have HE := Lib.hid (And.intro e1 (And.intro e2 (And.intro e3 e4)))
        clear e1 e2 e3 e4 e5 hok hC2 hf1 hf2 hf3 hf4 hf5 hdone ht3 hb2 hsF
        obtain ⟨b0, b1, b2c⟩ := box3 HS.out 3 rfl
        go_wp2_with fail
        refine (c_putK HS.out 0 rfl (right_len2 HC.out.inv) x.f0 x.f1 x.f2 HE.out.1 HE.out.2.1 HE.out.2.2.1 HE.out.2.2.2).mono ?_
        rintro e wp ⟨A4, c4, B4, d4, rfl, hs⟩
        have HS := Lib.hid hs
        clear hs b0 b1 b2c
        go_wp2_with fail
        refine (d_sizeL HS.out 4 rfl (Nat.le_trans (rightB_len HF5.out) (by omega)) (right_good HF5.out)).mono ?_
        rintro e wq ⟨rfl, hd⟩
        have HS := Lib.hid (HS.out.below hd.below)
        clear hd
        rw [HSF.out]
        obtain ⟨b0, b1, b2c⟩ := box3 HS.out 3 rfl
        have hneq : (!(t2 == N) == (t2 == N)) = false := by cases (t2 == N) <;> rfl
        rcases hcase with ⟨rfl, rfl⟩ | ⟨rfl, hx2, rfl⟩ | ⟨rfl, hx2, rfl⟩
        all_goals
          first | rw [hx2] at b2c | skip
          have hdo := HDO.out
          first | rw [Bool.true_and] at hdo | rw [Bool.false_and] at hdo
          have HDX := Lib.hid hdo
          clear hdo
          go_wp2_with fail
          refine (c_doneK HS.out 0 rfl HDX.out).mono ?_
          rintro e w' ⟨rfl, rfl⟩
          clear b0 b1 b2c
          obtain ⟨b9, hb9⟩ : ∃ b9, ((j : Int) % 3 == 1) = b9 := ⟨_, rfl⟩
          cases b9
          all_goals
            go_wp2
            go_roundw
            case rel => exact ⟨j + 1, _, _, _, _, _, _, _, _, HL9.out, by go_num, rfl, rfl, HT2, HB2, HC2, HTD2, Lib.hid (HS.out.pick [0, 1, 2] (by decide))⟩
            case measure => simp [intOf]; omega
end Go.Proofs.Ytdlgocieecfpbaa.Q
