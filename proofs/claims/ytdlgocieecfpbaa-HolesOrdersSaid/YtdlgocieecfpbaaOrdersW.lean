/- The walk of the statement HolesOrders: whatever the script and the order: true, and all memory stays as it was. No condition but the numbers' own range. -/
import Derived.Test.YtdlgocieecfpbaaU
import Derived.Test.YtdlgocieecfpbaaSK
namespace Go.Proofs.Ytdlgocieecfpbaa.Q
open Go.RowKit Go.Proofs.YtdlgocieecfpbaaW.PrintWords Go.Proofs.YtdlgocieecfpbaaW.PrintLast Go.Proofs.YtdlgocieecfpbaaW.PrintMore Go.Proofs.Ytdlgocieecfpbaa.SL
attribute [local go_sem ↓] Go.wp_at_zero Go.wp_at_succ
theorem flatP : Flat k33 := fun w w' base ok x cs h => by
  obtain rfl := k33_open h
  exact k33_mkM w' base ok x
theorem mkP {w : World} {base : Nat} {ok : Nat → Prop} (x : Pc) : k33.M w base ok x [.int .i64 x.f0, .int .i64 x.f1, .bool x.f2] := k33_mkM w base ok x
theorem infoP : (Try.prog.info? 33).map (fun i => (i.zero, i.size, i.bytes)) = some (some (.agg #[.int .i64 0, .int .i64 0, .bool false]), 3, 24) := by kernel_rfl
theorem infoP' : ∃ i, Try.prog.info? 33 = some i ∧ i.size = 3 := by
  obtain ⟨i0, hi, hzz⟩ := Option.map_eq_some_iff.1 infoP
  simp only [Prod.mk.injEq] at hzz
  exact ⟨i0, hi, hzz.2.1⟩
theorem right_len2 {T : Int → Bool} {l : List Sp} {en : Int} (h : Inv T l en) : l.length ≤ 2000000 := Nat.le_trans (rightB_len h.right) (by omega)
theorem rdP (l : List Pc) (i : Nat) (h : i < l.length) : rd_T33 l (i : Int) = l[i] := by
  simp [rd_T33, List.getD_eq_getElem?_getD, List.getElem?_eq_getElem h]
theorem cellsP {w : World} {A : Option Addr} {l : List Pc} (h : k33.C w A l.length l) (i : Nat) (hi : i < l.length) : ∃ ad, A = some ad ∧ w.cell? (ad.add (i * 3)) = some (.int .i64 l[i].f0) ∧ w.cell? ⟨(ad.add (i * 3)).block, (ad.add (i * 3)).off + 1, none⟩ = some (.int .i64 l[i].f1) ∧ w.cell? ⟨(ad.add (i * 3)).block, (ad.add (i * 3)).off + 2, none⟩ = some (.bool l[i].f2) := by
  obtain ⟨ad, hA, h0, h1, h2⟩ := at_T33 h (i : Int) (by omega) (by omega)
  rw [rdP l i hi, Int.toNat_natCast] at h0 h1 h2
  exact ⟨ad, hA, h0, h1, h2⟩
theorem cells3 {w0 w : World} {Γ : List Ob} (h : St w0 w Γ) (i : Nat) {ad : Addr} {n c : Nat} {xs : List Pc} (hi : Γ[i]? = some (obW k33 33 flatP (.slice (some ad) n c) xs)) {r : Nat} (hr : r < xs.length) {x : Pc} (hx : xs[r] = x) :
    w.cell? (ad.add (r * 3)) = some (.int .i64 x.f0) ∧ w.cell? ⟨(ad.add (r * 3)).block, (ad.add (r * 3)).off + 1, none⟩ = some (.int .i64 x.f1) ∧ w.cell? ⟨(ad.add (r * 3)).block, (ad.add (r * 3)).off + 2, none⟩ = some (.bool x.f2) := by
  obtain ⟨ad', hA, h0⟩ := cellsP (h.readW i hi) r hr
  obtain rfl := Option.some.inj hA
  rw [hx] at h0
  exact h0
theorem mem_without {α : Type} (R : List α) (r : Nat) (h : r < R.length) (q : α) : q ∈ R ↔ q = R[r] ∨ q ∈ R.take r ++ R.drop (r + 1) := by
  have e : R = R.take r ++ R[r] :: R.drop (r + 1) := by rw [← List.drop_eq_getElem_cons h, List.take_append_drop]
  constructor
  · intro hq
    rw [e] at hq
    rcases List.mem_append.1 hq with hq | hq
    · exact .inr (List.mem_append.2 (.inl hq))
    · rcases List.mem_cons.1 hq with hq | hq
      · exact .inl hq
      · exact .inr (List.mem_append.2 (.inr hq))
  · rintro (rfl | hq)
    · exact List.getElem_mem h
    · rcases List.mem_append.1 hq with hq | hq
      · exact List.mem_of_mem_take hq
      · exact List.mem_of_mem_drop hq
set_option maxHeartbeats 16000000 in
set_option maxRecDepth 100000 in
theorem orders_calls (A0 A1 : Option Addr) (c0 c1 : Nat) (ps : List Pc) (qs : List Int) (w : World) (hp : k33.C w A0 ps.length ps) (ha : ReadsInt w .i64 A1 qs.length qs) :
    Calls Try.prog 5 #[.slice A0 ps.length c0, .slice A1 qs.length c1] w fun e w' => e = .returned (.bool true) ∧ Below w.heap.size w w' := by
  have hu := Try.underlying50
  have hu3 := Try.underlying33
  have hpl : ps.length ≤ 9223372036854775807 := hp.2.1
  have hal : qs.length ≤ 9223372036854775807 := ha.2.1
  have HP := Lib.hid hp
  have HA := Lib.hid ha
  clear hp ha
  have HS := Lib.hid (St.nil w)
  go_enter Try.func5, Try.ntmps5
  go_wp2_with fail
  refine (c_new HS.out).mono ?_
  rintro e w1 ⟨p, A, c, rfl, hs⟩
  have HS := Lib.hid hs
  clear hs 
  go_wp2_with fail
  refine (c_new HS.out).mono ?_
  rintro e w2 ⟨p2, A2, c2, rfl, hs⟩
  have HS := Lib.hid hs
  clear hs 
  go_wp2_with fail
  refine (known_calls _).mono ?_
  rintro e wk ⟨rfl, hb⟩
  have HS2 := Lib.hid ((HS.out.below hb).newW (e := 33) flatP)
  clear hb HS
  go_wp2_with fail
  go_loopw [7, 8] (fun v i wr => ∃ (k : Nat) (T : Int → Bool) (l : List Sp) (en : Int) (A : Option Addr) (c : Nat) (L : List Pc), k ≤ ps.length ∧ k ≤ 200 ∧ L.length ≤ k ∧ i = .int .i64 k ∧ Hid (Inv T l en) ∧ Hid (StOf T en L) ∧ Hid (Cons L) ∧ Hid (St w wr [obH p A c l en, obH p2 A2 c2 [⟨0, 65535⟩] (-1), obW k33 33 flatP v L])) (fun _ i _ => 200 - (intOf i).toNat)
  case atStart => exact ⟨0, _, _, _, _, _, _, Nat.zero_le _, by omega, Nat.le_refl _, rfl, Lib.hid Inv.start, Lib.hid StOf.start, Lib.hid Cons.nil, HS2⟩
  case round =>
    obtain ⟨k, T, l, en, A, c, L, hk1, hk2, hkL, rfl, HI, HT, HC, HS⟩ := hrel
    clear HS2
    by_cases hk : k < ps.length ∧ k < 200
    · obtain ⟨hka, hkb⟩ := hk
      have hkz : (k : Int) < (ps.length : Int) := by omega
      have hkz2 : (k : Int) < 200 := by omega
      obtain ⟨ad, hAd, h0, h1, h2⟩ := cellsP HP.out k hka
      generalize ps[k] = x at h0 h1 h2
      subst hAd
      have l0 := pw_cell_below HS.out.bl h0
      have l1 := pw_cell_below HS.out.bl h1
      have l2 := pw_cell_below HS.out.bl h2
      have HH := Lib.hid (And.intro h0 (And.intro h1 h2))
      clear h0 h1 h2
      cases hok : mayA l en x.f0 x.f1 x.f2 with
      | false =>
        have e1 : freshP l en x.f0 x.f1 x.f2 = [] := if_neg (by rw [hok]; simp)
        have e2 : errP l en x.f0 x.f1 x.f2 = 1 := if_neg (by rw [hok]; simp)
        have e3 : leftP l en x.f0 x.f1 x.f2 = l := if_neg (by rw [hok]; simp)
        have e4 : endP l en x.f0 x.f1 x.f2 = en := if_neg (by rw [hok]; simp)
        have HE := Lib.hid (And.intro e1 (And.intro e2 (And.intro e3 e4)))
        clear e1 e2 e3 e4 hok
        go_wp2_with fail
        go_region_held3 (fun w' => w'.cell? (ad.add (k * 3)) = some (.int .i64 x.f0) ∧ w'.cell? ⟨(ad.add (k * 3)).block, (ad.add (k * 3)).off + 1, none⟩ = some (.int .i64 x.f1) ∧ w'.cell? ⟨(ad.add (k * 3)).block, (ad.add (k * 3)).off + 2, none⟩ = some (.bool x.f2)) (first | exact ⟨l0, l1, l2⟩ | exact ⟨pw_cell_below HS.out.bl HH.out.1, pw_cell_below HS.out.bl HH.out.2.1, pw_cell_below HS.out.bl HH.out.2.2⟩)
          (first | (go_at_call 14; refine (c_putK HS.out.drew 0 rfl (right_len2 HI.out) x.f0 x.f1 x.f2 HE.out.1 HE.out.2.1 HE.out.2.2.1 HE.out.2.2.2).mono ?_; rintro e w' ⟨A3, c3, B3, d3, rfl, hs⟩; have HS := Lib.hid hs; clear hs l0 l1 l2))
        go_wp2
        go_roundw
        case rel => exact ⟨k + 1, _, _, _, _, _, _, by omega, by omega, by omega, by go_num, HI, HT, HC, Lib.hid (HS.out.pick [0, 1, 2] (by decide))⟩
        case measure => simp [intOf]; omega
      | true =>
        have hI2 := HI.out.next x.f0 x.f1 x.f2
        have hT2 := HT.out.next HI.out hok
        have hC2 := cons_snoc HI.out HT.out HC.out hok
        have e2 : errP l en x.f0 x.f1 x.f2 = 0 := if_pos hok
        obtain ⟨F, e1⟩ : ∃ F, freshP l en x.f0 x.f1 x.f2 = F := ⟨_, rfl⟩
        obtain ⟨L2, e3⟩ : ∃ F, leftP l en x.f0 x.f1 x.f2 = F := ⟨_, rfl⟩
        obtain ⟨E2, e4⟩ : ∃ F, endP l en x.f0 x.f1 x.f2 = F := ⟨_, rfl⟩
        obtain ⟨T2, e5⟩ : ∃ F, putT T l en x.f0 x.f1 x.f2 = F := ⟨_, rfl⟩
        rw [e3, e4, e5] at hI2
        rw [e4, e5] at hT2
        have HI2 := Lib.hid hI2
        have HT2 := Lib.hid hT2
        have HC2 := Lib.hid hC2
        have HE := Lib.hid (And.intro e1 (And.intro e2 (And.intro e3 e4)))
        clear e1 e2 e3 e4 e5 hok hI2 hT2 hC2
        go_wp2_with fail
        go_region_held3 (fun w' => w'.cell? (ad.add (k * 3)) = some (.int .i64 x.f0) ∧ w'.cell? ⟨(ad.add (k * 3)).block, (ad.add (k * 3)).off + 1, none⟩ = some (.int .i64 x.f1) ∧ w'.cell? ⟨(ad.add (k * 3)).block, (ad.add (k * 3)).off + 2, none⟩ = some (.bool x.f2)) (first | exact ⟨l0, l1, l2⟩ | exact ⟨pw_cell_below HS.out.bl HH.out.1, pw_cell_below HS.out.bl HH.out.2.1, pw_cell_below HS.out.bl HH.out.2.2⟩)
          (first | (go_at_call 14; refine (c_putK HS.out.drew 0 rfl (right_len2 HI.out) x.f0 x.f1 x.f2 HE.out.1 HE.out.2.1 HE.out.2.2.1 HE.out.2.2.2).mono ?_; rintro e w' ⟨A3, c3, B3, d3, rfl, hs⟩; have HS := Lib.hid hs; clear hs l0 l1 l2))
        have l0 := pw_cell_below HS.out.bl HH.out.1
        have l1 := pw_cell_below HS.out.bl HH.out.2.1
        have l2 := pw_cell_below HS.out.bl HH.out.2.2
        go_wp2_with ((with_reducible refine gate_builtin (b := .append) (xs := #[.tmp 59, .tmp 64]) rfl ?_); at_builtin; go_must (refine Kd.R_append k33 (w0 := w) 0 rfl (.tmp 59) (.tmp 64) 22 33 (.agg #[.int .i64 0, .int .i64 0, .bool false]) 24 rfl Try.underlying22 infoP rfl (by decide) (by decide) _ L x [.int .i64 _, .int .i64 _, .bool _] (fun _ => True) (fun _ => False) (by first | (go_simp; done) | (go_simp; rfl)) (by first | (go_simp; done) | (go_simp; rfl)) (mkP x) (fun _ h => h.elim) (fun _ _ => trivial) (HS.out.get 2 rfl) (HS.out.bl.mono (Nat.zero_le _)) (Nat.zero_le _) (by omega) ?_); intro v1 w9 hR1 hB1 hg1 hat1; have HS := Lib.hid (HS.out.growW 2 rfl hR1 hg1 hat1); clear hR1 hB1 hg1 hat1)
        go_roundw
        case rel => exact ⟨k + 1, _, _, _, _, _, L ++ [x], by omega, by omega, by rw [List.length_append, List.length_singleton]; omega, by go_num, HI2, HT2, HC2, Lib.hid (HS.out.pick [0, 1, 2] (by decide))⟩
        case measure => simp [intOf]; omega
    · have hkz : (ps.length : Int) ≤ (k : Int) ∨ ((k : Int) < (ps.length : Int) ∧ (200 : Int) ≤ (k : Int)) := by omega
      clear hk
      have hLz : L.length ≤ 200 := by omega
      rcases hkz with hkz | ⟨hkz, hkz2⟩
      all_goals
        go_wp2_with fail
        go_loopw [7, 11] (fun v i wr => ∃ (j : Nat) (R M : List Pc) (U : Int → Bool) (m : List Sp) (fn : Int) (B : Option Addr) (d : Nat), j + R.length = L.length ∧ i = .int .i64 j ∧ Hid (∀ p, p ∈ L ↔ p ∈ M ∨ p ∈ R) ∧ Hid (Inv U m fn) ∧ Hid (StOf U fn M) ∧ Hid (St w wr [obH p A c l en, obH p2 B d m fn, obW k33 33 flatP v R])) (fun _ i _ => L.length - (intOf i).toNat)
        case atStart => exact ⟨0, L, [], _, _, _, _, _, by omega, rfl, Lib.hid (fun p => by simp), Lib.hid Inv.start, Lib.hid StOf.start, HS⟩
        case round =>
          clear HS hkz
          obtain ⟨j, R, M, U, m, fn, B, d, hj, rfl, HM, HJ, HU, HS⟩ := hrel
          obtain ⟨Al, cl, hv, hcl, _⟩ := HS.out.readsW 2 rfl
          subst hv
          have hjz : (j : Int) + (R.length : Int) = (L.length : Int) := by omega
          rcases Nat.eq_zero_or_pos R.length with hR0 | hR0
          · have hRn : R = [] := List.length_eq_zero_iff.1 hR0
            subst hRn
            obtain ⟨e1, e2⟩ := StOf.same HI.out HJ.out HT.out HU.out HC.out (fun p => by rw [HM.out p]; simp)
            subst e1
            subst e2
            clear hj hjz hcl
            go_wp2_with fail
            refine (c_holes HS.out 0 rfl (right_len2 HI.out)).mono ?_
            rintro e w3 ⟨B1, d1, rfl, hs⟩
            have HS := Lib.hid hs
            clear hs 
            go_wp2_with fail
            refine (c_holes HS.out 1 rfl (right_len2 HI.out)).mono ?_
            rintro e w4 ⟨B2, d2, rfl, hs⟩
            have HS := Lib.hid hs
            clear hs 
            go_wp2_with fail
            refine (c_sameK HS.out 3 4 rfl rfl (Nat.le_trans (right_len2 HI.out) (by omega))).mono ?_
            rintro e w5 ⟨rfl, hs⟩
            have HS := Lib.hid hs
            clear hs 
            go_wp2_with fail
            refine (c_end HS.out 0 rfl).mono ?_
            rintro e w' ⟨rfl, rfl⟩
            go_wp2_with fail
            refine (c_end HS.out 1 rfl).mono ?_
            rintro e w' ⟨rfl, rfl⟩
            go_wp2_with fail
            refine (c_done HS.out 0 rfl).mono ?_
            rintro e w' ⟨rfl, rfl⟩
            go_wp2_with fail
            refine (c_done HS.out 1 rfl).mono ?_
            rintro e w' ⟨rfl, rfl⟩
            go_wp2
            go_ret
            exact ⟨rfl, HS.out.bl⟩
          · obtain ⟨n, hn⟩ : ∃ n, R.length = n + 1 := ⟨R.length - 1, by omega⟩
            have hnz : (n : Int) ≤ 200 := by omega
            have hjz2 : (j : Int) ≤ 200 := by omega
            have HJJ := Lib.hid hj
            clear hj hjz hR0
            by_cases hq : j < qs.length
            · have hqz : (j : Int) < (qs.length : Int) := by omega
              obtain ⟨ad1, hA1, g0⟩ := HA.out.at_ (j : Int) (by omega) hqz
              have g1 := pw_cell_below HS.out.bl g0
              rw [Int.toNat_natCast] at g1
              have HA1 := Lib.hid hA1
              generalize rd qs (j : Int) = y at g1
              subst hA1
              clear g0
              obtain ⟨r, hrn, hr⟩ := rest_eval y n (by have := HJJ.out; omega)
              have HRR := Lib.hid hr
              clear hr
              go_wp2_with fail
              refine (mosaiclaw13_rest.calls y n r _ HRR.out).mono ?_
              rintro e w6 ⟨rfl, hd⟩
              have HS := Lib.hid (HS.out.below hd.below)
              clear hd g1
              have hrl : r < R.length := by omega
              obtain ⟨x, hx⟩ : ∃ x, R[r] = x := ⟨_, rfl⟩
              obtain ⟨ad2, hA2, _⟩ := cellsP (HS.out.readW 2 rfl) r hrl
              subst hA2
              have hxm : x ∈ R := by rw [← hx]; exact List.getElem_mem _
              have hc0 := cells3 HS.out 2 rfl hrl hx
              have hok := may_of_cons HJ.out HU.out (HC.out.sub (M := M ++ [x]) (fun q hq => by
                rcases mem_snoc.1 hq with h | rfl
                · exact (HM.out q).2 (.inl h)
                · exact (HM.out q).2 (.inr hxm)))
              have hI2 := HJ.out.next x.f0 x.f1 x.f2
              have hT2 := HU.out.next HJ.out hok
              have e2 : errP m fn x.f0 x.f1 x.f2 = 0 := if_pos hok
              obtain ⟨F, e1⟩ : ∃ F, freshP m fn x.f0 x.f1 x.f2 = F := ⟨_, rfl⟩
              obtain ⟨L2, e3⟩ : ∃ F, leftP m fn x.f0 x.f1 x.f2 = F := ⟨_, rfl⟩
              obtain ⟨E2, e4⟩ : ∃ F, endP m fn x.f0 x.f1 x.f2 = F := ⟨_, rfl⟩
              obtain ⟨T2, e5⟩ : ∃ F, putT U m fn x.f0 x.f1 x.f2 = F := ⟨_, rfl⟩
              rw [e3, e4, e5] at hI2
              rw [e4, e5] at hT2
              have HI2 := Lib.hid hI2
              have HT2 := Lib.hid hT2
              have HX := Lib.hid hx
              have HE := Lib.hid (And.intro e1 (And.intro e2 (And.intro e3 e4)))
              have hM2 : ∀ q, q ∈ L ↔ q ∈ M ++ [x] ∨ q ∈ R.take r ++ R.drop (r + 1) := fun q => by
                have h1 := mem_without R r hrl q
                rw [hx] at h1
                rw [HM.out q, h1, mem_snoc, or_assoc]
              have HM2 := Lib.hid hM2
              obtain ⟨l0, l1, l2⟩ := hc0
              have hrz : (r : Int) < (n : Int) + 1 := by omega
              have hrz2 : (r : Int) < ((n + 1 : Nat) : Int) := by omega
              have hrz3 : (0 : Int) ≤ (r : Int) := by omega
              have hrz4 : r < n + 1 := by omega
              clear e1 e2 e3 e4 e5 hok hI2 hT2 hx hM2 hxm
              go_wp2_with fail
              go_region_held3 (fun w' => w'.cell? (ad2.add (r * 3)) = some (.int .i64 x.f0) ∧ w'.cell? ⟨(ad2.add (r * 3)).block, (ad2.add (r * 3)).off + 1, none⟩ = some (.int .i64 x.f1) ∧ w'.cell? ⟨(ad2.add (r * 3)).block, (ad2.add (r * 3)).off + 2, none⟩ = some (.bool x.f2)) (first | exact ⟨l0, l1, l2⟩ | exact cells3 HS.out 2 rfl hrl HX.out)
                (first | (go_at_call 14; refine (c_putK HS.out.drew 1 rfl (right_len2 HJ.out) x.f0 x.f1 x.f2 HE.out.1 HE.out.2.1 HE.out.2.2.1 HE.out.2.2.2).mono ?_; rintro e w7 ⟨A3, c3, B3, d3, rfl, hs⟩; have HS := Lib.hid hs; clear hs l0 l1 l2))
              rename_i w7 sf
              clear sf
              have hC := HS.out.readW 2 rfl
              obtain ⟨i0, hi0, hi1⟩ := infoP'
              have hs1 := cut_to (P := Try.prog) 22 33 .i64 Try.underlying22 hi0 (some ad2) R.length cl (r : Int) (by omega) (by omega) hcl
              have hs2 := cut_from (P := Try.prog) 22 33 .i64 Try.underlying22 hi0 k33.sz (show i0.size = k33.sz from hi1) (some ad2) R.length cl ((r : Int) + 1) (by omega) (by omega)
              have hCt := Kd.C_take hC (Nat.le_of_lt hrl)
              have hCd := Kd.C_drop hC (show r + 1 ≤ R.length from hrl) hcl
              have htl : (R.take r).length = r := by rw [List.length_take]; omega
              have hdl : (R.drop (r + 1)).length = R.length - (r + 1) := List.length_drop
              have hri : ((r : Int) + 1).toNat = r + 1 := by omega
              rw [htl] at hCt
              rw [hri] at hs2
              have hAD : ∃ AD, (if cl = r + 1 then some ad2 else (some ad2).map (·.add ((r + 1) * k33.sz))) = AD := ⟨_, rfl⟩
              obtain ⟨AD, hAD⟩ := hAD
              have hCd2 := hCd
              rw [hdl, hAD] at hCd2
              rw [hAD] at hs2
              rw [Int.toNat_natCast] at hs1
              rw [hn] at hs1 hs2 hCd2
              have hwr : IntKind.i64.wrap ((r : Int) + 1) = (r : Int) + 1 := IntWalk.i64_in _ (by omega)
              have HCT := Lib.hid hCt
              have HCD := Lib.hid hCd2
              clear hC hCt hCd hCd2 htl hdl hri hAD hi0 hi1
              go_wp2_with fail
              go_region_law ((first | (refine Kd.R_append_rows_step k33 (Rr := k33.K _) (w0 := w7.drew) w7.heap.size rfl (.tmp 111) (.tmp 115) 22 33 (.agg #[.int .i64 0, .int .i64 0, .bool false]) 24 rfl Try.underlying22 infoP rfl (by decide) (by decide) v1 ([] ++ R.take r) (R.drop (r + 1)) AD (n + 1 - (r + 1)) (cl - (r + 1)) (fun _ => True) (fun _ => False) (by first | (go_simp; done) | (go_simp; rfl)) (by first | (go_simp; done) | (go_simp; rfl)) hR1 (Kd.C_below (Kd.C_below HCD.out (Below.refl _ _).drew) hB1) (fun x cs h => flatP _ _ _ _ x cs h) (fun _ h => h.elim) (fun _ _ => trivial) hB1 hB1.size (by simp; omega) ?_; intro v2 w9 hR2 hB2 hg2 hat2) | (refine Kd.R_append_rows_step k33 (Rr := k33.K _) (w0 := w7.drew) w7.heap.size rfl (.const (.slice none 0 0)) (.tmp 110) 22 33 (.agg #[.int .i64 0, .int .i64 0, .bool false]) 24 rfl Try.underlying22 infoP rfl (by decide) (by decide) (.slice none 0 0) [] (R.take r) (some ad2) r cl (fun _ => True) (fun _ => False) (by rfl) (by first | (go_simp; done) | (go_simp; rfl)) (Kd.R_nil k33 33 _ _ _) (Kd.C_below HCT.out (Below.refl _ _).drew) (fun x cs h => flatP _ _ _ _ x cs h) (fun _ h => h.elim) (fun _ _ => trivial) (Below.refl _ _) (Nat.le_refl _) (by simp; omega) ?_; intro v1 w8 hR1 hB1 hg1 hat1)))
              rw [List.nil_append] at hR2
              have HS9 := Lib.hid ((HS.out.drew.anewW 2 rfl hB2 hR2).pick [0, 1, 2] (by decide))
              have hlen : j + 1 + (R.take r ++ R.drop (r + 1)).length = L.length := by
                have := HJJ.out
                rw [List.length_append, List.length_take, List.length_drop]
                omega
              have HL9 := Lib.hid hlen
              have hmeas : (j : Int) < (L.length : Int) := by have := HJJ.out; omega
              clear hR2 hB2 hg2 hat2 hR1 hB1 hg1 hat1 hlen hs1 hs2 hwr
              go_wp2
              go_roundw
              case rel => exact ⟨j + 1, _, M ++ [x], _, _, _, _, _, HL9.out, by go_num, HM2, HI2, HT2, HS9⟩
              case measure => simp [intOf]; omega
            · have hqz : (qs.length : Int) ≤ (j : Int) := by omega
              obtain ⟨r, hrn, hre⟩ : ∃ r : Nat, r ≤ n ∧ r = n := ⟨n, Nat.le_refl _, rfl⟩
              subst hre
              have hrl : r < R.length := by omega
              obtain ⟨x, hx⟩ : ∃ x, R[r] = x := ⟨_, rfl⟩
              obtain ⟨ad2, hA2, _⟩ := cellsP (HS.out.readW 2 rfl) r hrl
              subst hA2
              have hxm : x ∈ R := by rw [← hx]; exact List.getElem_mem _
              have hc0 := cells3 HS.out 2 rfl hrl hx
              have hok := may_of_cons HJ.out HU.out (HC.out.sub (M := M ++ [x]) (fun q hq => by
                rcases mem_snoc.1 hq with h | rfl
                · exact (HM.out q).2 (.inl h)
                · exact (HM.out q).2 (.inr hxm)))
              have hI2 := HJ.out.next x.f0 x.f1 x.f2
              have hT2 := HU.out.next HJ.out hok
              have e2 : errP m fn x.f0 x.f1 x.f2 = 0 := if_pos hok
              obtain ⟨F, e1⟩ : ∃ F, freshP m fn x.f0 x.f1 x.f2 = F := ⟨_, rfl⟩
              obtain ⟨L2, e3⟩ : ∃ F, leftP m fn x.f0 x.f1 x.f2 = F := ⟨_, rfl⟩
              obtain ⟨E2, e4⟩ : ∃ F, endP m fn x.f0 x.f1 x.f2 = F := ⟨_, rfl⟩
              obtain ⟨T2, e5⟩ : ∃ F, putT U m fn x.f0 x.f1 x.f2 = F := ⟨_, rfl⟩
              rw [e3, e4, e5] at hI2
              rw [e4, e5] at hT2
              have HI2 := Lib.hid hI2
              have HT2 := Lib.hid hT2
              have HX := Lib.hid hx
              have HE := Lib.hid (And.intro e1 (And.intro e2 (And.intro e3 e4)))
              have hM2 : ∀ q, q ∈ L ↔ q ∈ M ++ [x] ∨ q ∈ R.take r ++ R.drop (r + 1) := fun q => by
                have h1 := mem_without R r hrl q
                rw [hx] at h1
                rw [HM.out q, h1, mem_snoc, or_assoc]
              have HM2 := Lib.hid hM2
              obtain ⟨l0, l1, l2⟩ := hc0
              have hrz : (r : Int) < (r : Int) + 1 := by omega
              have hrz2 : (r : Int) < ((r + 1 : Nat) : Int) := by omega
              have hrz3 : (0 : Int) ≤ (r : Int) := by omega
              have hrz4 : r < r + 1 := by omega
              clear e1 e2 e3 e4 e5 hok hI2 hT2 hx hM2 hxm
              go_wp2_with fail
              go_region_held3 (fun w' => w'.cell? (ad2.add (r * 3)) = some (.int .i64 x.f0) ∧ w'.cell? ⟨(ad2.add (r * 3)).block, (ad2.add (r * 3)).off + 1, none⟩ = some (.int .i64 x.f1) ∧ w'.cell? ⟨(ad2.add (r * 3)).block, (ad2.add (r * 3)).off + 2, none⟩ = some (.bool x.f2)) (first | exact ⟨l0, l1, l2⟩ | exact cells3 HS.out 2 rfl hrl HX.out)
                (first | (go_at_call 14; refine (c_putK HS.out.drew 1 rfl (right_len2 HJ.out) x.f0 x.f1 x.f2 HE.out.1 HE.out.2.1 HE.out.2.2.1 HE.out.2.2.2).mono ?_; rintro e w7 ⟨A3, c3, B3, d3, rfl, hs⟩; have HS := Lib.hid hs; clear hs l0 l1 l2))
              rename_i w7 sf
              clear sf
              have hC := HS.out.readW 2 rfl
              obtain ⟨i0, hi0, hi1⟩ := infoP'
              have hs1 := cut_to (P := Try.prog) 22 33 .i64 Try.underlying22 hi0 (some ad2) R.length cl (r : Int) (by omega) (by omega) hcl
              have hs2 := cut_from (P := Try.prog) 22 33 .i64 Try.underlying22 hi0 k33.sz (show i0.size = k33.sz from hi1) (some ad2) R.length cl ((r : Int) + 1) (by omega) (by omega)
              have hCt := Kd.C_take hC (Nat.le_of_lt hrl)
              have hCd := Kd.C_drop hC (show r + 1 ≤ R.length from hrl) hcl
              have htl : (R.take r).length = r := by rw [List.length_take]; omega
              have hdl : (R.drop (r + 1)).length = R.length - (r + 1) := List.length_drop
              have hri : ((r : Int) + 1).toNat = r + 1 := by omega
              rw [htl] at hCt
              rw [hri] at hs2
              have hAD : ∃ AD, (if cl = r + 1 then some ad2 else (some ad2).map (·.add ((r + 1) * k33.sz))) = AD := ⟨_, rfl⟩
              obtain ⟨AD, hAD⟩ := hAD
              have hCd2 := hCd
              rw [hdl, hAD] at hCd2
              rw [hAD] at hs2
              rw [Int.toNat_natCast] at hs1
              rw [hn] at hs1 hs2 hCd2
              have hwr : IntKind.i64.wrap ((r : Int) + 1) = (r : Int) + 1 := IntWalk.i64_in _ (by omega)
              have HCT := Lib.hid hCt
              have HCD := Lib.hid hCd2
              clear hC hCt hCd hCd2 htl hdl hri hAD hi0 hi1
              go_wp2_with fail
              go_region_law ((first | (refine Kd.R_append_rows_step k33 (Rr := k33.K _) (w0 := w7.drew) w7.heap.size rfl (.tmp 111) (.tmp 115) 22 33 (.agg #[.int .i64 0, .int .i64 0, .bool false]) 24 rfl Try.underlying22 infoP rfl (by decide) (by decide) v1 ([] ++ R.take r) (R.drop (r + 1)) AD (r + 1 - (r + 1)) (cl - (r + 1)) (fun _ => True) (fun _ => False) (by first | (go_simp; done) | (go_simp; rfl)) (by first | (go_simp; done) | (go_simp; rfl)) hR1 (Kd.C_below (Kd.C_below HCD.out (Below.refl _ _).drew) hB1) (fun x cs h => flatP _ _ _ _ x cs h) (fun _ h => h.elim) (fun _ _ => trivial) hB1 hB1.size (by simp; omega) ?_; intro v2 w9 hR2 hB2 hg2 hat2) | (refine Kd.R_append_rows_step k33 (Rr := k33.K _) (w0 := w7.drew) w7.heap.size rfl (.const (.slice none 0 0)) (.tmp 110) 22 33 (.agg #[.int .i64 0, .int .i64 0, .bool false]) 24 rfl Try.underlying22 infoP rfl (by decide) (by decide) (.slice none 0 0) [] (R.take r) (some ad2) r cl (fun _ => True) (fun _ => False) (by rfl) (by first | (go_simp; done) | (go_simp; rfl)) (Kd.R_nil k33 33 _ _ _) (Kd.C_below HCT.out (Below.refl _ _).drew) (fun x cs h => flatP _ _ _ _ x cs h) (fun _ h => h.elim) (fun _ _ => trivial) (Below.refl _ _) (Nat.le_refl _) (by simp; omega) ?_; intro v1 w8 hR1 hB1 hg1 hat1)))
              rw [List.nil_append] at hR2
              have HS9 := Lib.hid ((HS.out.drew.anewW 2 rfl hB2 hR2).pick [0, 1, 2] (by decide))
              have hlen : j + 1 + (R.take r ++ R.drop (r + 1)).length = L.length := by
                have := HJJ.out
                rw [List.length_append, List.length_take, List.length_drop]
                omega
              have HL9 := Lib.hid hlen
              have hmeas : (j : Int) < (L.length : Int) := by have := HJJ.out; omega
              clear hR2 hB2 hg2 hat2 hR1 hB1 hg1 hat1 hlen hs1 hs2 hwr
              go_wp2
              go_roundw
              case rel => exact ⟨j + 1, _, M ++ [x], _, _, _, _, _, HL9.out, by go_num, HM2, HI2, HT2, HS9⟩
              case measure => simp [intOf]; omega
end Go.Proofs.Ytdlgocieecfpbaa.Q
