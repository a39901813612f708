/- The walk of the statement HolesOnce: whatever the script: true, and all memory stays as it was. No condition. -/
import Derived.Test.YtdlgocieecfpbaaO
namespace Go.Proofs.Ytdlgocieecfpbaa.Q
open Go.RowKit Go.Proofs.YtdlgocieecfpbaaW.PrintWords Go.Proofs.YtdlgocieecfpbaaW.PrintLast Go.Proofs.YtdlgocieecfpbaaW.PrintMore Go.Proofs.Ytdlgocieecfpbaa.SL
theorem three_cells {w : World} {p : Nat} {x y z : Value} {t : TypeId} {f : Nat × Nat} (h : w.heap[p]? = some (.cells #[x, y, z] t f)) : w.cell? ⟨p, 0, none⟩ = some x ∧ w.cell? ⟨p, 1, none⟩ = some y ∧ w.cell? ⟨p, 2, none⟩ = some z :=
  ⟨cell_of_row w p 0 _ _ _ h, cell_of_row w p 1 _ _ _ h, cell_of_row w p 2 _ _ _ h⟩
theorem right_len2 {T : Int → Bool} {l : List Sp} {en : Int} (h : Inv T l en) : l.length ≤ 2000000 := Nat.le_trans (rightB_len h.right) (by omega)
theorem box3 {w0 w : World} {Γ : List Ob} (h : St w0 w Γ) (i : Nat) {b : Nat} {x y z : Value} {t : TypeId} (hi : Γ[i]? = some (obB b #[x, y, z] t)) : w.cell? ⟨b, 0, none⟩ = some x ∧ w.cell? ⟨b, 1, none⟩ = some y ∧ w.cell? ⟨b, 2, none⟩ = some z := three_cells (h.get i hi)
set_option maxHeartbeats 4000000 in
set_option maxRecDepth 100000 in
theorem once_calls (A0 : Option Addr) (c0 : Nat) (ps : List S33) (w : World) (hp : Kd.C k33 w A0 ps.length ps) :
    Calls Try.prog 4 #[.slice A0 ps.length c0] w fun e w' => e = .returned (.bool true) ∧ Below w.heap.size w w' := by
  have hu := Try.underlying50
  have hu3 := Try.underlying33
  have hpl : ps.length ≤ 9223372036854775807 := hp.2.1
  have HP := Lib.hid hp
  clear hp
  have HS := Lib.hid (St.nil w)
  go_enter Try.func4, Try.ntmps4
  go_wp2_with fail
  refine (c_new HS.out).mono ?_
  rintro e w1 ⟨p, A, c, rfl, hs⟩
  have HS := Lib.hid hs
  clear hs 
  go_wp2_with fail
  refine (known_calls _).mono ?_
  rintro e wk ⟨rfl, hb⟩
  have HS2 := Lib.hid (St.own0 (HS.out.below hb))
  clear hb HS
  go_wp2_with fail
  go_loopw [4, 5] (fun v i wr => ∃ (k : Nat) (T : Int → Bool) (l : List Sp) (en : Int) (A : Option Addr) (c : Nat) (al : List Sp), k ≤ ps.length ∧ k ≤ 200 ∧ i = .int .i64 k ∧ Hid (Inv T l en) ∧ Hid (All T al k) ∧ Hid (St w wr [obH p A c l en, obO v al])) (fun _ i _ => 200 - (intOf i).toNat)
  case atStart => exact ⟨0, _, _, _, _, _, _, Nat.zero_le _, by omega, rfl, Lib.hid Inv.start, Lib.hid All.start, HS2⟩
  case round =>
    obtain ⟨k, T, l, en, A, c, al, hk1, hk2, rfl, HI, HA, HS⟩ := hrel
    clear HS2
    by_cases hk : k < ps.length ∧ k < 200
    · obtain ⟨hka, hkb⟩ := hk
      obtain ⟨Aa, ca, hv, _⟩ := St.reads HS.out 1 rfl
      subst hv
      have hkz : (k : Int) < (ps.length : Int) := by omega
      have hkz2 : (k : Int) < 200 := by omega
      have hall := HA.out.len
      obtain ⟨ad, hAd, h0, h1, h2⟩ := at_T33 HP.out (k : Int) (by omega) hkz
      generalize rd_T33 ps (k : Int) = x at h0 h1 h2
      rw [Int.toNat_natCast] at h0 h1 h2
      subst hAd
      have hx : (en != en) = false := by simp
      go_wp2_with fail
      refine (c_holes HS.out 0 rfl (right_len2 HI.out)).mono ?_
      rintro e w2 ⟨B1, d1, rfl, hs⟩
      have HS := Lib.hid hs
      clear hs 
      go_wp2_with fail
      refine (c_end HS.out 0 rfl).mono ?_
      rintro e w' ⟨rfl, rfl⟩
      have l0 := pw_cell_below HS.out.bl h0
      have l1 := pw_cell_below HS.out.bl h1
      have l2 := pw_cell_below HS.out.bl h2
      have HB := Lib.hid (HS.out.box #[.int .i64 x.f0, .int .i64 x.f1, .bool x.f2] 33)
      clear h0 h1 h2
      cases hok : mayA l en x.f0 x.f1 x.f2 with
      | false =>
        have e1 : freshP l en x.f0 x.f1 x.f2 = [] := if_neg (by rw [hok]; simp)
        have e2 : errP l en x.f0 x.f1 x.f2 = 1 := if_neg (by rw [hok]; simp)
        have e3 : leftP l en x.f0 x.f1 x.f2 = l := if_neg (by rw [hok]; simp)
        have e4 : endP l en x.f0 x.f1 x.f2 = en := if_neg (by rw [hok]; simp)
        have HE := Lib.hid (And.intro e1 (And.intro e2 (And.intro e3 e4)))
        clear e1 e2 e3 e4 hok
        go_wp2_with fail
        refine (c_putK HB.out 0 rfl (right_len2 HI.out) x.f0 x.f1 x.f2 HE.out.1 HE.out.2.1 HE.out.2.2.1 HE.out.2.2.2).mono ?_
        rintro e w4 ⟨A2, c2, B2, d2, rfl, hs⟩
        have HS := Lib.hid hs
        clear hs HB l0 l1 l2
        go_wp2_with fail
        refine (c_holes HS.out 0 rfl (right_len2 HI.out)).mono ?_
        rintro e w5 ⟨B3, d3, rfl, hs⟩
        have HS := Lib.hid hs
        clear hs 
        go_wp2_with fail
        refine (c_sameK HS.out 5 2 rfl rfl (Nat.le_trans (right_len2 HI.out) (by omega))).mono ?_
        rintro e w6 ⟨rfl, hs⟩
        have HS := Lib.hid hs
        clear hs 
        go_wp2_with fail
        refine (c_end HS.out 0 rfl).mono ?_
        rintro e w' ⟨rfl, rfl⟩
        have HS4 := Lib.hid (HS.out.pick [0, 1] (by decide))
        have HA2 := Lib.hid HA.out.more
        go_wp2
        go_roundw
        case rel => exact ⟨k + 1, _, _, _, _, _, _, by omega, by omega, by go_num, HI, HA2, HS4⟩
        case measure => simp [intOf]; omega
      | true =>
        have hO := once_of HI.out HA.out hok
        have hI2 := HI.out.next x.f0 x.f1 x.f2
        have e2 : errP l en x.f0 x.f1 x.f2 = 0 := if_pos hok
        obtain ⟨F, e1⟩ : ∃ F, freshP l en x.f0 x.f1 x.f2 = F := ⟨_, rfl⟩
        obtain ⟨L2, e3⟩ : ∃ F, leftP l en x.f0 x.f1 x.f2 = F := ⟨_, rfl⟩
        obtain ⟨E2, e4⟩ : ∃ F, endP l en x.f0 x.f1 x.f2 = F := ⟨_, rfl⟩
        obtain ⟨T2, e5⟩ : ∃ F, putT T l en x.f0 x.f1 x.f2 = F := ⟨_, rfl⟩
        have hFr := freshP_right HI.out.right en x.f0 x.f1 x.f2
        rw [e1] at hFr
        rw [e1, e3, e4, e5] at hO
        rw [e3, e4, e5] at hI2
        obtain ⟨r1, r2, r3⟩ := hO.rng
        have hFl := rightB_len hFr
        have hLl := rightB_len hI2.right
        have hlen2 := hI2.len
        have HO := Lib.hid hO
        have HI2 := Lib.hid hI2
        have HF := Lib.hid hFr
        have HE := Lib.hid (And.intro e1 (And.intro e2 (And.intro e3 e4)))
        clear e1 e2 e3 e4 e5 hok hO hI2 hFr
        go_wp2_with fail
        refine (c_putK HB.out 0 rfl (right_len2 HI.out) x.f0 x.f1 x.f2 HE.out.1 HE.out.2.1 HE.out.2.2.1 HE.out.2.2.2).mono ?_
        rintro e w8 ⟨A2, c2, B2, d2, rfl, hs⟩
        have HS := Lib.hid hs
        clear hs HB l0 l1 l2
        go_wp2_with fail
        refine (c_holes HS.out 0 rfl (right_len2 HI2.out)).mono ?_
        rintro e w9 ⟨B3, d3, rfl, hs⟩
        have HS := Lib.hid hs
        clear hs 
        go_wp2_with fail
        refine (c_right HS.out 4 rfl HF.out).mono ?_
        rintro e w10 ⟨rfl, hs⟩
        have HS := Lib.hid hs
        clear hs 
        go_wp2_with fail
        refine (c_right HS.out 5 rfl HI2.out.right).mono ?_
        rintro e w11 ⟨rfl, hs⟩
        have HS := Lib.hid hs
        clear hs 
        obtain ⟨b0, b1, b2⟩ := box3 HS.out 3 rfl
        go_wp2_with fail
        refine (c_within HS.out 4 rfl HO.out.w).mono ?_
        rintro e w12 ⟨rfl, hs⟩
        have HS := Lib.hid hs
        clear hs b0 b1 b2
        go_wp2_with fail
        refine (c_meetsO HS.out 4 1 rfl rfl (by omega) (by omega) HO.out.m1).mono ?_
        rintro e w13 ⟨rfl, hs⟩
        have HS := Lib.hid hs
        clear hs 
        go_wp2_with fail
        refine (c_meetsL HS.out 5 4 rfl rfl (by omega) (by omega) HO.out.m2).mono ?_
        rintro e w14 ⟨rfl, hs⟩
        have HS := Lib.hid hs
        clear hs 
        go_wp2_with ((with_reducible refine gate_builtin (b := .append) (xs := #[.tmp 99, .tmp 100]) rfl ?_); at_builtin; go_must (refine Kd.R_append_rows k50 (Rr := k50.K w) (w0 := w) 0 rfl (.tmp 99) (.tmp 100) 30 50 (.agg #[.int .i64 0, .int .i64 0]) 16 rfl Try.underlying30 infoS rfl (by decide) (by decide) _ al F B2 F.length d2 (fun _ => True) (fun _ => False) (by first | (go_simp; done) | (go_simp; rfl)) (by first | (go_simp; done) | (go_simp; rfl)) (HS.out.get 1 rfl) (HS.out.get 4 rfl).1 (fun x cs h => K_M x cs h) (fun _ h => h.elim) (fun _ _ => trivial) (HS.out.bl.mono (Nat.zero_le _)) (Nat.zero_le _) (by omega) ?_); intro v1 w9 hR1 hB1 hg1 hat1; have HS := Lib.hid (St.grow HS.out 1 rfl hR1 hg1 hat1); clear hR1 hB1 hg1 hat1)
        obtain ⟨G, hG⟩ : ∃ G, al ++ F = G := ⟨_, rfl⟩
        have hO2 := HO.out
        have hs := HS.out
        rw [hG] at hs
        obtain ⟨_, _, _, o3, o4, o5, o6, o7, _⟩ := hO2
        rw [hG] at o3 o4 o5
        obtain ⟨Ab, cb, hv, _⟩ := St.reads hs 1 rfl
        subst hv
        have hGl := o4.len
        have HS := Lib.hid hs
        have HM := Lib.hid o3
        have HA2 := Lib.hid o4
        have HSz := Lib.hid o5
        have HEN := Lib.hid (And.intro o6 o7)
        clear hs hG o3 o4 o5 o6 o7 HO
        go_wp2_with fail
        refine (c_end HS.out 0 rfl).mono ?_
        rintro e w' ⟨rfl, rfl⟩
        by_cases he : E2 < 0
        all_goals
          have hsz := HSz.out
          unfold lim at hsz
          first | rw [if_pos he] at hsz | rw [if_neg he] at hsz
          have hs1 : IntKind.i64.wrap (sizeS G + sizeS L2) = _ := (IntWalk.i64_in _ (by omega)).trans hsz
          have hs2 : IntKind.i64.wrap (x.f0 + x.f1) = x.f0 + x.f1 := IntWalk.i64_in _ (by omega)
          have hE2 : (E2 != E2) = false := by simp
          have hd : ∃ b, doneA L2 E2 = b ∧ ((E2 < 0 ∧ b = false) ∨ (0 ≤ E2 ∧ b = ((L2.length : Int) == 0))) := ⟨_, rfl, by rw [doneA_eq]; by_cases h : E2 < 0; exact .inl ⟨h, by rw [decide_eq_false (by omega)]; rfl⟩; exact .inr ⟨by omega, by rw [decide_eq_true (by omega)]; rfl⟩⟩
          obtain ⟨bd, hd1, hd2⟩ := hd
          have HD := Lib.hid (And.intro hd1 hd2)
          clear hsz hd1 hd2
          obtain ⟨b0, b1, b2⟩ := box3 HS.out 3 rfl
          cases hm : x.f2
          all_goals
            rw [hm] at b2
            first | (have hm1 : (E2 != x.f0 + x.f1) = false := by rw [bne_eq_false_iff_eq]; exact HEN.out.1 hm) | skip
            first | (have hm2 : (E2 != en) = false := by rw [bne_eq_false_iff_eq]; exact HEN.out.2 hm) | skip
            clear hm
            go_wp2_with fail
            go_quiet (first | (go_at_call 23; refine quiet_d (d_sizeO (HS.out.drewN _) 1 rfl (by omega) HA2.out.good)) | (go_at_call 23; refine quiet_d (d_sizeL (HS.out.drewN _) 5 rfl (by omega) (right_good HI2.out.right))) | (go_at_call 22; refine quiet_d (d_meets (HS.out.drewN _) 1 5 rfl rfl (by omega) (by omega) HM.out)) | (go_at_call 16; refine quiet_s (c_end (HS.out.drewN _) 0 rfl)))
            go_wp2_with fail
            refine (c_doneK (HS.out.drewN _) 0 rfl HD.out.1).mono ?_
            rintro e w' ⟨rfl, rfl⟩
            go_wp2_with fail
            refine (c_end (HS.out.drewN _) 0 rfl).mono ?_
            rintro e w' ⟨rfl, rfl⟩
            have hz : (!((L2.length : Int) == 0) == ((L2.length : Int) == 0)) = false := by cases ((L2.length : Int) == 0) <;> rfl
            rcases HD.out.2 with ⟨hx1, rfl⟩ | ⟨hx1, rfl⟩
            all_goals first
              | (exfalso; omega)
              | (go_wp2
                 go_roundw
                 case rel => exact ⟨k + 1, _, _, _, _, _, _, by omega, by omega, by go_num, HI2, HA2, Lib.hid ((HS.out.drewN _).pick [0, 1] (by decide))⟩
                 case measure => simp [intOf]; omega)
    · have hkz : (ps.length : Int) ≤ (k : Int) ∨ ((k : Int) < (ps.length : Int) ∧ (200 : Int) ≤ (k : Int)) := by omega
      clear hk
      rcases hkz with hkz | ⟨hkz, hkz2⟩
      all_goals
        go_wp2
        go_ret
        exact ⟨rfl, HS.out.bl⟩
end Go.Proofs.Ytdlgocieecfpbaa.Q
