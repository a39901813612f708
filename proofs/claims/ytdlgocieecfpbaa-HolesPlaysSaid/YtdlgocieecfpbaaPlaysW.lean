/- The walk of the statement HolesPlays: whatever the script: true, and all memory stays as it was. No condition. -/
import Derived.Test.YtdlgocieecfpbaaK
namespace Go.Proofs.Ytdlgocieecfpbaa.Q
open Go.RowKit Go.Proofs.YtdlgocieecfpbaaW.PrintWords Go.Proofs.YtdlgocieecfpbaaW.PrintLast Go.Proofs.YtdlgocieecfpbaaW.PrintMore Go.Proofs.Ytdlgocieecfpbaa.SL
theorem three_cells {w : World} {p : Nat} {x y z : Value} {t : TypeId} {f : Nat × Nat} (h : w.heap[p]? = some (.cells #[x, y, z] t f)) : w.cell? ⟨p, 0, none⟩ = some x ∧ w.cell? ⟨p, 1, none⟩ = some y ∧ w.cell? ⟨p, 2, none⟩ = some z :=
  ⟨cell_of_row w p 0 _ _ _ h, cell_of_row w p 1 _ _ _ h, cell_of_row w p 2 _ _ _ h⟩
theorem right_len2 {T : Int → Bool} {l : List Sp} {en : Int} (h : Inv T l en) : l.length ≤ 2000000 := Nat.le_trans (rightB_len h.right) (by omega)
theorem freshP_len {l : List Sp} (h : rightB l = true) (en off n : Int) (more : Bool) : (freshP l en off n more).length ≤ 100000000 := Nat.le_trans (rightB_len (freshP_right h en off n more)) (by omega)
set_option maxHeartbeats 4000000 in
set_option maxRecDepth 100000 in
theorem plays_calls (A0 A1 : Option Addr) (c0 c1 : Nat) (ps : List S33) (qs : List Int) (w : World) (hp : Kd.C k33 w A0 ps.length ps) (ha : ReadsInt w .i64 A1 qs.length qs) :
    Calls Try.prog 3 #[.slice A0 ps.length c0, .slice A1 qs.length c1] w fun e w' => e = .returned (.bool true) ∧ Below w.heap.size w w' := by
  have hu := Try.underlying50
  have hu3 := Try.underlying33
  have hpl : ps.length ≤ 9223372036854775807 := hp.2.1
  have hal : qs.length ≤ 9223372036854775807 := ha.2.1
  have HP := Lib.hid hp
  have HA := Lib.hid ha
  clear hp ha
  have HS := Lib.hid (St.nil w)
  go_enter Try.func3, Try.ntmps3
  go_wp2_with fail
  refine (c_new HS.out).mono ?_
  rintro e w1 ⟨p, A, c, rfl, hs⟩
  have HS := Lib.hid hs
  clear hs
  go_wp2_with fail
  refine (c_rnew HS.out).mono ?_
  rintro e w2 ⟨q, t, rfl, hs⟩
  have HS := Lib.hid hs
  clear hs
  go_wp2_with fail
  refine (known_calls _).mono ?_
  rintro e wk ⟨rfl, hb⟩
  have HS := Lib.hid (HS.out.below hb)
  clear hb
  go_wp2_with fail
  refine (c_holes HS.out 0 rfl (by decide)).mono ?_
  rintro e w3 ⟨B1, d1, rfl, hs⟩
  have HS := Lib.hid hs
  clear hs
  go_wp2_with fail
  refine (c_rholes HS.out 1 rfl Inv.start RInv.start).mono ?_
  rintro e w4 ⟨B2, d2, rfl, hs⟩
  have HS := Lib.hid hs
  clear hs
  go_wp2_with fail
  refine (c_sameK HS.out 2 3 rfl rfl (by decide)).mono ?_
  rintro e w5 ⟨rfl, hs⟩
  have HS := Lib.hid hs
  clear hs
  have HS2 := Lib.hid (HS.out.pick [0, 1] (by decide))
  clear HS
  go_wp2_with fail
  go_loopw [7] (fun i wr => ∃ (k : Nat) (T : Int → Bool) (l : List Sp) (en : Int) (A : Option Addr) (c : Nat) (bits : List Bool) (ends top : Int), k ≤ ps.length ∧ k ≤ 200 ∧ i = .int .i64 k ∧ Hid (Inv T l en) ∧ Hid (RInv T bits en ends top) ∧ Hid (St w wr [obH p A c l en, obR q t bits ends top])) (fun i _ => 200 - (intOf i).toNat)
  case atStart => exact ⟨0, _, _, _, _, _, _, _, _, Nat.zero_le _, by omega, rfl, Lib.hid Inv.start, Lib.hid RInv.start, HS2⟩
  case round =>
    obtain ⟨k, T, l, en, A, c, bits, ends, top, hk1, hk2, rfl, HI, HJ, HS⟩ := hrel
    clear HS2
    by_cases hk : k < ps.length ∧ k < 200
    · obtain ⟨hka, hkb⟩ := hk
      have hkz : (k : Int) < (ps.length : Int) := by omega
      have hkz2 : (k : Int) < 200 := by omega
      obtain ⟨ad, hA, h0, h1, h2⟩ := at_T33 HP.out (k : Int) (by omega) hkz
      have l0 := pw_cell_below HS.out.bl h0
      have l1 := pw_cell_below HS.out.bl h1
      have l2 := pw_cell_below HS.out.bl h2
      generalize rd_T33 ps (k : Int) = x at l0 l1 l2
      rw [Int.toNat_natCast] at l0 l1 l2
      subst hA
      clear h0 h1 h2
      have HI2 := Lib.hid (HI.out.next x.f0 x.f1 x.f2)
      have hx : (errP l en x.f0 x.f1 x.f2 != errP l en x.f0 x.f1 x.f2) = false := by simp
      have hy : (endP l en x.f0 x.f1 x.f2 != endP l en x.f0 x.f1 x.f2) = false := by simp
      have HB := Lib.hid (HS.out.box #[.int .i64 x.f0, .int .i64 x.f1, .bool x.f2] 33)
      go_wp2_with fail
      refine (c_put HB.out 0 rfl (right_len2 HI.out) x.f0 x.f1 x.f2).mono ?_
      rintro e w6 ⟨A2, c2, B1, d1, rfl, hs⟩
      have HS := Lib.hid hs
      clear hs
      clear HB l0 l1 l2
      obtain ⟨b0, b1, b2⟩ := three_cells (HS.out.get 2 rfl)
      go_wp2_with fail
      refine (c_rput HS.out 1 rfl HI.out HJ.out x.f0 x.f1 x.f2).mono ?_
      rintro e w7 ⟨bits2, ends2, top2, B2, d2, rfl, hJ2, hs⟩
      have HS := Lib.hid hs
      have HJ2 := Lib.hid hJ2
      clear hs hJ2 b0 b1 b2
      go_wp2_with fail
      refine (c_sameK HS.out 3 4 rfl rfl (freshP_len HI.out.right _ _ _ _)).mono ?_
      rintro e w8 ⟨rfl, hs⟩
      have HS := Lib.hid hs
      clear hs
      go_wp2_with fail
      refine (c_end HS.out 0 rfl).mono ?_
      rintro e w' ⟨rfl, rfl⟩
      go_wp2_with fail
      refine (c_rend HS.out 1 rfl HI2.out HJ2.out).mono ?_
      rintro e w' ⟨rfl, rfl⟩
      have HS3 := Lib.hid (HS.out.pick [0, 1] (by decide))
      clear HS hx hy
      by_cases hq : k < qs.length
      · have hqz : (k : Int) < (qs.length : Int) := by omega
        obtain ⟨ad1, hA1, g0⟩ := HA.out.at_ (k : Int) (by omega) hqz
        have g1 := pw_cell_below HS3.out.bl g0
        rw [Int.toNat_natCast] at g1
        subst hA1
        clear g0
        generalize rd qs (k : Int) = y at g1
        by_cases hy1 : y = 1
        · have hy2 : (y == 1) = true := by rw [beq_iff_eq]; exact hy1
          clear hy1
          have hz : (!doneA (leftP l en x.f0 x.f1 x.f2) (endP l en x.f0 x.f1 x.f2) == doneA (leftP l en x.f0 x.f1 x.f2) (endP l en x.f0 x.f1 x.f2)) = false := by cases doneA (leftP l en x.f0 x.f1 x.f2) (endP l en x.f0 x.f1 x.f2) <;> rfl
          have HS := HS3
          go_wp2_with fail
          refine (c_holes HS.out 0 rfl (right_len2 HI2.out)).mono ?_
          rintro e w11 ⟨B3, d3, rfl, hs⟩
          have HS := Lib.hid hs
          clear hs
          go_wp2_with fail
          refine (c_rholes HS.out 1 rfl HI2.out HJ2.out).mono ?_
          rintro e w12 ⟨B4, d4, rfl, hs⟩
          have HS := Lib.hid hs
          clear hs
          go_wp2_with fail
          refine (c_sameK HS.out 2 3 rfl rfl (Nat.le_trans (right_len2 HI2.out) (by omega))).mono ?_
          rintro e w13 ⟨rfl, hs⟩
          have HS := Lib.hid hs
          clear hs
          go_wp2_with fail
          refine (c_done HS.out 0 rfl).mono ?_
          rintro e w' ⟨rfl, rfl⟩
          go_wp2_with fail
          refine (c_rdone HS.out 1 rfl HI2.out HJ2.out).mono ?_
          rintro e w15 ⟨rfl, hs⟩
          have HS := Lib.hid hs
          clear hs
          have HS4 := Lib.hid (HS.out.pick [0, 1] (by decide))
          go_wp2
          go_roundw
          case rel => exact ⟨k + 1, _, _, _, _, _, _, _, _, by omega, by omega, by go_num, HI2, HJ2, HS4⟩
          case measure => simp [intOf]; omega
        · have hy2 : (y == 1) = false := by rw [beq_eq_false_iff_ne]; exact hy1
          clear hy1
          have HS4 := HS3
          go_wp2
          go_roundw
          case rel => exact ⟨k + 1, _, _, _, _, _, _, _, _, by omega, by omega, by go_num, HI2, HJ2, HS4⟩
          case measure => simp [intOf]; omega
      · have hqz : (qs.length : Int) ≤ (k : Int) := by omega
        have HS4 := HS3
        go_wp2
        go_roundw
        case rel => exact ⟨k + 1, _, _, _, _, _, _, _, _, by omega, by omega, by go_num, HI2, HJ2, HS4⟩
        case measure => simp [intOf]; omega
    · have hkz : (ps.length : Int) ≤ (k : Int) ∨ ((k : Int) < (ps.length : Int) ∧ (200 : Int) ≤ (k : Int)) := by omega
      clear hk
      rcases hkz with hkz | ⟨hkz, hkz2⟩
      all_goals
        go_wp2_with fail
        refine (c_holes HS.out 0 rfl (right_len2 HI.out)).mono ?_
        rintro e w17 ⟨B3, d3, rfl, hs⟩
        have HS := Lib.hid hs
        clear hs
        go_wp2_with fail
        refine (c_rholes HS.out 1 rfl HI.out HJ.out).mono ?_
        rintro e w18 ⟨B4, d4, rfl, hs⟩
        have HS := Lib.hid hs
        clear hs
        go_wp2_with fail
        refine (c_sameK HS.out 2 3 rfl rfl (Nat.le_trans (right_len2 HI.out) (by omega))).mono ?_
        rintro e w19 ⟨rfl, hs⟩
        have HS := Lib.hid hs
        clear hs
        go_wp2_with fail
        refine (c_done HS.out 0 rfl).mono ?_
        rintro e w' ⟨rfl, rfl⟩
        go_wp2_with fail
        refine (c_rdone HS.out 1 rfl HI.out HJ.out).mono ?_
        rintro e w21 ⟨rfl, hs⟩
        have HS := Lib.hid hs
        clear hs
        go_wp2_with fail
        refine (c_end HS.out 0 rfl).mono ?_
        rintro e w' ⟨rfl, rfl⟩
        go_wp2_with fail
        refine (c_rend HS.out 1 rfl HI.out HJ.out).mono ?_
        rintro e w' ⟨rfl, rfl⟩
        go_wp2
        go_ret
        exact ⟨rfl, HS.out.bl⟩
end Go.Proofs.Ytdlgocieecfpbaa.Q
