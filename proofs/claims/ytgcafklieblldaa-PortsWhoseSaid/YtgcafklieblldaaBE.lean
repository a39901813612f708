/- The walk of the statement PortsMemory. No condition but sizes. -/
import Derived.Test.YtgcafklieblldaaBD
import Derived.BigQuiet
namespace Go.Proofs.Ytgcafklieblldaa.SL
open Go.RowKit Go.Proofs.YtgcafklieblldaaW.PrintWords Go.Proofs.YtgcafklieblldaaW.PrintLast Go.Proofs.YtgcafklieblldaaW.PrintMore
theorem size32 (s : Int) : ∃ m : Nat, bits .and .i64 s 31 = (m : Int) ∧ m ≤ 31 ∧ wrap64 (1 + (m : Int)) = 1 + (m : Int) := by
  have h : ((BitVec.ofInt 64 s &&& BitVec.ofInt 64 31).toNat) ≤ 31 := by
    rw [BitVec.toNat_and]
    exact Nat.and_le_right
  refine ⟨(BitVec.ofInt 64 s &&& BitVec.ofInt 64 31).toNat, ?_, h, by simp only [wrap64]; omega⟩
  show IntKind.i64.wrap ((BitVec.ofInt 64 s &&& BitVec.ofInt 64 31).toNat : Int) = _
  rw [IntKind.wrap_i64]
  omega
section
variable {w0 w : World} {Γ : List Ob} {p : Nat} {v : Value} {most g : Int} {l : List Bd}
theorem c_allK (h : St w0 w Γ) (i : Nat) (hi : Γ[i]? = some (obT p v most g l)) {X : List Int} (hX : nums l = X) (hl : l.length ≤ 32) :
    Calls Try.prog 12 #[.pointer (some ⟨p, 0, none⟩)] w fun e w' => ∃ A c, e = .returned (.slice A X.length c) ∧ St w0 w' (Γ ++ [obI (.slice A X.length c) X]) := by
  subst hX
  have e : (nums l).length = l.length := by simp [nums]
  rw [e]
  exact c_all h i hi (by omega)
theorem cellIC {A : Option Addr} {n : Nat} {l : List Int} (hC : kI.C w A n l) (hn : n = l.length) (i : Nat) (hi : i < l.length) {x : Int} (hx : l.getD i 0 = x) : ∃ ad, A = some ad ∧ w.cell? (ad.add i) = some (.int .i64 x) := by
  subst hn hx
  obtain ⟨ad, c, hA, _, hK, hc⟩ := Kd.C_get hC 0 (i : Int) (by omega) (by omega)
  obtain rfl : c = [.int .i64 (l.getD (i : Int).toNat 0)] := hK
  rw [Int.toNat_natCast] at hc
  have := hc 0 _ rfl
  exact ⟨ad, hA, by simpa [Kd.int, Kd.scalar] using this⟩
end
theorem rep_getD (n m : Nat) (x : Int) (h : m < n) : (List.replicate n x).getD m 0 = x := by
  simp [List.getD_eq_getElem?_getD, h]
theorem rep_app (n m k : Nat) (x y : Int) (h : m < n) : (List.replicate n x ++ List.replicate k y).getD m 0 = x := by
  rw [List.getD_eq_getElem?_getD, List.getElem?_append_left (by simpa using h)]
  simp [h]
theorem rep_mid (n k : Nat) (x y : Int) (h : 0 < k) : (List.replicate n x ++ List.replicate k y).getD n 0 = y := by
  rw [List.getD_eq_getElem?_getD, List.getElem?_append_right (by simp)]
  simp [h]
theorem sizI : (Try.prog.info? 3).map (·.size) = some 1 := by kernel_rfl
theorem szI : 0 < kI.sz := by decide
attribute [-go_sem] loadVar
attribute [local go_sem] lv3 lv59
set_option maxHeartbeats 4000000 in
set_option maxRecDepth 100000 in
theorem memory_calls (size : Int) (A : Option Addr) (c : Nat) (s : List OpT) (w : World) (h0 : kO.C w A s.length s) (hsz : s.length ≤ 3000000000000) :
    Calls Try.prog 3 #[.int .i64 size, .slice A s.length c] w fun e w' => e = .returned (.bool true) ∧ Below w.heap.size w w' := by
  have HA : Hid (∀ k, k < s.length → ∃ ad, A = some ad ∧ OpAt w ad k (s.getD k zO)) := Lib.hid fun k hk => op_at h0 k hk
  have HS : Hid (St w w []) := Lib.hid (St.nil w)
  have hbig : s.length ≤ 9223372036854775807 := by omega
  have HZ := Lib.hid hsz
  obtain ⟨m, hm, hm31, hmw⟩ := size32 size
  have HM := Lib.hid hm31
  clear hsz h0 hm31
  go_enter Try.func3, Try.ntmps3
  go_wp2_with (first | (go_at_call 7; refine (alive_calls _).mono ?_; rintro e w1 ⟨rfl, hs⟩; replace HS := Lib.hid (HS.out.below hs); clear hs) | (go_at_call 8; refine (c_new HS.out (1 + (m : Int)) (by omega) (by have := HM.out; omega)).mono ?_; rintro e w1 ⟨p, rfl, hs⟩; replace HS := Lib.hid hs; clear hs) | (go_at_call 10; refine (c_four HS.out _).mono ?_; rintro e w1 ⟨rfl, hs⟩; replace HS := Lib.hid hs; clear hs) | (go_at_call 9; refine (c_bind HS.out 0 rfl (by decide) (by decide) (by decide) (fA 1) 0).mono ?_; rintro e w1 ⟨v1, rfl, hs⟩; replace HS := Lib.hid hs; clear hs))
  have HQ : Hid (Sz (1 + (m : Int)) (bindS (1 + (m : Int)) 0 [] (fA 1) 0).g (bindS (1 + (m : Int)) 0 [] (fA 1) 0).l (0 + 1)) := Lib.hid ((Sz.mk (by have := HM.out; omega) (by decide) (by decide) (by decide) : Sz (1 + (m : Int)) 0 [] 0).bind (fA 1) 0)
  clear hm hmw
  go_loopw [7] (fun i wr => ∃ (k : Nat) (v : Value) (g : Int) (l : List Bd), k ≤ s.length ∧ i = .int .i64 k ∧ Hid (Sz (1 + (m : Int)) g l (k + 1)) ∧ Hid (St w wr [obT p v (1 + (m : Int)) g l])) (fun i _ => s.length - (intOf i).toNat)
  case atStart => exact ⟨0, _, _, _, Nat.zero_le _, rfl, HQ, HS⟩
  case round =>
    obtain ⟨k, v, g, l, hk, rfl, HQ2, HS2⟩ := hrel
    clear HS HQ
    by_cases hlt : k < s.length
    · have hltz : (k : Int) < (s.length : Int) := by omega
      obtain ⟨ad, rfl, hop⟩ := HA.out k hlt
      have HH := Lib.hid hop
      have hop2 := hop.below HS2.out.bl
      clear hop
      generalize s.getD k zO = x at HH hop2
      obtain ⟨o0, o1, o2, o3⟩ := hop2
      by_cases hk1 : x.k = 1
      · have b1 : (x.k == 1) = true := by simpa using hk1
        have hLD : ∀ W : World, W.rangeAt (ad.add (k * 20)).block ((ad.add (k * 20)).off + 3) (aL x.a) → (loadVar 32 ⟨(ad.add (k * 20)).block, (ad.add (k * 20)).off + 3, none⟩).run Try.prog W = .ok (.agg (aV x.a)) W := fun W h => lvA h
        have HQ3 := Lib.hid (HQ2.out.bind x.a x.n)
        have HL := Lib.hid o3
        clear hk1 o3
        go_wp2_with fail
        go_region_held3 (fun W => W.cell? ⟨(ad.add (k * 20)).block, (ad.add (k * 20)).off + 2, none⟩ = some (.int .i64 x.n) ∧ W.rangeAt (ad.add (k * 20)).block ((ad.add (k * 20)).off + 3) (aL x.a)) (first | exact ⟨o2, HL.out⟩ | exact ⟨(HH.out.below HS.out.bl).2.2.1, (HH.out.below HS.out.bl).2.2.2⟩) (first | (go_at_call 9; refine (c_bind HS2.out.drew 0 rfl HQ2.out.g0 (by have := HQ2.out.g1; have := HZ.out; omega) (Nat.le_trans HQ2.out.l (by decide)) x.a x.n).mono ?_; rintro e w1 ⟨v1, rfl, hs⟩; have HS := Lib.hid hs; clear hs))
        go_wp2_with fail
        go_roundw
        case rel => exact ⟨k + 1, _, _, _, by omega, by go_num, HQ3, HS⟩
        case measure => simp [intOf]; omega
      · have b1 : (x.k == 1) = false := by simpa using hk1
        by_cases hk4 : x.k = 4
        · have b4 : (x.k == 4) = true := by simpa using hk4
          have HQ3 := Lib.hid ((HQ2.out.close x.n).up (Nat.le_succ _))
          clear hk1 hk4 o3
          go_wp2_with (go_at_call 11; refine (c_close HS2.out 0 rfl x.n).mono ?_; rintro e w1 ⟨v1, rfl, hs⟩; have HS := Lib.hid hs; clear hs)
          go_roundw
          case rel => exact ⟨k + 1, _, _, _, by omega, by go_num, HQ3, HS⟩
          case measure => simp [intOf]; omega
        · have b4 : (x.k == 4) = false := by simpa using hk4
          have HQ3 := Lib.hid (HQ2.out.up (Nat.le_succ _))
          clear hk1 hk4 o3
          go_wp2_with fail
          go_roundw
          case rel => exact ⟨k + 1, _, _, _, by omega, by go_num, HQ3, HS2⟩
          case measure => simp [intOf]; omega
    · have hltz : ¬ (k : Int) < (s.length : Int) := by omega
      clear hk hlt
      have HS := HS2
      clear HS2
      obtain ⟨X, hX⟩ : ∃ X, nums l = X := ⟨_, rfl⟩
      have HX := Lib.hid (And.intro hX (And.intro HQ2.out.l (show X.length ≤ 32 by rw [← hX]; simpa [nums] using HQ2.out.l)))
      have hX32 : (X.length : Int) ≤ 32 := by have := HX.out.2.2; omega
      clear hX HQ2
      go_wp2_with (first | (go_at_call 12; refine (c_allK (Γ := [_]) HS.out 0 rfl HX.out.1 HX.out.2.1).mono ?_; rintro e w1 ⟨A1, c1, rfl, hs⟩; replace HS := Lib.hid hs; clear hs) | (go_at_call 12; refine (c_allK (Γ := [_, _]) HS.out 0 rfl HX.out.1 HX.out.2.1).mono ?_; rintro e w1 ⟨A2, c2, rfl, hs⟩; replace HS := Lib.hid hs; clear hs) | (go_at_call 13; refine (c_same HS.out 1 2 rfl rfl (by have := HX.out.2.2; omega)).mono ?_; rintro e w1 ⟨rfl, hs⟩; replace HS := Lib.hid hs; clear hs) | (at_builtin; go_must (refine wpList_append_new_St kI flI HS.out rfl (.tmp 79) (.tmp 80) 37 (.int .i64 0) 8 rfl Try.underlying37 infoI rfl (by decide) (by decide) X A2 X.length c2 rfl rfl (HS.out.readW 2 rfl) (by have := HX.out.2.2; omega) ?_; rintro v3 w1 ⟨A3, c3, hv3⟩ HS3; subst hv3; replace HS := HS3; clear HS3)))
      have HS2 : Hid (St w _ [obT p v (1 + (m : Int)) g l, obI (.slice A1 X.length c1) (filled (-1) 0 X), obI (.slice A2 X.length c2) X, obI (.slice A3 X.length c3) X]) := Lib.hid HS.out
      clear HS
      go_loopw [11] (fun i wr => ∃ k : Nat, k ≤ X.length ∧ i = .int .i64 k ∧ Hid (St w wr [obT p v (1 + (m : Int)) g l, obI (.slice A1 X.length c1) (filled (-1) k X), obI (.slice A2 X.length c2) X, obI (.slice A3 X.length c3) X])) (fun i _ => X.length - (intOf i).toNat)
      case atStart => exact ⟨0, Nat.zero_le _, rfl, HS2⟩
      case round =>
        obtain ⟨k, hk, rfl, HS⟩ := hrel
        clear HS2
        by_cases hlt : k < X.length
        · have hltz : (k : Int) < (X.length : Int) := by omega
          have hfl := filled_len (-1 : Int) hk
          obtain ⟨gb, cb, hvb, _⟩ := HS.out.formW (hf := flI) 1 rfl (by rw [hfl]; omega)
          injection hvb with hA1 hA2 hA3
          subst hA1
          clear hA2 hA3 hfl
          go_wp2_with (refine gate_ (.store 3 (.tmp 90) (.const (.int .i64 (-1)))) rfl ?_; go_must (refine wpList_store_St kI HS.out 1 rfl rfl rfl 3 (.tmp 90) (.const (.int .i64 (-1))) rfl (k : Int) (by omega) hltz (-1) _ [.int .i64 (-1)] ?h1 rfl rfl sizI rfl rfl ?_))
          case h1 =>
            show Value.pointer (some ⟨gb, k, none⟩) = Value.pointer (some ⟨gb, k * 1, none⟩)
            rw [Nat.mul_one]
          intro w9 HS9
          clear HS
          go_wp2
          go_roundw
          case rel => exact ⟨k + 1, by omega, by go_num, Lib.hid (by
            have := HS9.out
            rw [Int.toNat_natCast, filled_step (-1) hlt] at this
            exact this)⟩
          case measure => simp [intOf]; omega
        · have hkx : k = X.length := by omega
          have hltz : ¬ (k : Int) < (X.length : Int) := by omega
          rw [hkx, filled_all] at HS
          clear hlt hk
          go_wp2_with fail
          have HS2 : Hid (St w _ [obT p v (1 + (m : Int)) g l, obTw kI 3 flI szI A1 c1 (List.replicate X.length (-1)) (.slice A1 X.length c1) (List.replicate X.length (-1) ++ List.replicate 0 (-2)), obI (.slice A2 X.length c2) X, obI (.slice A3 X.length c3) X]) := Lib.hid (by
            have := HS.out.toTw flI szI 1 rfl
            rw [List.replicate_zero, List.append_nil]
            exact this)
          clear HS
          go_loopw [12, 13] (fun u i wr => ∃ (k : Nat) (B : Option Addr) (b d : Nat), k ≤ 80 ∧ i = .int .i64 k ∧ u = .slice B b d ∧ Hid (b = X.length + k) ∧ Hid (St w wr [obT p v (1 + (m : Int)) g l, obTw kI 3 flI szI A1 c1 (List.replicate X.length (-1)) (.slice B b d) (List.replicate X.length (-1) ++ List.replicate k (-2)), obI (.slice A2 X.length c2) X, obI (.slice A3 X.length c3) X])) (fun _ i _ => 80 - (intOf i).toNat)
          case atStart => exact ⟨0, A1, X.length, c1, by omega, rfl, rfl, Lib.hid rfl, HS2⟩
          case round =>
            obtain ⟨k, B, b, d, hk, rfl, rfl, HB, HS⟩ := hrel
            clear HS2
            by_cases hlt : k < 80
            · have hltz : (k : Int) < 80 := by omega
              go_wp2_with (at_builtin; go_must (refine wpList_append_Tw kI HS.out 1 rfl rfl (.tmp 96) (.tmp 97) 37 (.int .i64 0) 8 rfl Try.underlying37 infoI rfl (by decide) (-2) [.int .i64 (-2)] rfl rfl rfl (by have := HX.out.2.2; simp; omega) ?_))
              intro v1 w9 HG HS9
              obtain ⟨B1, d1, hv1⟩ := HG.out.slice
              subst hv1
              clear HS HG
              go_wp2
              go_roundw
              case rel => exact ⟨k + 1, some B1, X.length + k + 1, d1, by omega, by go_num, rfl, Lib.hid (by omega), Lib.hid (by
                have := HS9.out
                rw [rep_snoc] at this
                exact this)⟩
              case measure => simp [intOf]; omega
            · obtain rfl : k = 80 := by omega
              clear hlt hk
              go_wp2_with (go_at_call 12; refine (c_allK (Γ := [_, _, _, _]) HS.out 0 rfl HX.out.1 HX.out.2.1).mono ?_; rintro e w1 ⟨A4, c4, rfl, hs⟩; replace HS := Lib.hid hs; clear hs)
              have HS2 : Hid (St w _ [obT p v (1 + (m : Int)) g l, obTw kI 3 flI szI A1 c1 (List.replicate X.length (-1)) (.slice B b d) (List.replicate X.length (-1) ++ List.replicate 80 (-2)), obI (.slice A2 X.length c2) (filled (-3) 0 X), obI (.slice A3 X.length c3) X, obI (.slice A4 X.length c4) X]) := Lib.hid HS.out
              clear HS
              go_loopw [15] (fun i wr => ∃ k : Nat, k ≤ X.length ∧ i = .int .i64 k ∧ Hid (St w wr [obT p v (1 + (m : Int)) g l, obTw kI 3 flI szI A1 c1 (List.replicate X.length (-1)) (.slice B b d) (List.replicate X.length (-1) ++ List.replicate 80 (-2)), obI (.slice A2 X.length c2) (filled (-3) k X), obI (.slice A3 X.length c3) X, obI (.slice A4 X.length c4) X])) (fun i _ => X.length - (intOf i).toNat)
              case atStart => exact ⟨0, Nat.zero_le _, rfl, HS2⟩
              case round =>
                obtain ⟨k, hk, rfl, HS⟩ := hrel
                clear HS2
                by_cases hlt : k < X.length
                · have hltz : (k : Int) < (X.length : Int) := by omega
                  have hfl := filled_len (-3 : Int) hk
                  obtain ⟨gb, cb, hvb, _⟩ := HS.out.formW (hf := flI) 2 rfl (by rw [hfl]; omega)
                  injection hvb with hA1 hA2 hA3
                  subst hA1
                  clear hA2 hA3 hfl
                  go_wp2_with (refine gate_ (.store 3 (.tmp 109) (.const (.int .i64 (-3)))) rfl ?_; go_must (refine wpList_store_St kI HS.out 2 rfl rfl rfl 3 (.tmp 109) (.const (.int .i64 (-3))) rfl (k : Int) (by omega) hltz (-3) _ [.int .i64 (-3)] ?h1 rfl rfl sizI rfl rfl ?_))
                  case h1 =>
                    show Value.pointer (some ⟨gb, k, none⟩) = Value.pointer (some ⟨gb, k * 1, none⟩)
                    rw [Nat.mul_one]
                  intro w9 HS9
                  clear HS
                  go_wp2
                  go_roundw
                  case rel => exact ⟨k + 1, by omega, by go_num, Lib.hid (by
                    have := HS9.out
                    rw [Int.toNat_natCast, filled_step (-3) hlt] at this
                    exact this)⟩
                  case measure => simp [intOf]; omega
                · have hkx : k = X.length := by omega
                  have hltz : ¬ (k : Int) < (X.length : Int) := by omega
                  rw [hkx, filled_all] at HS
                  clear hlt hk
                  go_wp2_with fail
                  have HS2 : Hid (St w _ [obT p v (1 + (m : Int)) g l, obTw kI 3 flI szI A1 c1 (List.replicate X.length (-1)) (.slice B b d) (List.replicate X.length (-1) ++ List.replicate 80 (-2)), obTw kI 3 flI szI A2 c2 (List.replicate X.length (-3)) (.slice A2 X.length c2) (List.replicate X.length (-3) ++ List.replicate 0 (-4)), obI (.slice A3 X.length c3) X, obI (.slice A4 X.length c4) X]) := Lib.hid (by
                    have := HS.out.toTw flI szI 2 rfl
                    rw [List.replicate_zero, List.append_nil]
                    exact this)
                  clear HS
                  go_loopw [16, 17] (fun u i wr => ∃ (k : Nat) (B2 : Option Addr) (b2 d2 : Nat), k ≤ 80 ∧ i = .int .i64 k ∧ u = .slice B2 b2 d2 ∧ Hid (b2 = X.length + k) ∧ Hid (St w wr [obT p v (1 + (m : Int)) g l, obTw kI 3 flI szI A1 c1 (List.replicate X.length (-1)) (.slice B b d) (List.replicate X.length (-1) ++ List.replicate 80 (-2)), obTw kI 3 flI szI A2 c2 (List.replicate X.length (-3)) (.slice B2 b2 d2) (List.replicate X.length (-3) ++ List.replicate k (-4)), obI (.slice A3 X.length c3) X, obI (.slice A4 X.length c4) X])) (fun _ i _ => 80 - (intOf i).toNat)
                  case atStart => exact ⟨0, A2, X.length, c2, by omega, rfl, rfl, Lib.hid rfl, HS2⟩
                  case round =>
                    obtain ⟨k, B2, b2, d2, hk, rfl, rfl, HB2, HS⟩ := hrel
                    clear HS2
                    by_cases hlt : k < 80
                    · have hltz : (k : Int) < 80 := by omega
                      go_wp2_with (at_builtin; go_must (refine wpList_append_Tw kI HS.out 2 rfl rfl (.tmp 115) (.tmp 116) 37 (.int .i64 0) 8 rfl Try.underlying37 infoI rfl (by decide) (-4) [.int .i64 (-4)] rfl rfl rfl (by have := HX.out.2.2; simp; omega) ?_))
                      intro v1 w9 HG HS9
                      obtain ⟨B1, d1, hv1⟩ := HG.out.slice
                      subst hv1
                      clear HS HG
                      go_wp2
                      go_roundw
                      case rel => exact ⟨k + 1, some B1, X.length + k + 1, d1, by omega, by go_num, rfl, Lib.hid (by omega), Lib.hid (by
                        have := HS9.out
                        rw [rep_snoc] at this
                        exact this)⟩
                      case measure => simp [intOf]; omega
                    · obtain rfl : k = 80 := by omega
                      clear hlt hk
                      go_wp2_with fail
                      have hb1 : b = X.length + 80 := HB.out
                      have hb2 : b2 = X.length + 80 := HB2.out
                      go_loop [18] (fun i => ∃ k : Nat, k ≤ X.length ∧ i = .int .i64 k) (fun i => X.length - (intOf i).toNat)
                      case atStart => exact ⟨0, Nat.zero_le _, rfl⟩
                      case round =>
                        obtain ⟨k, hk, rfl⟩ := hrel
                        by_cases hlt : k < X.length
                        · have hltz : (k : Int) < (X.length : Int) := by omega
                          have hbz : (k : Int) < (b : Int) := by omega
                          have hT1 : SL.Twin kI 3 wr A1 c1 (List.replicate X.length (-1)) (.slice B b d) (List.replicate X.length (-1) ++ List.replicate 80 (-2)) := HS.out.get 1 rfl
                          have hT2 : SL.Twin kI 3 wr A2 c2 (List.replicate X.length (-3)) (.slice B2 b2 d2) (List.replicate X.length (-3) ++ List.replicate 80 (-4)) := HS.out.get 2 rfl
                          obtain ⟨ad1, rfl, p1⟩ := cellIC hT1.rd rfl k (by simpa using hlt) (rep_getD _ _ _ hlt)
                          obtain ⟨ad2, rfl, p2⟩ := cellIC (Kd.R_reads' hT1.row).2.2 rfl k (by simp; omega) (rep_app _ _ _ _ _ hlt)
                          obtain ⟨ad3, rfl, p3⟩ := cellIC hT2.rd rfl k (by simpa using hlt) (rep_getD _ _ _ hlt)
                          have HB3 := Lib.hid (And.intro hb1 hb2)
                          clear hT1 hT2 hb1 hb2
                          go_wp2
                          go_round
                          case rel => exact ⟨k + 1, by omega, by go_num⟩
                          case measure => simp [intOf]; omega
                        · have hltz : ¬ (k : Int) < (X.length : Int) := by omega
                          have hbz : (X.length : Int) < (b : Int) := by omega
                          have hbz2 : (X.length : Int) < (b2 : Int) := by omega
                          have hT1 : ∀ w1, St w w1 [obT p v (1 + (m : Int)) g l, obTw kI 3 flI szI A1 c1 (List.replicate X.length (-1)) (.slice B b d) (List.replicate X.length (-1) ++ List.replicate 80 (-2)), obTw kI 3 flI szI A2 c2 (List.replicate X.length (-3)) (.slice B2 b2 d2) (List.replicate X.length (-3) ++ List.replicate 80 (-4)), obI (.slice A3 X.length c3) X, obI (.slice A4 X.length c4) X] → ∃ ad, B = some ad ∧ w1.cell? (ad.add X.length) = some (.int .i64 (-2)) := fun w1 hs => cellIC (Kd.R_reads' (show SL.Twin kI 3 w1 A1 c1 (List.replicate X.length (-1)) (.slice B b d) (List.replicate X.length (-1) ++ List.replicate 80 (-2)) from hs.get 1 rfl).row).2.2 rfl X.length (by simp) (rep_mid _ _ _ _ (by decide))
                          have hT2 : ∀ w1, St w w1 [obT p v (1 + (m : Int)) g l, obTw kI 3 flI szI A1 c1 (List.replicate X.length (-1)) (.slice B b d) (List.replicate X.length (-1) ++ List.replicate 80 (-2)), obTw kI 3 flI szI A2 c2 (List.replicate X.length (-3)) (.slice B2 b2 d2) (List.replicate X.length (-3) ++ List.replicate 80 (-4)), obI (.slice A3 X.length c3) X, obI (.slice A4 X.length c4) X] → ∃ ad, B2 = some ad ∧ w1.cell? (ad.add X.length) = some (.int .i64 (-4)) := fun w1 hs => cellIC (Kd.R_reads' (show SL.Twin kI 3 w1 A2 c2 (List.replicate X.length (-3)) (.slice B2 b2 d2) (List.replicate X.length (-3) ++ List.replicate 80 (-4)) from hs.get 2 rfl).row).2.2 rfl X.length (by simp) (rep_mid _ _ _ _ (by decide))
                          obtain ⟨ad1, rfl, _⟩ := hT1 _ HS.out
                          obtain ⟨ad2, rfl, _⟩ := hT2 _ HS.out
                          have HT1 := Lib.hid hT1
                          have HT2 := Lib.hid hT2
                          have HB3 := Lib.hid (And.intro hb1 hb2)
                          clear hT1 hT2 hb1 hb2 hk hlt
                          go_wp2_with (first | (go_at_call 13; refine (c_same (Γ := [_, _, _, _, _]) HS.out 4 3 rfl rfl (by have := HX.out.2.2; omega)).mono ?_; rintro e w1 ⟨rfl, hs⟩; replace HS := Lib.hid hs; clear hs) | (go_at_call 12; refine (c_allK HS.out 0 rfl HX.out.1 HX.out.2.1).mono ?_; rintro e w1 ⟨A5, c5, rfl, hs⟩; replace HS := Lib.hid hs; clear hs) | (go_at_call 13; refine (c_same (Γ := [_, _, _, _, _] ++ [_]) HS.out 5 3 rfl rfl (by have := HX.out.2.2; omega)).mono ?_; rintro e w1 ⟨rfl, hs⟩; have q1 := (HT1.out _ (St.front hs)); have q2 := (HT2.out _ (St.front hs)); obtain ⟨_, hq1, q1⟩ := q1; obtain ⟨_, hq2, q2⟩ := q2; cases hq1; cases hq2; have HS := Lib.hid hs; clear hs))
                          go_ret
                          exact ⟨rfl, HS.out.bl⟩
end Go.Proofs.Ytgcafklieblldaa.SL
