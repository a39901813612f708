/- The walk of the statement's marked: lists that are each one's own hold what they held, and keep their marks, lengthened too. No condition but sizes. -/
import Derived.Test.YtdlgocieecfpbaaM1
import Derived.Deep.RegionHeld3
import Derived.Deep.QuietTactic
import Derived.Deep.DrawnRows
import Derived.BigQuiet
import Derived.IntWalk
namespace Go.Proofs.Ytdlgocieecfpbaa.Q
open Go.RowKit Go.Proofs.YtdlgocieecfpbaaW.PrintWords Go.Proofs.YtdlgocieecfpbaaW.PrintLast Go.Proofs.YtdlgocieecfpbaaW.PrintMore Go.Proofs.Ytdlgocieecfpbaa.SL
attribute [local go_sem ↓] Go.wp_at_zero Go.wp_at_succ

set_option maxHeartbeats 4000000 in
set_option maxRecDepth 100000 in
theorem marked_calls (Al Aw : Option Addr) (cl cw n : Nat) (hs ws : List Hdr) (ct : Nat → List Sp) (w0 w : World) (F : List Ob) (hn : n ≤ 1000) (hct : ∀ i, i < n → (ct i).length ≤ 10000000) (hl : hs.length = n) (hw : ws.length = n)
    (h : St w0 w ([obLL (.slice Al n cl) hs, obLL (.slice Aw n cw) ws] ++ (fam n (fL hs ct) ++ (fam n (fL ws ct) ++ F)))) :
    Calls Try.prog 26 #[.slice Al n cl, .slice Aw n cw] w fun e w' => e = .returned (.bool true) ∧ ∃ Δ, St w0 w' (Δ ++ F) := by
  have hu := Try.underlying50
  have hu3 := Try.underlying30
  have hu4 := Try.underlying46
  have HS := Lib.hid h
  have HC := Lib.hid hct
  have HL := Lib.hid (And.intro hl hw)
  have HN := Lib.hid (show ∀ k, k < n → (hd hs k).2.1 = (ct k).length from fun k hk => (h.len _ (fam_at [obLL (.slice Al n cl) hs, obLL (.slice Aw n cw) ws] (fL hs ct) (fam n (fL ws ct) ++ F) hk)).1)
  clear h hct hl hw
  go_enter Try.func26, Try.ntmps26
  go_wp2_with fail
  go_loopw [5] (fun i wr => ∃ k : Nat, k ≤ n ∧ i = .int .i64 k ∧ Hid (St w0 wr ([obLL (.slice Al n cl) hs, obLL (.slice Aw n cw) ws] ++ (fam n (fL hs ct) ++ (fam n (fL ws ct) ++ F))))) (fun i _ => n - (intOf i).toNat)
  case atStart => exact ⟨0, Nat.zero_le _, rfl, HS⟩
  case round =>
    obtain ⟨k, hk, rfl, HS2⟩ := hrel
    clear HS
    by_cases hlt : k < n
    · have hltz : (k : Int) < (n : Int) := by omega
      obtain ⟨ad, hA, g0⟩ := HS2.out.hdr 0 rfl k (by rw [HL.out.1]; exact hlt)
      obtain ⟨ad2, hA2, g1⟩ := HS2.out.hdr 1 rfl k (by rw [HL.out.2]; exact hlt)
      subst hA hA2
      have f0 := fam_at [obLL (.slice (some ad) n cl) hs, obLL (.slice (some ad2) n cw) ws] (fL hs ct) (fam n (fL ws ct) ++ F) hlt
      have f1 := fam_at2 [obLL (.slice (some ad) n cl) hs, obLL (.slice (some ad2) n cw) ws] (fL hs ct) (fL ws ct) F hlt
      have hcl := HC.out k hlt
      have F0 := Lib.hid f0
      have F1 := Lib.hid f1
      clear f0 f1
      unfold hv at g0 g1
      go_wp2_with fail
      go_quiet ((go_at_call 11; refine quiet_w (d_sameW (HS2.out.drewN _) _ _ F0.out F1.out (by omega))))
      have HS3 := Lib.hid (HS2.out.drewN nq)
      clear HS2
      go_wp2
      go_roundw
      case rel => exact ⟨k + 1, by omega, by go_num, HS3⟩
      case measure => simp [intOf]; omega
    · obtain rfl : n = k := by omega
      have HS := Lib.hid (HS2.out.addLL rfl)
      clear HS2 hlt hk
      obtain ⟨D, hD⟩ : ∃ D, fam n (fL ws ct) ++ F = D := ⟨_, rfl⟩
      rw [hD] at HS
      have HD := Lib.hid hD
      clear hD
      go_wp2_with fail
      go_loopw [6] (fun i wr => ∃ k : Nat, k ≤ n ∧ i = .int .i64 k ∧ Hid (St w0 wr ([obLL (.slice Al n cl) hs, obLL (.slice Aw n cw) ws, obLL (.slice none 0 0) []] ++ (fam n (fL hs (rep ct k)) ++ D)))) (fun i _ => n - (intOf i).toNat)
      case atStart => exact ⟨0, Nat.zero_le _, rfl, HS⟩
      case round =>
        obtain ⟨k, hk, rfl, HS2⟩ := hrel
        clear HS
        by_cases hlt : k < n
        · have hltz : (k : Int) < (n : Int) := by omega
          have hcl := HC.out k hlt
          go_wp2_with fail
          obtain ⟨wo, rfl⟩ : ∃ wo : World, wo = wr := ⟨_, rfl⟩
          go_loopw [7] (fun i wr => ∃ m : Nat, m ≤ (ct k).length ∧ i = .int .i64 m ∧ Hid (St w0 wr ([obLL (.slice Al n cl) hs, obLL (.slice Aw n cw) ws, obLL (.slice none 0 0) []] ++ (fam n (fL hs (fillC ct k m)) ++ D)))) (fun i _ => (ct k).length - (intOf i).toNat)
          case atStart => exact ⟨0, Nat.zero_le _, rfl, Lib.hid (HS2.out.famEq2 fun j hj => by show obS _ _ = obS _ _; rw [fillC_zero])⟩
          case round =>
            obtain ⟨m, hm, rfl, HS⟩ := hrel
            clear HS2
            obtain ⟨ad, hA, g0⟩ := HS.out.hdr 0 rfl k (by rw [HL.out.1]; exact hlt)
            subst hA
            have f0 := fam_at [obLL (.slice (some ad) n cl) hs, obLL (.slice Aw n cw) ws, obLL (.slice none 0 0) []] (fL hs (fillC ct k m)) D hlt
            rw [show fL hs (fillC ct k m) k = obS (hv (hd hs k)) (filled (mk k) m (ct k)) from by show obS _ _ = obS _ _; rw [fillC_at]] at f0
            obtain ⟨s, hsk⟩ : ∃ s, hd hs k = s := ⟨_, rfl⟩
            rw [hsk] at f0 g0
            have hq := HS.out.len _ f0
            rw [filled_len _ hm] at hq
            obtain ⟨A, q, c⟩ := s
            obtain ⟨hq1, hq2⟩ := hq
            have hq1 : q = (ct k).length := hq1
            have hq2 : (ct k).length ≤ c := hq2
            subst hq1
            by_cases hmt : m < (ct k).length
            · have hmz : (m : Int) < ((ct k).length : Int) := by omega
              obtain ⟨g, cap, hv, _⟩ := HS.out.formW _ f0 (by rw [filled_len _ hm]; omega)
              injection hv with hv1 hv2 hv3
              subst hv1 hv3
              have F0 := Lib.hid f0
              have HK := Lib.hid hsk
              clear f0 hsk hv2
              replace g0 : wr.cell? (ad.add k) = some (.slice (some ⟨g, 0, none⟩) (ct k).length c) := g0
              go_wp2_with (refine gate_ (.store 50 (.tmp 53) (.tmp 52)) rfl ?_; go_must (refine wpList_store_St k50 HS.out _ F0.out rfl rfl 50 (.tmp 53) (.tmp 52) rfl (m : Int) (by omega) hmz (mk k) _ [.int .i64 (-9), .int .i64 (-100 - (k : Int))] ?h1 rfl rfl szL rfl (k50_mk _ (mk k)) ?_))
              case h1 => rfl
              intro w9 HS9
              clear HS
              go_wp2
              go_roundw
              case rel => exact ⟨m + 1, by omega, by go_num, Lib.hid ((HS9.out).famPut hlt fun j hj => by
                show obS _ _ = if j = k then _ else obS _ _
                rw [fillC_step ct k m (m + 1) j]
                by_cases e : j = k
                · subst e
                  rw [if_pos rfl, if_pos rfl, HK.out]
                  try rw [Int.toNat_natCast]
                  rw [filled_step _ hmt]
                · rw [if_neg e, if_neg e])⟩
              case measure => simp [intOf]; omega
            · have hmz : m = (ct k).length := by omega
              subst hmz
              have HS3 := Lib.hid (HS.out.famEq2 (g := fL hs (rep ct (k + 1))) fun j hj => by show obS _ _ = obS _ _; rw [fillC_end])
              clear f0 hsk HS
              replace g0 : wr.cell? (ad.add k) = some (.slice A (ct k).length c) := g0
              go_wp2
              go_roundw
              case rel => exact ⟨k + 1, by omega, by go_num, HS3⟩
              case measure => simp [intOf]; omega
        · obtain rfl : n = k := by omega
          have HS := Lib.hid (HS2.out.famEq2 (g := twO hs [] ct) fun j hj => twO_zero hs ct n j hj)
          clear HS2 hk hlt
          go_wp2_with fail
          go_loopw [8, 9] (fun v i wr => ∃ (vs : List Hdr) (LA : Option Addr) (lq lc : Nat), vs.length ≤ n ∧ i = .int .i64 vs.length ∧ v = .slice LA lq lc ∧ Hid (St w0 wr ([obLL (.slice Al n cl) hs, obLL (.slice Aw n cw) ws, obLL (.slice LA lq lc) vs] ++ (fam n (twO hs vs ct) ++ D)))) (fun _ i _ => n - (intOf i).toNat)
          case atStart => exact ⟨[], none, 0, 0, Nat.zero_le _, rfl, rfl, HS⟩
          case round =>
            obtain ⟨vs, LA, lq, lc, hk, rfl, rfl, HS2⟩ := hrel
            clear HS
            by_cases hlt : vs.length < n
            · have hltz : (vs.length : Int) < (n : Int) := by omega
              have hcl := HC.out vs.length hlt
              obtain ⟨ad, hA, g0⟩ := HS2.out.hdr 0 rfl vs.length (by rw [HL.out.1]; exact hlt)
              subst hA
              have f0 := fam_at [obLL (.slice (some ad) n cl) hs, obLL (.slice Aw n cw) ws, obLL (.slice LA lq lc) vs] (twO hs vs ct) D hlt
              rw [twO_at] at f0
              obtain ⟨s, hsk⟩ : ∃ s, hd hs vs.length = s := ⟨_, rfl⟩
              rw [hsk] at f0 g0
              have hq := HS2.out.len _ f0
              rw [List.length_replicate] at hq
              obtain ⟨A, q, c⟩ := s
              obtain ⟨hq1, hq2⟩ := hq
              have hq1 : q = (ct vs.length).length := hq1
              subst hq1
              replace g0 : wr.cell? (ad.add vs.length) = some (.slice A (ct vs.length).length c) := g0
              have HS3 := Lib.hid (HS2.out.toTw flatS szS _ f0)
              have HK := Lib.hid hsk
              clear f0 hsk hq2 HS2
              go_wp2_with fail
              obtain ⟨wo, rfl⟩ : ∃ wo : World, wo = wr := ⟨_, rfl⟩
              go_loopw [10, 11] (fun x i wr => ∃ (m : Nat) (B : Option Addr) (b d : Nat), m ≤ 80 ∧ i = .int .i64 m ∧ x = .slice B b d ∧ Hid (St w0 wr ([obLL (.slice (some ad) n cl) hs, obLL (.slice Aw n cw) ws, obLL (.slice LA lq lc) vs] ++ (fam n (twK hs vs ct (B, b, d) m) ++ D)))) (fun _ i _ => 80 - (intOf i).toNat)
              case atStart => exact ⟨0, A, _, c, Nat.zero_le _, rfl, rfl, Lib.hid (HS3.out.famPut hlt fun j hj => by have := twK_start hs vs ct j; rw [HK.out] at this; exact this)⟩
              case round =>
                obtain ⟨m, B, b, d, hm, rfl, rfl, HS⟩ := hrel
                clear HS3 g0
                by_cases hmt : m < 80
                · have hmz : (m : Int) < 80 := by omega
                  have f0 := fam_at [obLL (.slice (some ad) n cl) hs, obLL (.slice Aw n cw) ws, obLL (.slice LA lq lc) vs] (twK hs vs ct (B, b, d) m) D hlt
                  rw [twK_at] at f0
                  have F0 := Lib.hid f0
                  clear f0
                  go_wp2_with (at_builtin; go_must (refine wpList_append_Tw k50 HS.out _ F0.out rfl (.tmp 68) (.tmp 72) 30 (.agg #[.int .i64 0, .int .i64 0]) 16 rfl Try.underlying30 info50 rfl (by decide) (mk vs.length) [.int .i64 (-9), .int .i64 (-100 - (vs.length : Int))] rfl rfl (k50_mk _ (mk vs.length)) (by rw [List.length_replicate]; omega) ?_))
                  intro v1 w9 HG HS9
                  obtain ⟨A1, c1, hv1⟩ := HG.out.slice
                  subst hv1
                  clear HS F0 HG
                  go_wp2
                  go_roundw
                  case rel => exact ⟨m + 1, some A1, _, c1, by omega, by go_num, rfl, Lib.hid (HS9.out.famPut hlt fun j hj => by
                    rw [twK_step hs vs ct (B, b, d) _ m (m + 1) j, show List.replicate ((ct vs.length).length + (m + 1)) (mk vs.length) = List.replicate ((ct vs.length).length + m) (mk vs.length) ++ [mk vs.length] from (rep_snoc _ _).symm])⟩
                  case measure => simp [intOf]; omega
                · obtain rfl : m = 80 := by omega
                  have HS4 := Lib.hid (HS.out.famEq2 (g := twO hs (vs ++ [(B, b, d)]) ct) fun j hj => twK_end hs vs ct (B, b, d) j)
                  clear HS hmt hm
                  go_wp2_with (at_builtin; go_must (refine wpList_append_St kSl HS4.out 2 rfl rfl (.tmp 74) (.tmp 76) 46 (.slice none 0 0) 24 rfl Try.underlying46 infoL rfl (by decide) (by decide) (B, b, d) [.slice B b d] rfl rfl rfl (by omega) ?_))
                  intro v1 w9 HG HS9
                  obtain ⟨A1, c1, hv1⟩ := HG.out.slice
                  subst hv1
                  clear HS4 HG
                  go_wp2
                  go_roundw
                  case rel => exact ⟨vs ++ [(B, b, d)], some A1, _, c1, by rw [List.length_append, List.length_singleton]; omega, by rw [List.length_append, List.length_singleton]; go_num, rfl, HS9⟩
                  case measure => simp [intOf]; omega
            · have hvn : vs.length = n := by omega
              have HS := HS2
              clear HS2 hlt
              go_wp2_with fail
              go_loop [12] (fun i => ∃ k : Nat, k ≤ n ∧ i = .int .i64 k) (fun i => n - (intOf i).toNat)
              case atStart => exact ⟨0, Nat.zero_le _, rfl⟩
              case round =>
                obtain ⟨k, hk, rfl⟩ := hrel
                by_cases hlt : k < n
                · have hltz : (k : Int) < (n : Int) := by omega
                  have hcl := HC.out k hlt
                  obtain ⟨ad, hA, g0⟩ := HS.out.hdr 0 rfl k (by rw [HL.out.1]; exact hlt)
                  subst hA
                  obtain ⟨ad2, hA2, g2⟩ := HS.out.hdr 2 rfl k (by omega)
                  subst hA2
                  have hlq := (Kd.R_reads' (HS.out.get 2 rfl)).1
                  have hlqz : (k : Int) < (lq : Int) := by omega
                  have f0 := fam_at [obLL (.slice (some ad) n cl) hs, obLL (.slice Aw n cw) ws, obLL (.slice (some ad2) lq lc) vs] (twO hs vs ct) D hlt
                  rw [twO_old _ _ _ _ (by omega)] at f0
                  obtain ⟨t, htk⟩ : ∃ s, hd vs k = s := ⟨_, rfl⟩
                  rw [htk] at f0 g2
                  obtain ⟨B, b, d⟩ := t
                  have hT : SL.Twin k50 50 wr (hd hs k).1 (hd hs k).2.2 (List.replicate (ct k).length (mk k)) (.slice B b d) (List.replicate ((ct k).length + 80) (mk k)) := HS.out.get _ f0
                  obtain ⟨hb1, _, hC⟩ := Kd.R_reads' hT.row
                  have hrd := hT.rd
                  have hlk := HN.out k hlt
                  rw [List.length_replicate] at hb1
                  subst hb1
                  obtain ⟨s, hsk⟩ : ∃ s, hd hs k = s := ⟨_, rfl⟩
                  rw [hsk] at g0 hlk hrd
                  obtain ⟨A, q, c⟩ := s
                  have hlk : q = (ct k).length := hlk
                  subst hlk
                  replace g0 : wr.cell? (ad.add k) = some (.slice A (ct k).length c) := g0
                  replace g2 : wr.cell? (ad2.add k) = some (.slice B ((ct k).length + 80) d) := g2
                  have HD1 := Lib.hid hC
                  have HD2 := Lib.hid hrd
                  clear hC hrd hT f0 htk hsk hlq
                  go_wp2_with fail
                  go_loop [13] (fun i => ∃ m : Nat, m ≤ (ct k).length + 80 ∧ i = .int .i64 m) (fun i => (ct k).length + 80 - (intOf i).toNat)
                  case atStart => exact ⟨0, Nat.zero_le _, rfl⟩
                  case round =>
                    obtain ⟨m, hm, rfl⟩ := hrel
                    by_cases hmt : m < (ct k).length + 80
                    · have hmz : (m : Int) < (ct k).length + 80 := by omega
                      have hmz2 : (m : Int) < (((ct k).length + 80 : Nat) : Int) := by omega
                      obtain ⟨b2, hB2, p2⟩ := cellM HD1.out hmt
                      subst hB2
                      replace p2 : wr.cell? ⟨(b2.add (m * 2)).block, (b2.add (m * 2)).off + 1, none⟩ = some (.int .i64 (-100 - (k : Int))) := p2
                      have hne : ((-100 - (k : Int)) != (-100 - (k : Int))) = false := by simp
                      by_cases hml : m < (ct k).length
                      · have hmlz : decide ((m : Int) < ((ct k).length : Int)) = true := by simp; omega
                        have hmlz2 : decide (m < (ct k).length) = true := by simp; omega
                        obtain ⟨b3, hB3, p3⟩ := cellM HD2.out hml
                        subst hB3
                        replace p3 : wr.cell? ⟨(b3.add (m * 2)).block, (b3.add (m * 2)).off + 1, none⟩ = some (.int .i64 (-100 - (k : Int))) := p3
                        go_wp2
                        go_round
                        case rel => exact ⟨m + 1, by omega, by go_num⟩
                        case measure => simp [intOf]; omega
                      · have hmlz : decide ((m : Int) < ((ct k).length : Int)) = false := by simp; omega
                        have hmlz2 : decide (m < (ct k).length) = false := by simp; omega
                        go_wp2
                        go_round
                        case rel => exact ⟨m + 1, by omega, by go_num⟩
                        case measure => simp [intOf]; omega
                    · obtain rfl : m = (ct k).length + 80 := by omega
                      go_wp2
                      go_round
                      case rel => exact ⟨k + 1, by omega, by go_num⟩
                      case measure => simp [intOf]; omega
                · obtain rfl : n = k := by omega
                  go_wp2
                  go_ret
                  refine ⟨rfl, [obLL (.slice Al n cl) hs, obLL (.slice Aw n cw) ws, obLL (.slice LA lq lc) vs] ++ (fam n (twO hs vs ct) ++ fam n (fL ws ct)), ?_⟩
                  have := HS.out
                  rw [← HD.out] at this
                  rw [List.append_assoc, List.append_assoc]
                  exact this
end Go.Proofs.Ytdlgocieecfpbaa.Q
