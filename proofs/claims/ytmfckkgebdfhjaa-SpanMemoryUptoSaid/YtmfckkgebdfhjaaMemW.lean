/- The walk of the statement SpanMemory: whatever the list (of at most 1048576 spans), the span and the number: true, and all memory stays as it was. No further condition. -/
import Derived.Test.YtmfckkgebdfhjaaMB
import Derived.Deep.RegionHeld3
import Derived.Deep.QuietTactic
import Derived.Deep.DrawnRows
import Derived.BigQuiet
namespace Go.Proofs.Ytmfckkgebdfhjaa.MA
open Go.RowKit Go.Proofs.YtmfckkgebdfhjaaW.PrintWords Go.Proofs.YtmfckkgebdfhjaaW.PrintLast Go.Proofs.YtmfckkgebdfhjaaW.PrintMore Go.Proofs.Ytmfckkgebdfhjaa.SL
attribute [local go_sem ↓] Go.wp_at_zero Go.wp_at_succ
theorem infoS' : ∃ i, Try.prog.info? 24 = some i ∧ i.size = 2 := by
  obtain ⟨i0, hi, hzz⟩ := Option.map_eq_some_iff.1 infoS
  simp only [Prod.mk.injEq] at hzz
  exact ⟨i0, hi, hzz.2.1⟩
set_option maxHeartbeats 16000000 in
set_option maxRecDepth 100000 in
theorem memory_calls (A0 : Option Addr) (c0 : Nat) (a b tz : Int) (l : List Sp) (w : World) (hr : kS.C w A0 l.length l) (hc : l.length ≤ c0) (hl : l.length ≤ 1048576) :
    Calls Try.prog 7 #[.slice A0 l.length c0, .agg #[.int .i64 a, .int .i64 b], .int .i64 tz] w fun e w' => e = .returned (.bool true) ∧ Below w.heap.size w w' := by
  have hu := Try.underlying24
  have hu3 := Try.underlying22
  have hu4 := Try.underlying41
  have HS := Lib.hid ((St.read (w := w) (Γ := [obRd kS flatS szS A0 c0 l]) (fun o ho => by obtain rfl := List.mem_singleton.1 ho; rfl) (fun o ho => by obtain rfl := List.mem_singleton.1 ho; exact ⟨hr, hc⟩)).box #[.int .i64 a, .int .i64 b] 24)
  have hc0 := hc
  clear hr
  have hnorm : Q.normS l = (Q.joinS l, 0) ∨ Q.normS l = ([], 1) := by
    unfold Q.normS
    split
    · exact .inl rfl
    · exact .inr rfl
  have hnl := Q.norm_len l
  rcases hnorm with hn | hn
  · rw [hn] at hnl
    obtain ⟨m, hm⟩ : ∃ m, Q.joinS l = m := ⟨_, rfl⟩
    rw [hm] at hn hnl
    have hml : m.length ≤ 65536 := hnl
    have HN := Lib.hid hn
    clear hn hm hnl
    obtain ⟨r1, x1, h1⟩ : ∃ r x, Q.normS m = (r, x) := ⟨_, _, rfl⟩
    obtain ⟨r2, x2, h2⟩ : ∃ r x, Q.addA m ⟨a, b⟩ = (r, x) := ⟨_, _, rfl⟩
    obtain ⟨r3, x3, h3⟩ : ∃ r x, Q.cutA m ⟨a, b⟩ = (r, x) := ⟨_, _, rfl⟩
    obtain ⟨r4, x4, h4⟩ : ∃ r x, Q.holesB m tz = (r, x) := ⟨_, _, rfl⟩
    obtain ⟨r5, x5, h5⟩ : ∃ r x, Q.addA [⟨1, 3⟩, ⟨9, 700⟩] ⟨a, b⟩ = (r, x) := ⟨_, _, rfl⟩
    obtain ⟨r6, x6, h6⟩ : ∃ r x, Q.holesB [⟨1, 3⟩, ⟨9, 700⟩] tz = (r, x) := ⟨_, _, rfl⟩
    have l1 : r1.length ≤ 65536 := by have := Q.norm_len m; rw [h1] at this; exact this
    have l2 : r2.length ≤ 65536 := by have := Q.addA_len m ⟨a, b⟩; rw [h2] at this; exact this
    have l3 : r3.length ≤ 65536 := by have := Q.cutA_len m ⟨a, b⟩; rw [h3] at this; exact this
    have l4 : r4.length ≤ 65536 := by have := Q.holesB_len m tz; rw [h4] at this; exact this
    have l5 : r5.length ≤ 65536 := by have := Q.addA_len [⟨1, 3⟩, ⟨9, 700⟩] ⟨a, b⟩; rw [h5] at this; exact this
    have l6 : r6.length ≤ 65536 := by have := Q.holesB_len [⟨1, 3⟩, ⟨9, 700⟩] tz; rw [h6] at this; exact this
    have HR := Lib.hid (And.intro h1 (And.intro h2 (And.intro h3 (And.intro h4 (And.intro h5 h6)))))
    have HLn := Lib.hid (fun j => cM_len l1 l2 l3 l4 l5 l6 j)
    clear h1 h2 h3 h4 h5 h6 l1 l2 l3 l4 l5 l6
    go_enter Try.func7, Try.ntmps7
    go_wp2_with fail
    refine (m_alive HS.out).mono ?_
    rintro e w1 ⟨rfl, hs⟩
    have HS := Lib.hid hs
    clear hs
    go_wp2_with fail
    refine (m_own HS.out (HS.out.get 0 rfl).1 hc0 (by omega)).mono ?_
    rintro e w2 ⟨B1, d1, rfl, hs⟩
    have HS := Lib.hid hs
    clear hs
    obtain ⟨hq1, hq2⟩ := St.read_ HS.out 2 rfl
    have HQ := Lib.hid hq1
    clear hq1
    go_wp2_with fail
    refine (m_norm HS.out HQ.out hq2 (by omega) HN.out).mono ?_
    rintro e w3 ⟨B2, d2, rfl, hs⟩
    have HS := Lib.hid hs
    clear hs HQ hq2
    obtain ⟨hq1, hq2⟩ := St.read_ HS.out 3 rfl
    have HQ := Lib.hid hq1
    clear hq1
    go_wp2_with fail
    refine (m_own HS.out HQ.out hq2 (by omega)).mono ?_
    rintro e w4 ⟨B3, d3, rfl, hs⟩
    have HS := Lib.hid hs
    clear hs HQ hq2
    go_wp2_with (at_builtin; go_must (refine wpList_append_rows_St kS (HS.out.alloc0 _) 4 rfl rfl (.tmp 50) (.tmp 53) 22 (.agg #[.int .i64 0, .int .i64 0]) 16 rfl Try.underlying22 infoS rfl (by decide) (by decide) [⟨-7, -7⟩, ⟨-8, -8⟩] _ 2 2 rfl rfl (litC _ (-7) (-7) (-8) (-8)) (by omega) ?_))
    intro v5 w5 HV HS
    obtain ⟨g, cap, hv, hcap⟩ := HS.out.formW 4 rfl (by simp)
    subst hv
    clear HV
    have hlen : (m ++ [(⟨-7, -7⟩ : Sp), ⟨-8, -8⟩]).length = m.length + 2 := by simp
    rw [hlen] at hcap HS ⊢
    clear hlen
    obtain ⟨i0, hi0, hi1⟩ := infoS'
    have hcut := cut_to (P := Try.prog) 22 24 .i64 Try.underlying22 hi0 (some ⟨g, 0, none⟩) (m.length + 2) cap (m.length : Int) (by omega) (by omega) hcap
    rw [Int.toNat_natCast] at hcut
    go_wp2_with fail
    have HS2 := Lib.hid ((((St.lit HS.out 1 3 9 700).newW (d := kSl) (e := 22) flatSl).newW (d := kSl) (e := 22) flatSl).pick [4, 3, 5, 1, 6, 7] (by decide))
    clear HS hcut hi0 hi1
    go_loopw [14, 15] (fun v i wr => ∃ (k : Nat) (hs : List Hdr) (LA : Option Addr) (lq lc : Nat), k ≤ 2 ∧ i = .int .i64 k ∧ v = .slice LA lq lc ∧ Hid (hs.length = 6 * k) ∧ Hid (St w wr ([obS (.slice (some ⟨g, 0, none⟩) (m.length + 2) cap) (m ++ [⟨-7, -7⟩, ⟨-8, -8⟩]), obS (.slice B2 m.length d2) m, obRd kS flatS szS (some ⟨w5.heap.size, 0, none⟩) 2 [⟨1, 3⟩, ⟨9, 700⟩], obB w.heap.size #[.int .i64 a, .int .i64 b] 24, obLL (.slice LA lq lc) hs, obLL (.slice none 0 0) []] ++ (fam (6 * k) (famL kS 24 flatS hs (cM r1 r2 r3 r4 r5 r6)) ++ [])))) (fun _ i _ => 2 - (intOf i).toNat)
    case atStart => exact ⟨0, [], none, 0, 0, by omega, rfl, rfl, Lib.hid rfl, HS2⟩
    case round =>
      clear HS2
      obtain ⟨k, hs, LA, lq, lc, hk, rfl, rfl, HH, HS⟩ := hrel
      by_cases hlt : k < 2
      · have hltz : (k : Int) < 2 := by omega
        go_wp2_with fail
        refine (m_norm HS.out (St.front_ HS.out 0 rfl).1 (St.front_ HS.out 0 rfl).2 (by omega) HR.out.1).mono ?_
        rintro e w11 ⟨D1, D1d, rfl, hs⟩
        have HS := Lib.hid hs
        clear hs
        have b0 := St.cellB HS.out 3 rfl 0 rfl
        have b1 := St.cellB HS.out 3 rfl 1 rfl
        go_wp2_with fail
        refine (m_add HS.out (St.front_ HS.out 0 rfl).1 (St.front_ HS.out 0 rfl).2 (by omega) HR.out.2.1).mono ?_
        rintro e w12 ⟨D2, D2d, rfl, hs⟩
        have HS := Lib.hid hs
        clear hs
        clear b0 b1
        have b0 := St.cellB HS.out 3 rfl 0 rfl
        have b1 := St.cellB HS.out 3 rfl 1 rfl
        go_wp2_with fail
        refine (m_cut HS.out (St.front_ HS.out 0 rfl).1 (St.front_ HS.out 0 rfl).2 (by omega) HR.out.2.2.1).mono ?_
        rintro e w13 ⟨D3, D3d, rfl, hs⟩
        have HS := Lib.hid hs
        clear hs
        clear b0 b1
        go_wp2_with fail
        refine (m_holes HS.out (St.front_ HS.out 0 rfl).1 (St.front_ HS.out 0 rfl).2 (by omega) HR.out.2.2.2.1).mono ?_
        rintro e w14 ⟨D4, D4d, rfl, hs⟩
        have HS := Lib.hid hs
        clear hs
        have b0 := St.cellB HS.out 3 rfl 0 rfl
        have b1 := St.cellB HS.out 3 rfl 1 rfl
        go_wp2_with fail
        refine (m_add HS.out (HS.out.get 2 rfl).1 (HS.out.get 2 rfl).2 (by decide) HR.out.2.2.2.2.1).mono ?_
        rintro e w15 ⟨D5, D5d, rfl, hs⟩
        have HS := Lib.hid hs
        clear hs
        clear b0 b1
        go_wp2_with fail
        refine (m_holes HS.out (HS.out.get 2 rfl).1 (HS.out.get 2 rfl).2 (by decide) HR.out.2.2.2.2.2).mono ?_
        rintro e w16 ⟨D6, D6d, rfl, hs⟩
        have HS := Lib.hid hs
        clear hs
        have HS : Hid (St w _ ([obS (.slice (some ⟨g, 0, none⟩) (m.length + 2) cap) (m ++ [⟨-7, -7⟩, ⟨-8, -8⟩]), obS (.slice B2 m.length d2) m, obRd kS flatS szS (some ⟨w5.heap.size, 0, none⟩) 2 [⟨1, 3⟩, ⟨9, 700⟩], obB w.heap.size #[.int .i64 a, .int .i64 b] 24, obLL (.slice LA lq lc) hs, obLL (.slice none 0 0) []] ++ (fam (6 * k) (famL kS 24 flatS hs (cM r1 r2 r3 r4 r5 r6)) ++ [obS (.slice D1 r1.length D1d) r1, obS (.slice D2 r2.length D2d) r2, obS (.slice D3 r3.length D3d) r3, obS (.slice D4 r4.length D4d) r4, obS (.slice D5 r5.length D5d) r5, obS (.slice D6 r6.length D6d) r6]))) := Lib.hid (by have h := HS.out; simp only [List.append_assoc, List.cons_append, List.nil_append] at h ⊢; exact h)
        have hhl : hs.length ≤ 12 := by have := HH.out; omega
        go_wp2_with (at_builtin; go_must (refine wpList_append_rows_St kSl (HS.out.alloc0 _) 4 rfl rfl (.tmp 100) (.tmp 107) 41 (.slice none 0 0) 24 rfl Try.underlying41 infoL rfl (by decide) (by decide) [(D1, r1.length, D1d), (D2, r2.length, D2d), (D3, r3.length, D3d), (D4, r4.length, D4d), (D5, r5.length, D5d), (D6, r6.length, D6d)] _ 6 6 rfl rfl (litSl _ 22 [(D1, r1.length, D1d), (D2, r2.length, D2d), (D3, r3.length, D3d), (D4, r4.length, D4d), (D5, r5.length, D5d), (D6, r6.length, D6d)] (by simp)) (by omega) ?_))
        intro v17 w17 HV HS
        obtain ⟨LA2, lq2, lc2, hv17⟩ : ∃ B q c, v17 = .slice B q c := by obtain ⟨B, c, h⟩ := HV.out; exact ⟨B, _, c, h⟩
        subst hv17
        have HS3 : Hid (St w w17 ([obS (.slice (some ⟨g, 0, none⟩) (m.length + 2) cap) (m ++ [⟨-7, -7⟩, ⟨-8, -8⟩]), obS (.slice B2 m.length d2) m, obRd kS flatS szS (some ⟨w5.heap.size, 0, none⟩) 2 [⟨1, 3⟩, ⟨9, 700⟩], obB w.heap.size #[.int .i64 a, .int .i64 b] 24, obLL (.slice LA2 lq2 lc2) (hs ++ [(D1, r1.length, D1d), (D2, r2.length, D2d), (D3, r3.length, D3d), (D4, r4.length, D4d), (D5, r5.length, D5d), (D6, r6.length, D6d)]), obLL (.slice none 0 0) []] ++ (fam (6 * (k + 1)) (famL kS 24 flatS (hs ++ [(D1, r1.length, D1d), (D2, r2.length, D2d), (D3, r3.length, D3d), (D4, r4.length, D4d), (D5, r5.length, D5d), (D6, r6.length, D6d)]) (cM r1 r2 r3 r4 r5 r6)) ++ []))) := Lib.hid (by
          rw [show 6 * (k + 1) = 6 * k + 6 from rfl, fam_six hs _ _ _ _ _ _ r1 r2 r3 r4 r5 r6 k HH.out, List.append_nil]
          exact HS.out)
        clear HS HV
        go_wp2
        go_roundw
        case rel => exact ⟨k + 1, hs ++ [(D1, r1.length, D1d), (D2, r2.length, D2d), (D3, r3.length, D3d), (D4, r4.length, D4d), (D5, r5.length, D5d), (D6, r6.length, D6d)], LA2, lq2, lc2, by omega, by go_num, rfl, Lib.hid (by rw [List.length_append, HH.out]; rfl), HS3⟩
        case measure => simp [intOf]; omega
      · have hk2 : k = 2 := by omega
        rw [hk2] at HH HS
        have HS : Hid (St w wr ([obS (.slice (some ⟨g, 0, none⟩) (m.length + 2) cap) (m ++ [⟨-7, -7⟩, ⟨-8, -8⟩]), obS (.slice B2 m.length d2) m, obRd kS flatS szS (some ⟨w5.heap.size, 0, none⟩) 2 [⟨1, 3⟩, ⟨9, 700⟩], obB w.heap.size #[.int .i64 a, .int .i64 b] 24, obLL (.slice LA lq lc) hs, obLL (.slice none 0 0) []] ++ (fam 12 (famL kS 24 flatS hs (cM r1 r2 r3 r4 r5 r6)) ++ []))) := HS
        clear hk hk2
        have b0 := St.cellB HS.out 3 rfl 0 rfl
        have b1 := St.cellB HS.out 3 rfl 1 rfl
        go_wp2_with fail
        refine (m_has HS.out (St.front_ HS.out 0 rfl).1 (St.front_ HS.out 0 rfl).2 a b).mono ?_
        rintro e w18 ⟨rfl, hs'⟩
        have HS := Lib.hid hs'
        clear hs'
        clear b0 b1
        have b0 := St.cellB HS.out 3 rfl 0 rfl
        have b1 := St.cellB HS.out 3 rfl 1 rfl
        go_wp2_with fail
        refine (m_meets HS.out (St.front_ HS.out 0 rfl).1 (St.front_ HS.out 0 rfl).2 a b).mono ?_
        rintro e w19 ⟨rfl, hs'⟩
        have HS := Lib.hid hs'
        clear hs'
        clear b0 b1
        go_wp2_with fail
        refine (m_size HS.out (St.front_ HS.out 0 rfl).1 (St.front_ HS.out 0 rfl).2 (by omega)).mono ?_
        rintro e w20 ⟨rfl, hs'⟩
        have HS := Lib.hid hs'
        clear hs'
        go_wp2_with fail
        refine (m_right HS.out (St.front_ HS.out 0 rfl).1 (St.front_ HS.out 0 rfl).2 (by omega)).mono ?_
        rintro e w21 ⟨rfl, hs'⟩
        have HS := Lib.hid hs'
        clear hs'
        go_wp2_with fail
        refine (m_same HS.out (St.front_ HS.out 0 rfl).1 (St.front_ HS.out 0 rfl).2 (St.read_ HS.out 1 rfl).1 (St.read_ HS.out 1 rfl).2 (by omega)).mono ?_
        rintro e w22 ⟨rfl, hs'⟩
        have HS := Lib.hid hs'
        clear hs'
        obtain ⟨ad7, hA7, e7, _⟩ := cellSp (St.read_ HS.out 0 rfl).1 rfl m.length (x := ⟨-7, -7⟩) (by simp)
        obtain ⟨ad8, hA8, e8, _⟩ := cellSp (St.read_ HS.out 0 rfl).1 rfl (m.length + 1) (x := ⟨-8, -8⟩) (by simp)
        obtain rfl := Option.some.inj hA7
        obtain rfl := Option.some.inj hA8
        rw [add_plain] at e7 e8
        clear hA7 hA8
        go_wp2_with fail
        have hlq : lq = 12 := by have := (Kd.R_reads' (HS.out.get 4 rfl)).1; rw [this, HH.out]
        subst hlq
        clear e7 e8
        have HS : Hid (St w w22 ([obS (.slice (some ⟨g, 0, none⟩) (m.length + 2) cap) (m ++ [⟨-7, -7⟩, ⟨-8, -8⟩]), obS (.slice B2 m.length d2) m, obRd kS flatS szS (some ⟨w5.heap.size, 0, none⟩) 2 [⟨1, 3⟩, ⟨9, 700⟩], obB w.heap.size #[.int .i64 a, .int .i64 b] 24, obLL (.slice LA 12 lc) hs, obLL (.slice none 0 0) []] ++ (fam 12 (famL kS 24 flatS hs (cM r1 r2 r3 r4 r5 r6)) ++ fam 0 (famL kS 24 flatS [] (cM r1 r2 r3 r4 r5 r6))))) := HS
        go_loopw [28, 29] (fun v i wr => ∃ (ws : List Hdr) (WA : Option Addr) (wq wc : Nat), ws.length ≤ 12 ∧ i = .int .i64 ws.length ∧ v = .slice WA wq wc ∧ Hid (St w wr ([obS (.slice (some ⟨g, 0, none⟩) (m.length + 2) cap) (m ++ [⟨-7, -7⟩, ⟨-8, -8⟩]), obS (.slice B2 m.length d2) m, obRd kS flatS szS (some ⟨w5.heap.size, 0, none⟩) 2 [⟨1, 3⟩, ⟨9, 700⟩], obB w.heap.size #[.int .i64 a, .int .i64 b] 24, obLL (.slice LA 12 lc) hs, obLL (.slice WA wq wc) ws] ++ (fam 12 (famL kS 24 flatS hs (cM r1 r2 r3 r4 r5 r6)) ++ fam ws.length (famL kS 24 flatS ws (cM r1 r2 r3 r4 r5 r6)))))) (fun _ i _ => 12 - (intOf i).toNat)
        case atStart => exact ⟨[], none, 0, 0, by simp, rfl, rfl, HS⟩
        case round =>
          clear HS
          obtain ⟨ws, WA, wq, wc, hk, rfl, rfl, HS⟩ := hrel
          by_cases hlt : ws.length < 12
          · have hltz : (ws.length : Int) < 12 := by omega
            have hcl := HLn.out ws.length
            obtain ⟨ad, hA, g0⟩ := cellR (HS.out.readW 4 rfl) rfl ws.length (hd_get hs _ (by rw [HH.out]; exact hlt))
            subst hA
            have f0 := fam_at [obS (.slice (some ⟨g, 0, none⟩) (m.length + 2) cap) (m ++ [⟨-7, -7⟩, ⟨-8, -8⟩]), obS (.slice B2 m.length d2) m, obRd kS flatS szS (some ⟨w5.heap.size, 0, none⟩) 2 [⟨1, 3⟩, ⟨9, 700⟩], obB w.heap.size #[.int .i64 a, .int .i64 b] 24, obLL (.slice (some ad) 12 lc) hs, obLL (.slice WA wq wc) ws] (famL kS 24 flatS hs (cM r1 r2 r3 r4 r5 r6)) (fam ws.length (famL kS 24 flatS ws (cM r1 r2 r3 r4 r5 r6))) hlt
            have hlk := (Kd.R_reads' (HS.out.get _ f0)).1
            obtain ⟨s, hsk⟩ : ∃ s, hd hs ws.length = s := ⟨_, rfl⟩
            rw [hsk] at g0 hlk
            obtain ⟨A, q, c⟩ := s
            have hlk : q = ((cM r1 r2 r3 r4 r5 r6) ws.length).length := hlk
            subst hlk
            rw [show famL kS 24 flatS hs (cM r1 r2 r3 r4 r5 r6) ws.length = obS (.slice A ((cM r1 r2 r3 r4 r5 r6) ws.length).length c) ((cM r1 r2 r3 r4 r5 r6) ws.length) from by show obW _ _ _ _ _ = obW _ _ _ _ _; rw [hsk]] at f0
            obtain ⟨q1, q2⟩ := St.read_ HS.out _ f0
            have HQ := Lib.hid q1
            replace g0 : wr.cell? (ad.add ws.length) = some (.slice A ((cM r1 r2 r3 r4 r5 r6) ws.length).length c) := g0
            clear f0 hsk q1
            go_wp2_with fail
            refine (m_own HS.out HQ.out q2 (by omega)).mono ?_
            rintro e w23 ⟨B9, d9, rfl, hs'⟩
            have HS := Lib.hid hs'
            clear hs' HQ
            go_wp2_with (at_builtin; go_must (refine wpList_append_St kSl HS.out 5 rfl rfl (.tmp 146) (.tmp 152) 41 (.slice none 0 0) 24 rfl Try.underlying41 infoL rfl (by decide) (by decide) (B9, ((cM r1 r2 r3 r4 r5 r6) ws.length).length, d9) [.slice B9 ((cM r1 r2 r3 r4 r5 r6) ws.length).length d9] rfl rfl rfl (by omega) ?_))
            intro v24 w24 HG HS
            obtain ⟨WA2, wq2, wc2, hv24⟩ : ∃ B q c, v24 = .slice B q c := by obtain ⟨B, c, h⟩ := HG.out.slice; exact ⟨_, _, c, h⟩
            subst hv24
            have HS3 : Hid (St w w24 ([obS (.slice (some ⟨g, 0, none⟩) (m.length + 2) cap) (m ++ [⟨-7, -7⟩, ⟨-8, -8⟩]), obS (.slice B2 m.length d2) m, obRd kS flatS szS (some ⟨w5.heap.size, 0, none⟩) 2 [⟨1, 3⟩, ⟨9, 700⟩], obB w.heap.size #[.int .i64 a, .int .i64 b] 24, obLL (.slice (some ad) 12 lc) hs, obLL (.slice WA2 wq2 wc2) (ws ++ [(B9, ((cM r1 r2 r3 r4 r5 r6) ws.length).length, d9)])] ++ (fam 12 (famL kS 24 flatS hs (cM r1 r2 r3 r4 r5 r6)) ++ fam (ws ++ [(B9, ((cM r1 r2 r3 r4 r5 r6) ws.length).length, d9)]).length (famL kS 24 flatS (ws ++ [(B9, ((cM r1 r2 r3 r4 r5 r6) ws.length).length, d9)]) (cM r1 r2 r3 r4 r5 r6))))) := Lib.hid (by
              rw [fam_one]
              have h := HS.out
              first | exact h | (simp only [List.append_assoc] at h; exact h))
            clear HS HG
            go_wp2
            go_roundw
            case rel => exact ⟨ws ++ [(B9, ((cM r1 r2 r3 r4 r5 r6) ws.length).length, d9)], WA2, wq2, wc2, by rw [List.length_append, List.length_singleton]; omega, by rw [List.length_append, List.length_singleton]; go_num, rfl, HS3⟩
            case measure => simp [intOf]; omega
          · have hw12 : ws.length = 12 := by omega
            rw [hw12] at HS
            have HS : Hid (St w wr ([obS (.slice (some ⟨g, 0, none⟩) (m.length + 2) cap) (m ++ [⟨-7, -7⟩, ⟨-8, -8⟩]), obS (.slice B2 m.length d2) m, obRd kS flatS szS (some ⟨w5.heap.size, 0, none⟩) 2 [⟨1, 3⟩, ⟨9, 700⟩], obB w.heap.size #[.int .i64 a, .int .i64 b] 24, obLL (.slice LA 12 lc) hs, obLL (.slice WA wq wc) ws] ++ (fam 12 (famL kS 24 flatS hs (cM r1 r2 r3 r4 r5 r6)) ++ (fam 12 (famL kS 24 flatS ws (cM r1 r2 r3 r4 r5 r6)) ++ [])))) := Lib.hid (by rw [List.append_nil]; exact HS.out)
            have HW := Lib.hid hw12
            have hwz : ¬ ((ws.length : Int) < 12) := by omega
            clear hw12 hlt hk
            go_wp2_with fail
            go_loopw [30] (fun i wr => ∃ k : Nat, k ≤ 6 ∧ i = .int .i64 k ∧ Hid (St w wr ([obS (.slice (some ⟨g, 0, none⟩) (m.length + 2) cap) (m ++ [⟨-7, -7⟩, ⟨-8, -8⟩]), obS (.slice B2 m.length d2) m, obRd kS flatS szS (some ⟨w5.heap.size, 0, none⟩) 2 [⟨1, 3⟩, ⟨9, 700⟩], obB w.heap.size #[.int .i64 a, .int .i64 b] 24, obLL (.slice LA 12 lc) hs, obLL (.slice WA wq wc) ws] ++ (fam 12 (famL kS 24 flatS hs (cM r1 r2 r3 r4 r5 r6)) ++ (fam 12 (famL kS 24 flatS ws (cM r1 r2 r3 r4 r5 r6)) ++ []))))) (fun i _ => 6 - (intOf i).toNat)
            case atStart => exact ⟨0, by omega, rfl, HS⟩
            case round =>
              clear HS
              obtain ⟨k, hk, rfl, HS⟩ := hrel
              by_cases hlt : k < 6
              · have hltz : (k : Int) < 6 := by omega
                obtain ⟨ad, hA, g0⟩ := cellR (HS.out.readW 4 rfl) rfl k (hd_get hs _ (by rw [HH.out]; omega))
                obtain ⟨ad2, hA2, g1⟩ := cellR (HS.out.readW 4 rfl) rfl (6 + k) (hd_get hs _ (by rw [HH.out]; omega))
                subst hA
                obtain rfl := Option.some.inj hA2
                have f0 := fam_at [obS (.slice (some ⟨g, 0, none⟩) (m.length + 2) cap) (m ++ [⟨-7, -7⟩, ⟨-8, -8⟩]), obS (.slice B2 m.length d2) m, obRd kS flatS szS (some ⟨w5.heap.size, 0, none⟩) 2 [⟨1, 3⟩, ⟨9, 700⟩], obB w.heap.size #[.int .i64 a, .int .i64 b] 24, obLL (.slice (some ad) 12 lc) hs, obLL (.slice WA wq wc) ws] (famL kS 24 flatS hs (cM r1 r2 r3 r4 r5 r6)) (fam 12 (famL kS 24 flatS ws (cM r1 r2 r3 r4 r5 r6)) ++ []) (show k < 12 by omega)
                have f1 := fam_at [obS (.slice (some ⟨g, 0, none⟩) (m.length + 2) cap) (m ++ [⟨-7, -7⟩, ⟨-8, -8⟩]), obS (.slice B2 m.length d2) m, obRd kS flatS szS (some ⟨w5.heap.size, 0, none⟩) 2 [⟨1, 3⟩, ⟨9, 700⟩], obB w.heap.size #[.int .i64 a, .int .i64 b] 24, obLL (.slice (some ad) 12 lc) hs, obLL (.slice WA wq wc) ws] (famL kS 24 flatS hs (cM r1 r2 r3 r4 r5 r6)) (fam 12 (famL kS 24 flatS ws (cM r1 r2 r3 r4 r5 r6)) ++ []) (show 6 + k < 12 by omega)
                obtain ⟨s, hsk⟩ : ∃ s, hd hs k = s := ⟨_, rfl⟩
                obtain ⟨t, htk⟩ : ∃ s, hd hs (6 + k) = s := ⟨_, rfl⟩
                have hcl := HLn.out k
                have e6 : (cM r1 r2 r3 r4 r5 r6) (6 + k) = (cM r1 r2 r3 r4 r5 r6) k := cM_six r1 r2 r3 r4 r5 r6 1 k
                rw [show famL kS 24 flatS hs (cM r1 r2 r3 r4 r5 r6) k = obS (hv s) ((cM r1 r2 r3 r4 r5 r6) k) from by show obW _ _ _ _ _ = obW _ _ _ _ _; rw [hsk]] at f0
                rw [show famL kS 24 flatS hs (cM r1 r2 r3 r4 r5 r6) (6 + k) = obS (hv t) ((cM r1 r2 r3 r4 r5 r6) k) from by show obW _ _ _ _ _ = obW _ _ _ _ _; rw [htk, e6]] at f1
                rw [hsk] at g0
                rw [htk] at g1
                have hs1 := (Kd.R_reads' (HS.out.get _ f0)).1
                have ht1 := (Kd.R_reads' (HS.out.get _ f1)).1
                obtain ⟨A, q, c⟩ := s
                obtain ⟨B, p, d⟩ := t
                have hs1 : q = ((cM r1 r2 r3 r4 r5 r6) k).length := hs1
                have ht1 : p = ((cM r1 r2 r3 r4 r5 r6) k).length := ht1
                subst hs1 ht1
                replace g0 : wr.cell? (ad.add k) = some (.slice A ((cM r1 r2 r3 r4 r5 r6) k).length c) := g0
                replace g1 : wr.cell? (ad.add (6 + k)) = some (.slice B ((cM r1 r2 r3 r4 r5 r6) k).length d) := g1
                have F0 := Lib.hid f0
                have F1 := Lib.hid f1
                have XX := fun q => quiet_w (d_same (St.read_ (HS.out.drewN q) _ F0.out).1 (St.read_ (HS.out.drewN q) _ F0.out).2 (St.read_ (HS.out.drewN q) _ F1.out).1 (St.read_ (HS.out.drewN q) _ F1.out).2 (show ((cM r1 r2 r3 r4 r5 r6) k).length ≤ 4000000 by omega))
                have HX := Lib.hid XX
                clear XX
                clear f0 f1 e6 hsk htk hA2
                go_wp2_with fail
                go_quiet ((go_at_call 12; exact HX.out _))
                have HS3 := Lib.hid (HS.out.drewN nq)
                clear HS
                go_wp2
                go_roundw
                case rel => exact ⟨k + 1, by omega, by go_num, HS3⟩
                case measure => simp [intOf]; omega
              · have hkz : ¬ ((k : Int) < 6) := by omega
                have HS : Hid (St w wr ([obS (.slice (some ⟨g, 0, none⟩) (m.length + 2) cap) (mixL (insS m.length) m 0 ++ [⟨-7, -7⟩, ⟨-8, -8⟩]), obS (.slice B2 m.length d2) m, obRd kS flatS szS (some ⟨w5.heap.size, 0, none⟩) 2 [⟨1, 3⟩, ⟨9, 700⟩], obB w.heap.size #[.int .i64 a, .int .i64 b] 24, obLL (.slice LA 12 lc) hs, obLL (.slice WA wq wc) ws] ++ (fam 12 (famL kS 24 flatS hs (cM r1 r2 r3 r4 r5 r6)) ++ (fam 12 (famL kS 24 flatS ws (cM r1 r2 r3 r4 r5 r6)) ++ [])))) := HS
                clear hlt hk
                go_wp2_with fail
                go_loopw [31] (fun i wr => ∃ k : Nat, k ≤ m.length ∧ i = .int .i64 k ∧ Hid (St w wr ([obS (.slice (some ⟨g, 0, none⟩) (m.length + 2) cap) (mixL (insS m.length) m k ++ [⟨-7, -7⟩, ⟨-8, -8⟩]), obS (.slice B2 m.length d2) m, obRd kS flatS szS (some ⟨w5.heap.size, 0, none⟩) 2 [⟨1, 3⟩, ⟨9, 700⟩], obB w.heap.size #[.int .i64 a, .int .i64 b] 24, obLL (.slice LA 12 lc) hs, obLL (.slice WA wq wc) ws] ++ (fam 12 (famL kS 24 flatS hs (cM r1 r2 r3 r4 r5 r6)) ++ (fam 12 (famL kS 24 flatS ws (cM r1 r2 r3 r4 r5 r6)) ++ []))))) (fun i _ => m.length - (intOf i).toNat)
                case atStart => exact ⟨0, by omega, rfl, HS⟩
                case round =>
                  clear HS
                  obtain ⟨k, hk, rfl, HS⟩ := hrel
                  by_cases hlt : k < m.length
                  · have hltz : (k : Int) < (m.length : Int) := by omega
                    have hltz2 : (k : Int) < ((m.length + 2 : Nat) : Int) := by omega
                    go_wp2_with (refine gate_ (.store 24 (.tmp 182) (.tmp 181)) rfl ?_; go_must (refine wpList_store_St kS HS.out 0 rfl rfl rfl 24 (.tmp 182) (.tmp 181) rfl (k : Int) (by omega) hltz2 ⟨3 * (k : Int), 3 * (k : Int) + 2⟩ _ [.int .i64 (3 * (k : Int)), .int .i64 (3 * (k : Int) + 2)] ?h1 rfl rfl sizS rfl (Q.k24_mk _ _) ?_))
                    case h1 => rfl
                    intro w30 HS9
                    clear HS
                    go_wp2
                    go_roundw
                    case rel => exact ⟨k + 1, by omega, by go_num, Lib.hid (by
                      rw [← ins_set m.length m [⟨-7, -7⟩, ⟨-8, -8⟩] rfl k hlt]
                      exact HS9.out)⟩
                    case measure => simp [intOf]; omega
                  · have hkn : k = m.length := by omega
                    have hkz : ¬ ((k : Int) < (m.length : Int)) := by omega
                    rw [hkn] at HS
                    have HS : Hid (St w wr ([obS (.slice (some ⟨g, 0, none⟩) (m.length + 2) cap) (insS m.length ++ [⟨-7, -7⟩, ⟨-8, -8⟩]), obS (.slice B2 m.length d2) m, obRd kS flatS szS (some ⟨w5.heap.size, 0, none⟩) 2 [⟨1, 3⟩, ⟨9, 700⟩], obB w.heap.size #[.int .i64 a, .int .i64 b] 24, obLL (.slice LA 12 lc) hs, obLL (.slice WA wq wc) ws] ++ (fam 12 (famL kS 24 flatS hs (cM r1 r2 r3 r4 r5 r6)) ++ (fam 12 (famL kS 24 flatS ws (cM r1 r2 r3 r4 r5 r6)) ++ [])))) := Lib.hid (by
                      have h := HS.out
                      rw [show mixL (insS m.length) m m.length = insS m.length from mixL_all (insS_len m.length)] at h
                      exact h)
                    clear hkn hlt hk
                    by_cases h2 : m.length ≤ 20000
                    · have h2z : (m.length : Int) ≤ 20000 := by omega
                      have h2b : decide ((m.length : Int) ≤ 20000) = true := by simp; omega
                      have hmm : (2 * (m.length : Int) != 2 * (m.length : Int)) = false := by simp
                      have hns := insS_norm m.length h2
                      have hnz := insS_size m.length h2
                      obtain ⟨X, hX⟩ : ∃ X, insS m.length = X := ⟨_, rfl⟩
                      have hXl : X.length ≤ 4000000 := by rw [← hX, insS_len]; omega
                      have HNS := Lib.hid hns
                      have HNZ := Lib.hid hnz
                      have HXX := Lib.hid hX
                      have HXN := Lib.hid (show X.length = m.length by rw [← hX, insS_len])
                      clear hns hnz hX
                      go_wp2_with fail
                      refine (m_normN HS.out (St.front_ HS.out 0 (l := insS m.length) (t := [⟨-7, -7⟩, ⟨-8, -8⟩]) rfl) (by rw [insS_len]; omega) (insS_len _) (r := X) (x := 0) (by rw [HNS.out, HXX.out])).mono ?_
                      rintro e w31 ⟨BX, dX, rfl, hs'⟩
                      rw [HXN.out] at hs' ⊢
                      have HS := Lib.hid hs'
                      clear hs'
                      go_wp2_with fail
                      refine (m_sizeN HS.out (St.front_ HS.out 0 (l := insS m.length) (t := [⟨-7, -7⟩, ⟨-8, -8⟩]) rfl) (by rw [insS_len]; omega) (insS_len _) HNZ.out).mono ?_
                      rintro e w32 ⟨rfl, hs'⟩
                      have HS := Lib.hid hs'
                      clear hs'
                      go_wp2_with fail
                      refine (m_sameN (l := X) HS.out (St.read_ HS.out 30 rfl) (by have h := (St.front_ HS.out 0 (l := insS m.length) (t := [⟨-7, -7⟩, ⟨-8, -8⟩]) rfl); rw [HXX.out] at h; exact h) hXl HXN.out).mono ?_
                      rintro e w33 ⟨rfl, hs'⟩
                      have HS := Lib.hid hs'
                      clear hs'
                      have HS : Hid (St w _ ([obS (.slice (some ⟨g, 0, none⟩) (m.length + 2) cap) (insS m.length ++ [⟨-7, -7⟩, ⟨-8, -8⟩]), obS (.slice B2 m.length d2) m, obRd kS flatS szS (some ⟨w5.heap.size, 0, none⟩) 2 [⟨1, 3⟩, ⟨9, 700⟩], obB w.heap.size #[.int .i64 a, .int .i64 b] 24, obLL (.slice LA 12 lc) hs, obLL (.slice WA wq wc) ws] ++ (fam 12 (famL kS 24 flatS hs (cM r1 r2 r3 r4 r5 r6)) ++ (fam 12 (famL kS 24 flatS ws (cM r1 r2 r3 r4 r5 r6)) ++ [obS (.slice BX m.length dX) X])))) := Lib.hid (by have h := HS.out; first | exact h | (simp only [List.append_assoc, List.nil_append] at h; exact h))
                      go_wp2_with fail
                      go_loopw [35] (fun i wr => ∃ k : Nat, k ≤ 12 ∧ i = .int .i64 k ∧ Hid (St w wr ([obS (.slice (some ⟨g, 0, none⟩) (m.length + 2) cap) (insS m.length ++ [⟨-7, -7⟩, ⟨-8, -8⟩]), obS (.slice B2 m.length d2) m, obRd kS flatS szS (some ⟨w5.heap.size, 0, none⟩) 2 [⟨1, 3⟩, ⟨9, 700⟩], obB w.heap.size #[.int .i64 a, .int .i64 b] 24, obLL (.slice LA 12 lc) hs, obLL (.slice WA wq wc) ws] ++ (fam 12 (famL kS 24 flatS hs (cM r1 r2 r3 r4 r5 r6)) ++ (fam 12 (famL kS 24 flatS ws (cM r1 r2 r3 r4 r5 r6)) ++ [obS (.slice BX m.length dX) X]))))) (fun i _ => 12 - (intOf i).toNat)
                      case atStart => exact ⟨0, by omega, rfl, HS⟩
                      case round =>
                        clear HS
                        obtain ⟨k, hk, rfl, HS⟩ := hrel
                        by_cases hlt : k < 12
                        · have hltz : (k : Int) < 12 := by omega
                          obtain ⟨ad, hA, g0⟩ := cellR (HS.out.readW 4 rfl) rfl k (hd_get hs _ (by rw [HH.out]; omega))
                          obtain ⟨ad2, hA2, g1⟩ := cellR (HS.out.readW 5 rfl) rfl k (hd_get ws _ (by rw [HW.out]; omega))
                          subst hA hA2
                          have f0 := fam_at [obS (.slice (some ⟨g, 0, none⟩) (m.length + 2) cap) (insS m.length ++ [⟨-7, -7⟩, ⟨-8, -8⟩]), obS (.slice B2 m.length d2) m, obRd kS flatS szS (some ⟨w5.heap.size, 0, none⟩) 2 [⟨1, 3⟩, ⟨9, 700⟩], obB w.heap.size #[.int .i64 a, .int .i64 b] 24, obLL (.slice (some ad) 12 lc) hs, obLL (.slice (some ad2) wq wc) ws] (famL kS 24 flatS hs (cM r1 r2 r3 r4 r5 r6)) (fam 12 (famL kS 24 flatS ws (cM r1 r2 r3 r4 r5 r6)) ++ [obS (.slice BX m.length dX) X]) hlt
                          have f1 := fam_at2 [obS (.slice (some ⟨g, 0, none⟩) (m.length + 2) cap) (insS m.length ++ [⟨-7, -7⟩, ⟨-8, -8⟩]), obS (.slice B2 m.length d2) m, obRd kS flatS szS (some ⟨w5.heap.size, 0, none⟩) 2 [⟨1, 3⟩, ⟨9, 700⟩], obB w.heap.size #[.int .i64 a, .int .i64 b] 24, obLL (.slice (some ad) 12 lc) hs, obLL (.slice (some ad2) wq wc) ws] (n := 12) (famL kS 24 flatS hs (cM r1 r2 r3 r4 r5 r6)) (famL kS 24 flatS ws (cM r1 r2 r3 r4 r5 r6)) [obS (.slice BX m.length dX) X] hlt
                          obtain ⟨s, hsk⟩ : ∃ s, hd hs k = s := ⟨_, rfl⟩
                          obtain ⟨t, htk⟩ : ∃ s, hd ws k = s := ⟨_, rfl⟩
                          have hcl := HLn.out k
                          rw [show famL kS 24 flatS hs (cM r1 r2 r3 r4 r5 r6) k = obS (hv s) ((cM r1 r2 r3 r4 r5 r6) k) from by show obW _ _ _ _ _ = obW _ _ _ _ _; rw [hsk]] at f0
                          rw [show famL kS 24 flatS ws (cM r1 r2 r3 r4 r5 r6) k = obS (hv t) ((cM r1 r2 r3 r4 r5 r6) k) from by show obW _ _ _ _ _ = obW _ _ _ _ _; rw [htk]] at f1
                          rw [hsk] at g0
                          rw [htk] at g1
                          have hs1 := (Kd.R_reads' (HS.out.get _ f0)).1
                          have ht1 := (Kd.R_reads' (HS.out.get _ f1)).1
                          obtain ⟨A, q, c⟩ := s
                          obtain ⟨B, p, d⟩ := t
                          have hs1 : q = ((cM r1 r2 r3 r4 r5 r6) k).length := hs1
                          have ht1 : p = ((cM r1 r2 r3 r4 r5 r6) k).length := ht1
                          subst hs1 ht1
                          have hwq : wq = 12 := by have := (Kd.R_reads' (HS.out.get 5 rfl)).1; rw [this, HW.out]
                          have hwqz : (k : Int) < (wq : Int) := by omega
                          replace g0 : wr.cell? (ad.add k) = some (.slice A ((cM r1 r2 r3 r4 r5 r6) k).length c) := g0
                          replace g1 : wr.cell? (ad2.add k) = some (.slice B ((cM r1 r2 r3 r4 r5 r6) k).length d) := g1
                          have F0 := Lib.hid f0
                          have F1 := Lib.hid f1
                          have XX := fun q => quiet_w (d_same (St.read_ (HS.out.drewN q) _ F0.out).1 (St.read_ (HS.out.drewN q) _ F0.out).2 (St.read_ (HS.out.drewN q) _ F1.out).1 (St.read_ (HS.out.drewN q) _ F1.out).2 (show ((cM r1 r2 r3 r4 r5 r6) k).length ≤ 4000000 by omega))
                          have HX := Lib.hid XX
                          clear XX f0 f1 hsk htk hwq
                          go_wp2_with fail
                          go_quiet ((go_at_call 12; exact HX.out _))
                          have HS3 := Lib.hid (HS.out.drewN nq)
                          clear HS
                          go_wp2
                          go_roundw
                          case rel => exact ⟨k + 1, by omega, by go_num, HS3⟩
                          case measure => simp [intOf]; omega
                        · have hkz : ¬ ((k : Int) < 12) := by omega
                          clear hlt hk
                          go_wp2_with (at_builtin; go_must (refine wpList_append_St kSl HS.out 4 rfl rfl (.tmp 224) (.tmp 226) 41 (.slice none 0 0) 24 rfl Try.underlying41 infoL rfl (by decide) (by decide) (BX, m.length, dX) [.slice BX m.length dX] rfl rfl rfl (by rw [HH.out]; decide) ?_))
                          intro v40 w40 HG HS
                          have hq13 : ∃ B c, v40 = .slice B 13 c := by obtain ⟨B, c, h⟩ := HG.out.slice; rw [HH.out] at h; exact ⟨_, c, h⟩
                          obtain ⟨LA2, lc2, hv40⟩ := hq13
                          subst hv40
                          have HS3 : Hid (St w w40 ([obLL (.slice LA2 13 lc2) (hs ++ [(BX, m.length, dX)])] ++ (fam 13 (famL kS 24 flatS (hs ++ [(BX, m.length, dX)]) (ct13 (cM r1 r2 r3 r4 r5 r6) X)) ++ ([obS (.slice (some ⟨g, 0, none⟩) (m.length + 2) cap) (insS m.length ++ [⟨-7, -7⟩, ⟨-8, -8⟩]), obS (.slice B2 m.length d2) m, obRd kS flatS szS (some ⟨w5.heap.size, 0, none⟩) 2 [⟨1, 3⟩, ⟨9, 700⟩], obB w.heap.size #[.int .i64 a, .int .i64 b] 24, obLL (.slice none 0 0) [], obLL (.slice WA wq wc) ws].eraseIdx 4 ++ fam 12 (famL kS 24 flatS ws (cM r1 r2 r3 r4 r5 r6)))))) := Lib.hid (by
                            rw [fam13 hs _ _ _ HH.out]
                            exact HS.out.perm (permA _ _ _ _ _ _ _ _ _))
                          have HM := Lib.hid (apart_calls LA2 lc2 13 (hs ++ [(BX, m.length, dX)]) (ct13 (cM r1 r2 r3 r4 r5 r6) X) w w40 _ (by omega) (fun i _ => by
                            unfold ct13
                            split
                            · exact Nat.le_trans (HLn.out i) (by omega)
                            · exact hXl) (by rw [List.length_append, HH.out]; rfl) HS3.out)
                          clear HS HG
                          go_wp2_with fail
                          refine HM.out.mono ?_
                          rintro e w41 ⟨rfl, Δ, hs'⟩
                          have HB := Lib.hid hs'.bl
                          clear hs' HM
                          go_wp2
                          go_ret
                          exact ⟨rfl, HB.out⟩
                    · have h2z : (20000 : Int) < (m.length : Int) := by omega
                      have h2b : decide ((m.length : Int) ≤ 20000) = false := by simp; omega
                      obtain ⟨X, x9, hnx⟩ : ∃ r x, Q.normS (insS m.length) = (r, x) := ⟨_, _, rfl⟩
                      have hXl : X.length ≤ 4000000 := by have := Q.norm_len (insS m.length); rw [hnx] at this; exact Nat.le_trans this (by omega)
                      have HNX := Lib.hid hnx
                      clear hnx
                      go_wp2_with fail
                      refine (m_normN HS.out (St.front_ HS.out 0 (l := insS m.length) (t := [⟨-7, -7⟩, ⟨-8, -8⟩]) rfl) (by rw [insS_len]; omega) (insS_len _) HNX.out).mono ?_
                      rintro e w31 ⟨BX, dX, rfl, hs'⟩
                      have HS := Lib.hid hs'
                      clear hs'
                      go_wp2_with fail
                      refine (m_sizeN HS.out (St.front_ HS.out 0 (l := insS m.length) (t := [⟨-7, -7⟩, ⟨-8, -8⟩]) rfl) (by rw [insS_len]; omega) (insS_len _) rfl).mono ?_
                      rintro e w32 ⟨rfl, hs'⟩
                      have HS := Lib.hid hs'
                      clear hs'
                      generalize Q.sizeA (insS m.length) = z9
                      have HS : Hid (St w _ ([obS (.slice (some ⟨g, 0, none⟩) (m.length + 2) cap) (insS m.length ++ [⟨-7, -7⟩, ⟨-8, -8⟩]), obS (.slice B2 m.length d2) m, obRd kS flatS szS (some ⟨w5.heap.size, 0, none⟩) 2 [⟨1, 3⟩, ⟨9, 700⟩], obB w.heap.size #[.int .i64 a, .int .i64 b] 24, obLL (.slice LA 12 lc) hs, obLL (.slice WA wq wc) ws] ++ (fam 12 (famL kS 24 flatS hs (cM r1 r2 r3 r4 r5 r6)) ++ (fam 12 (famL kS 24 flatS ws (cM r1 r2 r3 r4 r5 r6)) ++ [obS (.slice BX X.length dX) X])))) := Lib.hid (by have h := HS.out; first | exact h | (simp only [List.append_assoc, List.nil_append] at h; exact h))
                      go_wp2_with fail
                      go_loopw [35] (fun i wr => ∃ k : Nat, k ≤ 12 ∧ i = .int .i64 k ∧ Hid (St w wr ([obS (.slice (some ⟨g, 0, none⟩) (m.length + 2) cap) (insS m.length ++ [⟨-7, -7⟩, ⟨-8, -8⟩]), obS (.slice B2 m.length d2) m, obRd kS flatS szS (some ⟨w5.heap.size, 0, none⟩) 2 [⟨1, 3⟩, ⟨9, 700⟩], obB w.heap.size #[.int .i64 a, .int .i64 b] 24, obLL (.slice LA 12 lc) hs, obLL (.slice WA wq wc) ws] ++ (fam 12 (famL kS 24 flatS hs (cM r1 r2 r3 r4 r5 r6)) ++ (fam 12 (famL kS 24 flatS ws (cM r1 r2 r3 r4 r5 r6)) ++ [obS (.slice BX X.length dX) X]))))) (fun i _ => 12 - (intOf i).toNat)
                      case atStart => exact ⟨0, by omega, rfl, HS⟩
                      case round =>
                        clear HS
                        obtain ⟨k, hk, rfl, HS⟩ := hrel
                        by_cases hlt : k < 12
                        · have hltz : (k : Int) < 12 := by omega
                          obtain ⟨ad, hA, g0⟩ := cellR (HS.out.readW 4 rfl) rfl k (hd_get hs _ (by rw [HH.out]; omega))
                          obtain ⟨ad2, hA2, g1⟩ := cellR (HS.out.readW 5 rfl) rfl k (hd_get ws _ (by rw [HW.out]; omega))
                          subst hA hA2
                          have f0 := fam_at [obS (.slice (some ⟨g, 0, none⟩) (m.length + 2) cap) (insS m.length ++ [⟨-7, -7⟩, ⟨-8, -8⟩]), obS (.slice B2 m.length d2) m, obRd kS flatS szS (some ⟨w5.heap.size, 0, none⟩) 2 [⟨1, 3⟩, ⟨9, 700⟩], obB w.heap.size #[.int .i64 a, .int .i64 b] 24, obLL (.slice (some ad) 12 lc) hs, obLL (.slice (some ad2) wq wc) ws] (famL kS 24 flatS hs (cM r1 r2 r3 r4 r5 r6)) (fam 12 (famL kS 24 flatS ws (cM r1 r2 r3 r4 r5 r6)) ++ [obS (.slice BX X.length dX) X]) hlt
                          have f1 := fam_at2 [obS (.slice (some ⟨g, 0, none⟩) (m.length + 2) cap) (insS m.length ++ [⟨-7, -7⟩, ⟨-8, -8⟩]), obS (.slice B2 m.length d2) m, obRd kS flatS szS (some ⟨w5.heap.size, 0, none⟩) 2 [⟨1, 3⟩, ⟨9, 700⟩], obB w.heap.size #[.int .i64 a, .int .i64 b] 24, obLL (.slice (some ad) 12 lc) hs, obLL (.slice (some ad2) wq wc) ws] (n := 12) (famL kS 24 flatS hs (cM r1 r2 r3 r4 r5 r6)) (famL kS 24 flatS ws (cM r1 r2 r3 r4 r5 r6)) [obS (.slice BX X.length dX) X] hlt
                          obtain ⟨s, hsk⟩ : ∃ s, hd hs k = s := ⟨_, rfl⟩
                          obtain ⟨t, htk⟩ : ∃ s, hd ws k = s := ⟨_, rfl⟩
                          have hcl := HLn.out k
                          rw [show famL kS 24 flatS hs (cM r1 r2 r3 r4 r5 r6) k = obS (hv s) ((cM r1 r2 r3 r4 r5 r6) k) from by show obW _ _ _ _ _ = obW _ _ _ _ _; rw [hsk]] at f0
                          rw [show famL kS 24 flatS ws (cM r1 r2 r3 r4 r5 r6) k = obS (hv t) ((cM r1 r2 r3 r4 r5 r6) k) from by show obW _ _ _ _ _ = obW _ _ _ _ _; rw [htk]] at f1
                          rw [hsk] at g0
                          rw [htk] at g1
                          have hs1 := (Kd.R_reads' (HS.out.get _ f0)).1
                          have ht1 := (Kd.R_reads' (HS.out.get _ f1)).1
                          obtain ⟨A, q, c⟩ := s
                          obtain ⟨B, p, d⟩ := t
                          have hs1 : q = ((cM r1 r2 r3 r4 r5 r6) k).length := hs1
                          have ht1 : p = ((cM r1 r2 r3 r4 r5 r6) k).length := ht1
                          subst hs1 ht1
                          have hwq : wq = 12 := by have := (Kd.R_reads' (HS.out.get 5 rfl)).1; rw [this, HW.out]
                          have hwqz : (k : Int) < (wq : Int) := by omega
                          replace g0 : wr.cell? (ad.add k) = some (.slice A ((cM r1 r2 r3 r4 r5 r6) k).length c) := g0
                          replace g1 : wr.cell? (ad2.add k) = some (.slice B ((cM r1 r2 r3 r4 r5 r6) k).length d) := g1
                          have F0 := Lib.hid f0
                          have F1 := Lib.hid f1
                          have XX := fun q => quiet_w (d_same (St.read_ (HS.out.drewN q) _ F0.out).1 (St.read_ (HS.out.drewN q) _ F0.out).2 (St.read_ (HS.out.drewN q) _ F1.out).1 (St.read_ (HS.out.drewN q) _ F1.out).2 (show ((cM r1 r2 r3 r4 r5 r6) k).length ≤ 4000000 by omega))
                          have HX := Lib.hid XX
                          clear XX f0 f1 hsk htk hwq
                          go_wp2_with fail
                          go_quiet ((go_at_call 12; exact HX.out _))
                          have HS3 := Lib.hid (HS.out.drewN nq)
                          clear HS
                          go_wp2
                          go_roundw
                          case rel => exact ⟨k + 1, by omega, by go_num, HS3⟩
                          case measure => simp [intOf]; omega
                        · have hkz : ¬ ((k : Int) < 12) := by omega
                          clear hlt hk
                          go_wp2_with (at_builtin; go_must (refine wpList_append_St kSl HS.out 4 rfl rfl (.tmp 224) (.tmp 226) 41 (.slice none 0 0) 24 rfl Try.underlying41 infoL rfl (by decide) (by decide) (BX, X.length, dX) [.slice BX X.length dX] rfl rfl rfl (by rw [HH.out]; decide) ?_))
                          intro v40 w40 HG HS
                          have hq13 : ∃ B c, v40 = .slice B 13 c := by obtain ⟨B, c, h⟩ := HG.out.slice; rw [HH.out] at h; exact ⟨_, c, h⟩
                          obtain ⟨LA2, lc2, hv40⟩ := hq13
                          subst hv40
                          have HS3 : Hid (St w w40 ([obLL (.slice LA2 13 lc2) (hs ++ [(BX, X.length, dX)])] ++ (fam 13 (famL kS 24 flatS (hs ++ [(BX, X.length, dX)]) (ct13 (cM r1 r2 r3 r4 r5 r6) X)) ++ ([obS (.slice (some ⟨g, 0, none⟩) (m.length + 2) cap) (insS m.length ++ [⟨-7, -7⟩, ⟨-8, -8⟩]), obS (.slice B2 m.length d2) m, obRd kS flatS szS (some ⟨w5.heap.size, 0, none⟩) 2 [⟨1, 3⟩, ⟨9, 700⟩], obB w.heap.size #[.int .i64 a, .int .i64 b] 24, obLL (.slice none 0 0) [], obLL (.slice WA wq wc) ws].eraseIdx 4 ++ fam 12 (famL kS 24 flatS ws (cM r1 r2 r3 r4 r5 r6)))))) := Lib.hid (by
                            rw [fam13 hs _ _ _ HH.out]
                            exact HS.out.perm (permA _ _ _ _ _ _ _ _ _))
                          have HM := Lib.hid (apart_calls LA2 lc2 13 (hs ++ [(BX, X.length, dX)]) (ct13 (cM r1 r2 r3 r4 r5 r6) X) w w40 _ (by omega) (fun i _ => by
                            unfold ct13
                            split
                            · exact Nat.le_trans (HLn.out i) (by omega)
                            · exact hXl) (by rw [List.length_append, HH.out]; rfl) HS3.out)
                          clear HS HG
                          go_wp2_with fail
                          refine HM.out.mono ?_
                          rintro e w41 ⟨rfl, Δ, hs'⟩
                          have HB := Lib.hid hs'.bl
                          clear hs' HM
                          go_wp2
                          go_ret
                          exact ⟨rfl, HB.out⟩
  · have HN := Lib.hid hn
    clear hn hnl
    go_enter Try.func7, Try.ntmps7
    go_wp2_with fail
    refine (m_alive HS.out).mono ?_
    rintro e w1 ⟨rfl, hs⟩
    have HS := Lib.hid hs
    clear hs
    go_wp2_with fail
    refine (m_own HS.out (HS.out.get 0 rfl).1 hc0 (by omega)).mono ?_
    rintro e w2 ⟨B1, d1, rfl, hs⟩
    have HS := Lib.hid hs
    clear hs
    obtain ⟨hq1, hq2⟩ := St.read_ HS.out 2 rfl
    have HQ := Lib.hid hq1
    clear hq1
    go_wp2_with fail
    refine (m_norm HS.out HQ.out hq2 (by omega) HN.out).mono ?_
    rintro e w3 ⟨B2, d2, rfl, hs⟩
    have HS := Lib.hid hs
    clear hs HQ hq2
    go_wp2
    go_ret
    exact ⟨rfl, HS.out.bl⟩
end Go.Proofs.Ytmfckkgebdfhjaa.MA
