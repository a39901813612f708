/- The walk of the statement HolesKeeps: whatever the two scripts: true, and all memory stays as it was. No condition but the numbers' own range. -/
import Derived.Test.YtdlgocieecfpbaaM2
import Derived.Test.YtdlgocieecfpbaaN1
import Derived.Test.YtdlgocieecfpbaaK
namespace Go.Proofs.Ytdlgocieecfpbaa.Q
open Go.RowKit Go.Proofs.YtdlgocieecfpbaaW.PrintWords Go.Proofs.YtdlgocieecfpbaaW.PrintLast Go.Proofs.YtdlgocieecfpbaaW.PrintMore Go.Proofs.Ytdlgocieecfpbaa.SL
attribute [local go_sem ↓] Go.wp_at_zero Go.wp_at_succ
abbrev PcK := S33
theorem right_len3 {T : Int → Bool} {l : List Sp} {en : Int} (h : Inv T l en) : l.length ≤ 2000000 := Nat.le_trans (rightB_len h.right) (by omega)
theorem rdPK (l : List PcK) (i : Nat) (h : i < l.length) : rd_T33 l (i : Int) = l[i] := by
  simp [rd_T33, List.getD_eq_getElem?_getD, List.getElem?_eq_getElem h]
theorem cellsPK {w : World} {A : Option Addr} {l : List PcK} (h : k33.C w A l.length l) (i : Nat) (hi : i < l.length) : ∃ ad, A = some ad ∧ w.cell? (ad.add (i * 3)) = some (.int .i64 l[i].f0) ∧ w.cell? ⟨(ad.add (i * 3)).block, (ad.add (i * 3)).off + 1, none⟩ = some (.int .i64 l[i].f1) ∧ w.cell? ⟨(ad.add (i * 3)).block, (ad.add (i * 3)).off + 2, none⟩ = some (.bool l[i].f2) := by
  obtain ⟨ad, hA, h0, h1, h2⟩ := at_T33 h (i : Int) (by omega) (by omega)
  rw [rdPK l i hi, Int.toNat_natCast] at h0 h1 h2
  exact ⟨ad, hA, h0, h1, h2⟩
theorem litSl (w : World) (e : TypeId) (ss : List Hdr) (hl : ss.length ≤ 100) : kSl.C (w.alloc (.cells (ss.map hv).toArray e)) (some ⟨w.heap.size, 0, none⟩) ss.length ss := by
  refine ⟨rfl, by omega, fun _ => ⟨_, rfl, fun j p hj => ⟨[hv p], rfl, rfl, fun i u hu => ?_⟩⟩⟩
  match i, hu with
  | 0, hu =>
    obtain rfl := Option.some.inj hu
    rw [add_plain, cell_of_row _ _ _ _ _ _ (heap_alloc_new w _)]
    simp [kSl, Kd.scalar, hj]
abbrev G6 (p : Nat) (A : Option Addr) (c : Nat) (l : List Sp) (en : Int) (p2 : Nat) (B : Option Addr) (d : Nat) (m : List Sp) (fn : Int) (p3 : Nat) (C : Option Addr) (f : Nat) (l3 : List Sp) (en3 : Int) (v8 : Value) (ks : List Hdr) (v9 : Value) (ws : List Hdr) (T : List Ob) : List Ob :=
  obH p A c l en :: obH p2 B d m fn :: obH p3 C f l3 en3 :: obLL v8 ks :: obLL v9 ws :: T
theorem G6_get {p : Nat} {A : Option Addr} {c : Nat} {l : List Sp} {en : Int} {p2 : Nat} {B : Option Addr} {d : Nat} {m : List Sp} {fn : Int} {p3 : Nat} {C : Option Addr} {f : Nat} {l3 : List Sp} {en3 : Int} {v8 : Value} {ks : List Hdr} {v9 : Value} {ws : List Hdr} {T N : List Ob} (j : Nat) :
    (G6 p A c l en p2 B d m fn p3 C f l3 en3 v8 ks v9 ws (T ++ N))[5 + T.length + j]? = N[j]? := tail_get _ _ _ _ _ T N j
theorem Kept.keep {Γ Γ' : List Ob} {P : Nat} {its jts : List It} (h : Kept Γ P its jts) (hk : ∀ j, 5 ≤ j → Γ'[j]? = Γ[j]?) : Kept Γ' P its jts := ⟨fun x hx => (hk _ (h.rng x hx).1).trans (h.has x hx), h.nd, h.rng, h.same, h.len⟩
theorem five_old (a b c k u a' b' c' k' u' : Ob) (T : List Ob) (j : Nat) (h : 5 ≤ j) : (a' :: b' :: c' :: k' :: u' :: T)[j]? = (a :: b :: c :: k :: u :: T)[j]? := by
  obtain ⟨i, rfl⟩ : ∃ i, j = i + 5 := ⟨j - 5, by omega⟩
  simp only [List.getElem?_cons_succ]
theorem assoc5 {w0 w : World} {a b c k u : Ob} {T N M : List Ob} (h : St w0 w (a :: b :: c :: k :: u :: ((T ++ N) ++ M))) : St w0 w (a :: b :: c :: k :: u :: (T ++ (N ++ M))) := by
  rw [List.append_assoc] at h; exact h
set_option maxHeartbeats 16000000 in
set_option maxRecDepth 100000 in
theorem keeps_calls (A0 A1 : Option Addr) (c0 c1 : Nat) (ps qs : List PcK) (w : World) (hp : k33.C w A0 ps.length ps) (hq : k33.C w A1 qs.length qs) :
    Calls Try.prog 7 #[.slice A0 ps.length c0, .slice A1 qs.length c1] w fun e w' => e = .returned (.bool true) ∧ Below w.heap.size w w' := by
  have hu := Try.underlying50
  have hu3 := Try.underlying33
  have hpl : ps.length ≤ 9223372036854775807 := hp.2.1
  have hql : qs.length ≤ 9223372036854775807 := hq.2.1
  have HP := Lib.hid hp
  have HQ := Lib.hid hq
  clear hp hq
  have HS := Lib.hid (St.nil w)
  go_enter Try.func7, Try.ntmps7
  go_wp2_with fail
  refine (c_new HS.out).mono ?_
  rintro e w1 ⟨p, A, c, rfl, hs⟩
  have HS := Lib.hid hs
  clear hs
  go_wp2_with fail
  refine (c_new HS.out).mono ?_
  rintro e w2 ⟨p2, A2, c2, rfl, hs⟩
  have HS := Lib.hid hs
  clear hs
  go_wp2_with fail
  refine (c_new HS.out).mono ?_
  rintro e w3 ⟨p3, A3, c3, rfl, hs⟩
  have HS := Lib.hid hs
  clear hs
  go_wp2_with fail
  refine (known_calls _).mono ?_
  rintro e wk ⟨rfl, hb⟩
  have HS2 : Hid (St w wk (G6 p A c [⟨0, 65535⟩] (-1) p2 A2 c2 [⟨0, 65535⟩] (-1) p3 A3 c3 [⟨0, 65535⟩] (-1) (.slice none 0 0) [] (.slice none 0 0) [] [])) := Lib.hid (((HS.out.below hb).newW (d := kSl) (e := 30) flatSl).newW (d := kSl) (e := 30) flatSl)
  clear hb HS
  go_wp2_with fail
  go_loopw [8, 9, 10] (fun v8 v9 i wr => ∃ (k : Nat) (T1 : Int → Bool) (l : List Sp) (en : Int) (A : Option Addr) (c : Nat) (T2 : Int → Bool) (m : List Sp) (fn : Int) (B : Option Addr) (d : Nat) (C : Option Addr) (f : Nat) (KA : Option Addr) (kq kc : Nat) (WA : Option Addr) (wq wc : Nat) (its jts : List It) (ks ws : List Hdr) (T : List Ob),
    k ≤ ps.length ∧ k ≤ 60 ∧ its.length ≤ 4 * k ∧ i = .int .i64 k ∧ v8 = .slice KA kq kc ∧ v9 = .slice WA wq wc ∧ Hid (Inv T1 l en) ∧ Hid (Inv T2 m fn) ∧
    Hid (ks = its.map (·.1) ∧ ws = jts.map (·.1)) ∧ Hid (Kept (G6 p A c l en p2 B d m fn p3 C f l en (.slice KA kq kc) ks (.slice WA wq wc) ws T) (5 + T.length) its jts) ∧ Hid (St w wr (G6 p A c l en p2 B d m fn p3 C f l en (.slice KA kq kc) ks (.slice WA wq wc) ws T))) (fun _ _ i _ => 60 - (intOf i).toNat)
  case atStart => exact ⟨0, _, _, _, _, _, _, _, _, _, _, _, _, none, 0, 0, none, 0, 0, [], [], [], [], [], Nat.zero_le _, by omega, Nat.zero_le _, rfl, rfl, rfl, Lib.hid Inv.start, Lib.hid Inv.start, Lib.hid ⟨rfl, rfl⟩, Lib.hid (Kept.nil _ _), HS2⟩
  case round =>
    obtain ⟨k, T1, l, en, A, c, T2, m, fn, B, d, C, f, KA, kq, kc, WA, wq, wc, its, jts, ks, ws, T, hk1, hk2, hkI, rfl, rfl, rfl, HI, HJ, HKW, HK, HS⟩ := hrel
    clear HS2
    have hkIz : (its.length : Int) ≤ 240 := by omega
    have hkl : ks.length ≤ 240 := by rw [HKW.out.1, List.length_map]; omega
    have hwl : ws.length ≤ 240 := by have := congrArg List.length HK.out.same; rw [HKW.out.2, List.length_map]; simp only [List.length_map] at this; omega
    by_cases hk : k < ps.length ∧ k < 60
    · obtain ⟨hka, hkb⟩ := hk
      have hkz : (k : Int) < (ps.length : Int) := by omega
      have hkz2 : (k : Int) < 60 := by omega
      obtain ⟨ad, hAd, h0, h1, h2⟩ := cellsPK HP.out k hka
      generalize ps[k] = x at h0 h1 h2
      subst hAd
      have l0 := pw_cell_below HS.out.bl h0
      have l1 := pw_cell_below HS.out.bl h1
      have l2 := pw_cell_below HS.out.bl h2
      have HH := Lib.hid (And.intro h0 (And.intro h1 h2))
      clear h0 h1 h2
      have hI2 := HI.out.next x.f0 x.f1 x.f2
      have hfl : (freshP l en x.f0 x.f1 x.f2).length ≤ 65536 := rightB_len (freshP_right HI.out.right _ _ _ _)
      have hll : l.length ≤ 2000000 := right_len3 HI.out
      obtain ⟨F, e1⟩ : ∃ F, freshP l en x.f0 x.f1 x.f2 = F := ⟨_, rfl⟩
      obtain ⟨X, e2⟩ : ∃ F, errP l en x.f0 x.f1 x.f2 = F := ⟨_, rfl⟩
      obtain ⟨L2, e3⟩ : ∃ F, leftP l en x.f0 x.f1 x.f2 = F := ⟨_, rfl⟩
      obtain ⟨E2, e4⟩ : ∃ F, endP l en x.f0 x.f1 x.f2 = F := ⟨_, rfl⟩
      rw [e3, e4] at hI2
      rw [e1] at hfl
      have hl2 : L2.length ≤ 2000000 := right_len3 hI2
      have HI2 := Lib.hid hI2
      have HE := Lib.hid (And.intro e1 (And.intro e2 (And.intro e3 e4)))
      have hne : (X != X) = false := by simp
      clear e1 e2 e3 e4 hI2
      go_wp2_with fail
      go_region_held3 (fun w' => w'.cell? (ad.add (k * 3)) = some (.int .i64 x.f0) ∧ w'.cell? ⟨(ad.add (k * 3)).block, (ad.add (k * 3)).off + 1, none⟩ = some (.int .i64 x.f1) ∧ w'.cell? ⟨(ad.add (k * 3)).block, (ad.add (k * 3)).off + 2, none⟩ = some (.bool x.f2)) (first | exact ⟨l0, l1, l2⟩ | exact ⟨pw_cell_below HS.out.bl HH.out.1, pw_cell_below HS.out.bl HH.out.2.1, pw_cell_below HS.out.bl HH.out.2.2⟩)
          (first | (go_at_call 14; refine (c_putSK HS.out.drew 0 rfl hll x.f0 x.f1 x.f2 HE.out.1 HE.out.2.1 HE.out.2.2.1 HE.out.2.2.2).mono ?_; rintro e w' ⟨A4, c4, B4, d4, rfl, hs⟩; have HS := Lib.hid hs; clear hs l0 l1 l2))
      have HS : Hid (St w _ (G6 p A4 c4 L2 E2 p2 B d m fn p3 C f l en (.slice KA kq kc) ks (.slice WA wq wc) ws (T ++ [obS (.slice B4 F.length d4) F]))) := Lib.hid HS.out
      have m0 := pw_cell_below HS.out.bl HH.out.1
      have m1 := pw_cell_below HS.out.bl HH.out.2.1
      have m2 := pw_cell_below HS.out.bl HH.out.2.2
      by_cases hq : k < qs.length
      · have hqz : (k : Int) < (qs.length : Int) := by omega
        obtain ⟨ad1, hA1, g0, g1, g2⟩ := cellsPK HQ.out k hq
        generalize qs[k] = y at g0 g1 g2
        subst hA1
        have l0 := pw_cell_below HS.out.bl g0
        have l1 := pw_cell_below HS.out.bl g1
        have l2 := pw_cell_below HS.out.bl g2
        have HG := Lib.hid (And.intro g0 (And.intro g1 g2))
        clear g0 g1 g2 m0 m1 m2
        have hJ2 := HJ.out.next y.f0 y.f1 y.f2
        have hzl : (freshP m fn y.f0 y.f1 y.f2).length ≤ 65536 := rightB_len (freshP_right HJ.out.right _ _ _ _)
        have hml : m.length ≤ 2000000 := right_len3 HJ.out
        obtain ⟨Z, e1⟩ : ∃ F, freshP m fn y.f0 y.f1 y.f2 = F := ⟨_, rfl⟩
        obtain ⟨Y, e2⟩ : ∃ F, errP m fn y.f0 y.f1 y.f2 = F := ⟨_, rfl⟩
        obtain ⟨M2, e3⟩ : ∃ F, leftP m fn y.f0 y.f1 y.f2 = F := ⟨_, rfl⟩
        obtain ⟨N2, e4⟩ : ∃ F, endP m fn y.f0 y.f1 y.f2 = F := ⟨_, rfl⟩
        rw [e3, e4] at hJ2
        rw [e1] at hzl
        have HJ2 := Lib.hid hJ2
        have HE2 := Lib.hid (And.intro e1 (And.intro e2 (And.intro e3 e4)))
        clear e1 e2 e3 e4 hJ2
        go_wp2_with fail
        go_region_held3 (fun w' => w'.cell? (ad1.add (k * 3)) = some (.int .i64 y.f0) ∧ w'.cell? ⟨(ad1.add (k * 3)).block, (ad1.add (k * 3)).off + 1, none⟩ = some (.int .i64 y.f1) ∧ w'.cell? ⟨(ad1.add (k * 3)).block, (ad1.add (k * 3)).off + 2, none⟩ = some (.bool y.f2)) (first | exact ⟨l0, l1, l2⟩ | exact ⟨pw_cell_below HS.out.bl HG.out.1, pw_cell_below HS.out.bl HG.out.2.1, pw_cell_below HS.out.bl HG.out.2.2⟩)
          (first | (go_at_call 14; refine (c_putSK HS.out.drew 1 rfl hml y.f0 y.f1 y.f2 HE2.out.1 HE2.out.2.1 HE2.out.2.2.1 HE2.out.2.2.2).mono ?_; rintro e w9 ⟨A5, c5, B5, d5, rfl, hs⟩; have HS := Lib.hid hs; clear hs l0 l1 l2))
        have HS : Hid (St w _ (G6 p A4 c4 L2 E2 p2 A5 c5 M2 N2 p3 C f l en (.slice KA kq kc) ks (.slice WA wq wc) ws (T ++ [obS (.slice B4 F.length d4) F, obS (.slice B5 Z.length d5) Z]))) := Lib.hid (assoc5 HS.out)
        go_wp2_with (at_builtin; go_must (refine wpList_append_St kSl HS.out 3 rfl rfl (.tmp 88) (.tmp 90) 46 (.slice none 0 0) 24 rfl Try.underlying46 infoL rfl (by decide) (by decide) (B5, Z.length, d5) [.slice B5 Z.length d5] rfl rfl rfl (by omega) ?_))
        intro v1 w10 HV HS
        obtain ⟨KA2, kc2, hv1⟩ := HV.out.slice
        subst hv1
        clear HV
        go_wp2_with (at_builtin; go_must (refine wpList_append_new_St k50 flatS HS.out rfl (.const (.slice none 0 0)) (.tmp 93) 30 (.agg #[.int .i64 0, .int .i64 0]) 16 rfl Try.underlying30 info50 rfl (by decide) (by decide) Z B5 Z.length d5 rfl rfl (HS.out.readW (5 + T.length + 1) (G6_get 1)) (by omega) ?_))
        intro v2 w11 HV HS
        obtain ⟨B7, d7, hv2⟩ := HV.out
        subst hv2
        clear HV
        have HS : Hid (St w _ (G6 p A4 c4 L2 E2 p2 A5 c5 M2 N2 p3 C f l en (.slice (some KA2) _ kc2) _ (.slice WA wq wc) ws (T ++ [obS (.slice B4 F.length d4) F, obS (.slice B5 Z.length d5) Z, obS (.slice B7 Z.length d7) Z]))) := Lib.hid HS.out
        go_wp2_with (at_builtin; go_must (refine wpList_append_St kSl HS.out 4 rfl rfl (.tmp 92) (.tmp 95) 46 (.slice none 0 0) 24 rfl Try.underlying46 infoL rfl (by decide) (by decide) (B7, Z.length, d7) [.slice B7 Z.length d7] rfl rfl rfl (by omega) ?_))
        intro v3 w12 HV HS
        obtain ⟨WA2, wc2, hv3⟩ := HV.out.slice
        subst hv3
        clear HV
        have HS : Hid (St w _ (G6 p A4 c4 L2 E2 p2 A5 c5 M2 N2 p3 C f l en (.slice (some KA2) _ kc2) _ (.slice (some WA2) _ wc2) _ (T ++ [obS (.slice B4 F.length d4) F, obS (.slice B5 Z.length d5) Z, obS (.slice B7 Z.length d7) Z]))) := HS
        have m0 := pw_cell_below HS.out.bl HH.out.1
        have m1 := pw_cell_below HS.out.bl HH.out.2.1
        have m2 := pw_cell_below HS.out.bl HH.out.2.2
        go_wp2_with fail
        go_region_held3 (fun w' => w'.cell? (ad.add (k * 3)) = some (.int .i64 x.f0) ∧ w'.cell? ⟨(ad.add (k * 3)).block, (ad.add (k * 3)).off + 1, none⟩ = some (.int .i64 x.f1) ∧ w'.cell? ⟨(ad.add (k * 3)).block, (ad.add (k * 3)).off + 2, none⟩ = some (.bool x.f2)) (first | exact ⟨m0, m1, m2⟩ | exact ⟨pw_cell_below HS.out.bl HH.out.1, pw_cell_below HS.out.bl HH.out.2.1, pw_cell_below HS.out.bl HH.out.2.2⟩)
          (first | (go_at_call 14; refine (c_putSK HS.out.drew 2 rfl hll x.f0 x.f1 x.f2 HE.out.1 HE.out.2.1 HE.out.2.2.1 HE.out.2.2.2).mono ?_; rintro e w13 ⟨A6, c6, B6, d6, rfl, hs⟩; have HS := Lib.hid hs; clear hs m0 m1 m2))
        have HS : Hid (St w _ (G6 p A4 c4 L2 E2 p2 A5 c5 M2 N2 p3 A6 c6 L2 E2 _ _ _ _ (T ++ [obS (.slice B4 F.length d4) F, obS (.slice B5 Z.length d5) Z, obS (.slice B7 Z.length d7) Z, obS (.slice B6 F.length d6) F]))) := Lib.hid (assoc5 (N := [obS (.slice B4 F.length d4) F, obS (.slice B5 Z.length d5) Z, obS (.slice B7 Z.length d7) Z]) (M := [obS (.slice B6 F.length d6) F]) HS.out)
        go_wp2_with fail
        refine (c_sameS HS.out (5 + T.length + 0) (5 + T.length + 3) (G6_get 0) (G6_get 3) (by omega)).mono ?_
        rintro e w14 ⟨rfl, hs⟩
        have HS := Lib.hid hs
        clear hs
        go_wp2_with fail
        refine (c_holesS HS.out 0 rfl hl2).mono ?_
        rintro e H1w ⟨H1, H1d, rfl, hs⟩
        have HS : Hid (St w _ (G6 p A4 c4 L2 E2 p2 A5 c5 M2 N2 p3 A6 c6 L2 E2 _ _ _ _ (T ++ [obS (.slice B4 F.length d4) F, obS (.slice B5 Z.length d5) Z, obS (.slice B7 Z.length d7) Z, obS (.slice B6 F.length d6) F, obS (.slice H1 L2.length H1d) L2]))) := Lib.hid (assoc5 (N := [obS (.slice B4 F.length d4) F, obS (.slice B5 Z.length d5) Z, obS (.slice B7 Z.length d7) Z, obS (.slice B6 F.length d6) F]) (M := [obS (.slice H1 L2.length H1d) L2]) hs)
        clear hs
        go_wp2_with fail
        refine (c_holesS HS.out 2 rfl hl2).mono ?_
        rintro e H2w ⟨H2, H2d, rfl, hs⟩
        have HS : Hid (St w _ (G6 p A4 c4 L2 E2 p2 A5 c5 M2 N2 p3 A6 c6 L2 E2 _ _ _ _ (T ++ [obS (.slice B4 F.length d4) F, obS (.slice B5 Z.length d5) Z, obS (.slice B7 Z.length d7) Z, obS (.slice B6 F.length d6) F, obS (.slice H1 L2.length H1d) L2, obS (.slice H2 L2.length H2d) L2]))) := Lib.hid (assoc5 (N := [obS (.slice B4 F.length d4) F, obS (.slice B5 Z.length d5) Z, obS (.slice B7 Z.length d7) Z, obS (.slice B6 F.length d6) F, obS (.slice H1 L2.length H1d) L2]) (M := [obS (.slice H2 L2.length H2d) L2]) hs)
        clear hs
        go_wp2_with fail
        refine (c_sameS HS.out (5 + T.length + 4) (5 + T.length + 5) (G6_get 4) (G6_get 5) (by omega)).mono ?_
        rintro e w15 ⟨rfl, hs⟩
        have HS := Lib.hid hs
        clear hs
        go_wp2_with fail
        refine (c_holesS HS.out 0 rfl hl2).mono ?_
        rintro e H3w ⟨H3, H3d, rfl, hs⟩
        have HS : Hid (St w _ (G6 p A4 c4 L2 E2 p2 A5 c5 M2 N2 p3 A6 c6 L2 E2 _ _ _ _ (T ++ [obS (.slice B4 F.length d4) F, obS (.slice B5 Z.length d5) Z, obS (.slice B7 Z.length d7) Z, obS (.slice B6 F.length d6) F, obS (.slice H1 L2.length H1d) L2, obS (.slice H2 L2.length H2d) L2, obS (.slice H3 L2.length H3d) L2]))) := Lib.hid (assoc5 (N := [obS (.slice B4 F.length d4) F, obS (.slice B5 Z.length d5) Z, obS (.slice B7 Z.length d7) Z, obS (.slice B6 F.length d6) F, obS (.slice H1 L2.length H1d) L2, obS (.slice H2 L2.length H2d) L2]) (M := [obS (.slice H3 L2.length H3d) L2]) hs)
        clear hs
        go_wp2_with fail
        refine (c_holesS HS.out 0 rfl hl2).mono ?_
        rintro e H4w ⟨H4, H4d, rfl, hs⟩
        have HS : Hid (St w _ (G6 p A4 c4 L2 E2 p2 A5 c5 M2 N2 p3 A6 c6 L2 E2 _ _ _ _ (T ++ [obS (.slice B4 F.length d4) F, obS (.slice B5 Z.length d5) Z, obS (.slice B7 Z.length d7) Z, obS (.slice B6 F.length d6) F, obS (.slice H1 L2.length H1d) L2, obS (.slice H2 L2.length H2d) L2, obS (.slice H3 L2.length H3d) L2, obS (.slice H4 L2.length H4d) L2]))) := Lib.hid (assoc5 (N := [obS (.slice B4 F.length d4) F, obS (.slice B5 Z.length d5) Z, obS (.slice B7 Z.length d7) Z, obS (.slice B6 F.length d6) F, obS (.slice H1 L2.length H1d) L2, obS (.slice H2 L2.length H2d) L2, obS (.slice H3 L2.length H3d) L2]) (M := [obS (.slice H4 L2.length H4d) L2]) hs)
        clear hs
        go_wp2_with (at_builtin; go_must (refine wpList_append_rows_St kSl (HS.out.alloc0 _) 3 rfl rfl (.tmp 134) (.tmp 140) 46 (.slice none 0 0) 24 rfl Try.underlying46 infoL rfl (by decide) (by decide) [(B4, F.length, d4), (H3, L2.length, H3d), (H4, L2.length, H4d)] _ 3 3 rfl rfl (litSl _ 30 [(B4, F.length, d4), (H3, L2.length, H3d), (H4, L2.length, H4d)] (by simp)) (by simp only [List.length_append, List.length_cons, List.length_nil]; omega) ?_))
        intro v16 w16 HV HS
        obtain ⟨P8A, P8c, hv16⟩ := HV.out
        subst hv16
        clear HV
        have HS : Hid (St w _ (G6 p A4 c4 L2 E2 p2 A5 c5 M2 N2 p3 A6 c6 L2 E2 _ _ _ _ (T ++ [obS (.slice B4 F.length d4) F, obS (.slice B5 Z.length d5) Z, obS (.slice B7 Z.length d7) Z, obS (.slice B6 F.length d6) F, obS (.slice H1 L2.length H1d) L2, obS (.slice H2 L2.length H2d) L2, obS (.slice H3 L2.length H3d) L2, obS (.slice H4 L2.length H4d) L2]))) := HS
        go_wp2_with fail
        refine (c_holesS HS.out 2 rfl hl2).mono ?_
        rintro e H5w ⟨H5, H5d, rfl, hs⟩
        have HS : Hid (St w _ (G6 p A4 c4 L2 E2 p2 A5 c5 M2 N2 p3 A6 c6 L2 E2 _ _ _ _ (T ++ [obS (.slice B4 F.length d4) F, obS (.slice B5 Z.length d5) Z, obS (.slice B7 Z.length d7) Z, obS (.slice B6 F.length d6) F, obS (.slice H1 L2.length H1d) L2, obS (.slice H2 L2.length H2d) L2, obS (.slice H3 L2.length H3d) L2, obS (.slice H4 L2.length H4d) L2, obS (.slice H5 L2.length H5d) L2]))) := Lib.hid (assoc5 (N := [obS (.slice B4 F.length d4) F, obS (.slice B5 Z.length d5) Z, obS (.slice B7 Z.length d7) Z, obS (.slice B6 F.length d6) F, obS (.slice H1 L2.length H1d) L2, obS (.slice H2 L2.length H2d) L2, obS (.slice H3 L2.length H3d) L2, obS (.slice H4 L2.length H4d) L2]) (M := [obS (.slice H5 L2.length H5d) L2]) hs)
        clear hs
        go_wp2_with fail
        refine (c_holesS HS.out 2 rfl hl2).mono ?_
        rintro e H6w ⟨H6, H6d, rfl, hs⟩
        have HS : Hid (St w _ (G6 p A4 c4 L2 E2 p2 A5 c5 M2 N2 p3 A6 c6 L2 E2 _ _ _ _ (T ++ [obS (.slice B4 F.length d4) F, obS (.slice B5 Z.length d5) Z, obS (.slice B7 Z.length d7) Z, obS (.slice B6 F.length d6) F, obS (.slice H1 L2.length H1d) L2, obS (.slice H2 L2.length H2d) L2, obS (.slice H3 L2.length H3d) L2, obS (.slice H4 L2.length H4d) L2, obS (.slice H5 L2.length H5d) L2, obS (.slice H6 L2.length H6d) L2]))) := Lib.hid (assoc5 (N := [obS (.slice B4 F.length d4) F, obS (.slice B5 Z.length d5) Z, obS (.slice B7 Z.length d7) Z, obS (.slice B6 F.length d6) F, obS (.slice H1 L2.length H1d) L2, obS (.slice H2 L2.length H2d) L2, obS (.slice H3 L2.length H3d) L2, obS (.slice H4 L2.length H4d) L2, obS (.slice H5 L2.length H5d) L2]) (M := [obS (.slice H6 L2.length H6d) L2]) hs)
        clear hs
        go_wp2_with (at_builtin; go_must (refine wpList_append_rows_St kSl (HS.out.alloc0 _) 4 rfl rfl (.tmp 142) (.tmp 148) 46 (.slice none 0 0) 24 rfl Try.underlying46 infoL rfl (by decide) (by decide) [(B6, F.length, d6), (H5, L2.length, H5d), (H6, L2.length, H6d)] _ 3 3 rfl rfl (litSl _ 30 [(B6, F.length, d6), (H5, L2.length, H5d), (H6, L2.length, H6d)] (by simp)) (by simp only [List.length_append, List.length_cons, List.length_nil]; omega) ?_))
        intro v17 w17 HV HS
        obtain ⟨P9A, P9c, hv17⟩ := HV.out
        subst hv17
        clear HV
        have HS : Hid (St w _ (G6 p A4 c4 L2 E2 p2 A5 c5 M2 N2 p3 A6 c6 L2 E2 _ _ _ _ (T ++ [obS (.slice B4 F.length d4) F, obS (.slice B5 Z.length d5) Z, obS (.slice B7 Z.length d7) Z, obS (.slice B6 F.length d6) F, obS (.slice H1 L2.length H1d) L2, obS (.slice H2 L2.length H2d) L2, obS (.slice H3 L2.length H3d) L2, obS (.slice H4 L2.length H4d) L2, obS (.slice H5 L2.length H5d) L2, obS (.slice H6 L2.length H6d) L2]))) := HS
        have HK3 := Lib.hid (HK.out.more (Γ' := G6 p A4 c4 L2 E2 p2 A5 c5 M2 N2 p3 A6 c6 L2 E2 (.slice P8A 0 P8c) [] (.slice P9A 0 P9c) [] (T ++ [obS (.slice B4 F.length d4) F, obS (.slice B5 Z.length d5) Z, obS (.slice B7 Z.length d7) Z, obS (.slice B6 F.length d6) F, obS (.slice H1 L2.length H1d) L2, obS (.slice H2 L2.length H2d) L2, obS (.slice H3 L2.length H3d) L2, obS (.slice H4 L2.length H4d) L2, obS (.slice H5 L2.length H5d) L2, obS (.slice H6 L2.length H6d) L2])) (P' := 5 + (T ++ [obS (.slice B4 F.length d4) F, obS (.slice B5 Z.length d5) Z, obS (.slice B7 Z.length d7) Z, obS (.slice B6 F.length d6) F, obS (.slice H1 L2.length H1d) L2, obS (.slice H2 L2.length H2d) L2, obS (.slice H3 L2.length H3d) L2, obS (.slice H4 L2.length H4d) L2, obS (.slice H5 L2.length H5d) L2, obS (.slice H6 L2.length H6d) L2]).length) (fun j h1 h2 => tail_old _ _ _ _ _ _ _ _ _ _ T _ j h1 h2) [((B5, Z.length, d5), Z, 5 + T.length + 1), ((B4, F.length, d4), F, 5 + T.length + 0), ((H3, L2.length, H3d), L2, 5 + T.length + 6), ((H4, L2.length, H4d), L2, 5 + T.length + 7)] [((B7, Z.length, d7), Z, 5 + T.length + 2), ((B6, F.length, d6), F, 5 + T.length + 3), ((H5, L2.length, H5d), L2, 5 + T.length + 8), ((H6, L2.length, H6d), L2, 5 + T.length + 9)]
          (fun u hu => by
            simp only [List.cons_append, List.nil_append, List.mem_cons, List.not_mem_nil, or_false] at hu
            rcases hu with rfl | rfl | rfl | rfl | rfl | rfl | rfl | rfl <;> exact G6_get _)
          (by simp) (fun u hu => by
            simp only [List.cons_append, List.nil_append, List.mem_cons, List.not_mem_nil, or_false] at hu
            rcases hu with rfl | rfl | rfl | rfl | rfl | rfl | rfl | rfl <;> simp <;> omega) (by omega) (by simp) rfl (fun u hu => by
            simp only [List.mem_cons, List.not_mem_nil, or_false] at hu
            rcases hu with rfl | rfl | rfl | rfl <;> simp <;> omega))
        go_wp2
        go_roundw
        case rel => exact ⟨k + 1, _, L2, E2, A4, c4, _, _, _, _, _, A6, c6, P8A, _, P8c, P9A, _, P9c, its ++ [((B5, Z.length, d5), Z, 5 + T.length + 1), ((B4, F.length, d4), F, 5 + T.length + 0), ((H3, L2.length, H3d), L2, 5 + T.length + 6), ((H4, L2.length, H4d), L2, 5 + T.length + 7)], jts ++ [((B7, Z.length, d7), Z, 5 + T.length + 2), ((B6, F.length, d6), F, 5 + T.length + 3), ((H5, L2.length, H5d), L2, 5 + T.length + 8), ((H6, L2.length, H6d), L2, 5 + T.length + 9)], _, _, T ++ [obS (.slice B4 F.length d4) F, obS (.slice B5 Z.length d5) Z, obS (.slice B7 Z.length d7) Z, obS (.slice B6 F.length d6) F, obS (.slice H1 L2.length H1d) L2, obS (.slice H2 L2.length H2d) L2, obS (.slice H3 L2.length H3d) L2, obS (.slice H4 L2.length H4d) L2, obS (.slice H5 L2.length H5d) L2, obS (.slice H6 L2.length H6d) L2], by omega, by omega, by simp only [List.length_append, List.length_cons, List.length_nil]; omega, by go_num, rfl, rfl, HI2, HJ2, Lib.hid ⟨by rw [HKW.out.1]; simp, by rw [HKW.out.2]; simp⟩, Lib.hid (HK3.out.keep fun j h1 => five_old _ _ _ _ _ _ _ _ _ _ _ j h1), HS⟩
        case measure => simp [intOf]; omega
      · have hqz : (qs.length : Int) ≤ (k : Int) := by omega
        go_wp2_with fail
        go_region_held3 (fun w' => w'.cell? (ad.add (k * 3)) = some (.int .i64 x.f0) ∧ w'.cell? ⟨(ad.add (k * 3)).block, (ad.add (k * 3)).off + 1, none⟩ = some (.int .i64 x.f1) ∧ w'.cell? ⟨(ad.add (k * 3)).block, (ad.add (k * 3)).off + 2, none⟩ = some (.bool x.f2)) (first | exact ⟨m0, m1, m2⟩ | exact ⟨pw_cell_below HS.out.bl HH.out.1, pw_cell_below HS.out.bl HH.out.2.1, pw_cell_below HS.out.bl HH.out.2.2⟩)
          (first | (go_at_call 14; refine (c_putSK HS.out.drew 2 rfl hll x.f0 x.f1 x.f2 HE.out.1 HE.out.2.1 HE.out.2.2.1 HE.out.2.2.2).mono ?_; rintro e w13 ⟨A6, c6, B6, d6, rfl, hs⟩; have HS := Lib.hid hs; clear hs m0 m1 m2))
        have HS : Hid (St w _ (G6 p A4 c4 L2 E2 p2 B d m fn p3 A6 c6 L2 E2 _ _ _ _ (T ++ [obS (.slice B4 F.length d4) F, obS (.slice B6 F.length d6) F]))) := Lib.hid (assoc5 (N := [obS (.slice B4 F.length d4) F]) (M := [obS (.slice B6 F.length d6) F]) HS.out)
        go_wp2_with fail
        refine (c_sameS HS.out (5 + T.length + 0) (5 + T.length + 1) (G6_get 0) (G6_get 1) (by omega)).mono ?_
        rintro e w14 ⟨rfl, hs⟩
        have HS := Lib.hid hs
        clear hs
        go_wp2_with fail
        refine (c_holesS HS.out 0 rfl hl2).mono ?_
        rintro e H1w ⟨H1, H1d, rfl, hs⟩
        have HS : Hid (St w _ (G6 p A4 c4 L2 E2 p2 B d m fn p3 A6 c6 L2 E2 _ _ _ _ (T ++ [obS (.slice B4 F.length d4) F, obS (.slice B6 F.length d6) F, obS (.slice H1 L2.length H1d) L2]))) := Lib.hid (assoc5 (N := [obS (.slice B4 F.length d4) F, obS (.slice B6 F.length d6) F]) (M := [obS (.slice H1 L2.length H1d) L2]) hs)
        clear hs
        go_wp2_with fail
        refine (c_holesS HS.out 2 rfl hl2).mono ?_
        rintro e H2w ⟨H2, H2d, rfl, hs⟩
        have HS : Hid (St w _ (G6 p A4 c4 L2 E2 p2 B d m fn p3 A6 c6 L2 E2 _ _ _ _ (T ++ [obS (.slice B4 F.length d4) F, obS (.slice B6 F.length d6) F, obS (.slice H1 L2.length H1d) L2, obS (.slice H2 L2.length H2d) L2]))) := Lib.hid (assoc5 (N := [obS (.slice B4 F.length d4) F, obS (.slice B6 F.length d6) F, obS (.slice H1 L2.length H1d) L2]) (M := [obS (.slice H2 L2.length H2d) L2]) hs)
        clear hs
        go_wp2_with fail
        refine (c_sameS HS.out (5 + T.length + 2) (5 + T.length + 3) (G6_get 2) (G6_get 3) (by omega)).mono ?_
        rintro e w15 ⟨rfl, hs⟩
        have HS := Lib.hid hs
        clear hs
        go_wp2_with fail
        refine (c_holesS HS.out 0 rfl hl2).mono ?_
        rintro e H3w ⟨H3, H3d, rfl, hs⟩
        have HS : Hid (St w _ (G6 p A4 c4 L2 E2 p2 B d m fn p3 A6 c6 L2 E2 _ _ _ _ (T ++ [obS (.slice B4 F.length d4) F, obS (.slice B6 F.length d6) F, obS (.slice H1 L2.length H1d) L2, obS (.slice H2 L2.length H2d) L2, obS (.slice H3 L2.length H3d) L2]))) := Lib.hid (assoc5 (N := [obS (.slice B4 F.length d4) F, obS (.slice B6 F.length d6) F, obS (.slice H1 L2.length H1d) L2, obS (.slice H2 L2.length H2d) L2]) (M := [obS (.slice H3 L2.length H3d) L2]) hs)
        clear hs
        go_wp2_with fail
        refine (c_holesS HS.out 0 rfl hl2).mono ?_
        rintro e H4w ⟨H4, H4d, rfl, hs⟩
        have HS : Hid (St w _ (G6 p A4 c4 L2 E2 p2 B d m fn p3 A6 c6 L2 E2 _ _ _ _ (T ++ [obS (.slice B4 F.length d4) F, obS (.slice B6 F.length d6) F, obS (.slice H1 L2.length H1d) L2, obS (.slice H2 L2.length H2d) L2, obS (.slice H3 L2.length H3d) L2, obS (.slice H4 L2.length H4d) L2]))) := Lib.hid (assoc5 (N := [obS (.slice B4 F.length d4) F, obS (.slice B6 F.length d6) F, obS (.slice H1 L2.length H1d) L2, obS (.slice H2 L2.length H2d) L2, obS (.slice H3 L2.length H3d) L2]) (M := [obS (.slice H4 L2.length H4d) L2]) hs)
        clear hs
        go_wp2_with (at_builtin; go_must (refine wpList_append_rows_St kSl (HS.out.alloc0 _) 3 rfl rfl (.tmp 134) (.tmp 140) 46 (.slice none 0 0) 24 rfl Try.underlying46 infoL rfl (by decide) (by decide) [(B4, F.length, d4), (H3, L2.length, H3d), (H4, L2.length, H4d)] _ 3 3 rfl rfl (litSl _ 30 [(B4, F.length, d4), (H3, L2.length, H3d), (H4, L2.length, H4d)] (by simp)) (by omega) ?_))
        intro v16 w16 HV HS
        obtain ⟨P8A, P8c, hv16⟩ := HV.out
        subst hv16
        clear HV
        have HS : Hid (St w _ (G6 p A4 c4 L2 E2 p2 B d m fn p3 A6 c6 L2 E2 _ _ _ _ (T ++ [obS (.slice B4 F.length d4) F, obS (.slice B6 F.length d6) F, obS (.slice H1 L2.length H1d) L2, obS (.slice H2 L2.length H2d) L2, obS (.slice H3 L2.length H3d) L2, obS (.slice H4 L2.length H4d) L2]))) := HS
        go_wp2_with fail
        refine (c_holesS HS.out 2 rfl hl2).mono ?_
        rintro e H5w ⟨H5, H5d, rfl, hs⟩
        have HS : Hid (St w _ (G6 p A4 c4 L2 E2 p2 B d m fn p3 A6 c6 L2 E2 _ _ _ _ (T ++ [obS (.slice B4 F.length d4) F, obS (.slice B6 F.length d6) F, obS (.slice H1 L2.length H1d) L2, obS (.slice H2 L2.length H2d) L2, obS (.slice H3 L2.length H3d) L2, obS (.slice H4 L2.length H4d) L2, obS (.slice H5 L2.length H5d) L2]))) := Lib.hid (assoc5 (N := [obS (.slice B4 F.length d4) F, obS (.slice B6 F.length d6) F, obS (.slice H1 L2.length H1d) L2, obS (.slice H2 L2.length H2d) L2, obS (.slice H3 L2.length H3d) L2, obS (.slice H4 L2.length H4d) L2]) (M := [obS (.slice H5 L2.length H5d) L2]) hs)
        clear hs
        go_wp2_with fail
        refine (c_holesS HS.out 2 rfl hl2).mono ?_
        rintro e H6w ⟨H6, H6d, rfl, hs⟩
        have HS : Hid (St w _ (G6 p A4 c4 L2 E2 p2 B d m fn p3 A6 c6 L2 E2 _ _ _ _ (T ++ [obS (.slice B4 F.length d4) F, obS (.slice B6 F.length d6) F, obS (.slice H1 L2.length H1d) L2, obS (.slice H2 L2.length H2d) L2, obS (.slice H3 L2.length H3d) L2, obS (.slice H4 L2.length H4d) L2, obS (.slice H5 L2.length H5d) L2, obS (.slice H6 L2.length H6d) L2]))) := Lib.hid (assoc5 (N := [obS (.slice B4 F.length d4) F, obS (.slice B6 F.length d6) F, obS (.slice H1 L2.length H1d) L2, obS (.slice H2 L2.length H2d) L2, obS (.slice H3 L2.length H3d) L2, obS (.slice H4 L2.length H4d) L2, obS (.slice H5 L2.length H5d) L2]) (M := [obS (.slice H6 L2.length H6d) L2]) hs)
        clear hs
        go_wp2_with (at_builtin; go_must (refine wpList_append_rows_St kSl (HS.out.alloc0 _) 4 rfl rfl (.tmp 142) (.tmp 148) 46 (.slice none 0 0) 24 rfl Try.underlying46 infoL rfl (by decide) (by decide) [(B6, F.length, d6), (H5, L2.length, H5d), (H6, L2.length, H6d)] _ 3 3 rfl rfl (litSl _ 30 [(B6, F.length, d6), (H5, L2.length, H5d), (H6, L2.length, H6d)] (by simp)) (by omega) ?_))
        intro v17 w17 HV HS
        obtain ⟨P9A, P9c, hv17⟩ := HV.out
        subst hv17
        clear HV
        have HS : Hid (St w _ (G6 p A4 c4 L2 E2 p2 B d m fn p3 A6 c6 L2 E2 _ _ _ _ (T ++ [obS (.slice B4 F.length d4) F, obS (.slice B6 F.length d6) F, obS (.slice H1 L2.length H1d) L2, obS (.slice H2 L2.length H2d) L2, obS (.slice H3 L2.length H3d) L2, obS (.slice H4 L2.length H4d) L2, obS (.slice H5 L2.length H5d) L2, obS (.slice H6 L2.length H6d) L2]))) := HS
        have HK3 := Lib.hid (HK.out.more (Γ' := G6 p A4 c4 L2 E2 p2 B d m fn p3 A6 c6 L2 E2 (.slice P8A 0 P8c) [] (.slice P9A 0 P9c) [] (T ++ [obS (.slice B4 F.length d4) F, obS (.slice B6 F.length d6) F, obS (.slice H1 L2.length H1d) L2, obS (.slice H2 L2.length H2d) L2, obS (.slice H3 L2.length H3d) L2, obS (.slice H4 L2.length H4d) L2, obS (.slice H5 L2.length H5d) L2, obS (.slice H6 L2.length H6d) L2])) (P' := 5 + (T ++ [obS (.slice B4 F.length d4) F, obS (.slice B6 F.length d6) F, obS (.slice H1 L2.length H1d) L2, obS (.slice H2 L2.length H2d) L2, obS (.slice H3 L2.length H3d) L2, obS (.slice H4 L2.length H4d) L2, obS (.slice H5 L2.length H5d) L2, obS (.slice H6 L2.length H6d) L2]).length) (fun j h1 h2 => tail_old _ _ _ _ _ _ _ _ _ _ T _ j h1 h2) [((B4, F.length, d4), F, 5 + T.length + 0), ((H3, L2.length, H3d), L2, 5 + T.length + 4), ((H4, L2.length, H4d), L2, 5 + T.length + 5)] [((B6, F.length, d6), F, 5 + T.length + 1), ((H5, L2.length, H5d), L2, 5 + T.length + 6), ((H6, L2.length, H6d), L2, 5 + T.length + 7)]
          (fun u hu => by
            simp only [List.cons_append, List.nil_append, List.mem_cons, List.not_mem_nil, or_false] at hu
            rcases hu with rfl | rfl | rfl | rfl | rfl | rfl <;> exact G6_get _)
          (by simp) (fun u hu => by
            simp only [List.cons_append, List.nil_append, List.mem_cons, List.not_mem_nil, or_false] at hu
            rcases hu with rfl | rfl | rfl | rfl | rfl | rfl <;> simp <;> omega) (by omega) (by simp) rfl (fun u hu => by
            simp only [List.mem_cons, List.not_mem_nil, or_false] at hu
            rcases hu with rfl | rfl | rfl <;> simp <;> omega))
        go_wp2
        go_roundw
        case rel => exact ⟨k + 1, _, L2, E2, A4, c4, _, _, _, _, _, A6, c6, P8A, _, P8c, P9A, _, P9c, its ++ [((B4, F.length, d4), F, 5 + T.length + 0), ((H3, L2.length, H3d), L2, 5 + T.length + 4), ((H4, L2.length, H4d), L2, 5 + T.length + 5)], jts ++ [((B6, F.length, d6), F, 5 + T.length + 1), ((H5, L2.length, H5d), L2, 5 + T.length + 6), ((H6, L2.length, H6d), L2, 5 + T.length + 7)], _, _, T ++ [obS (.slice B4 F.length d4) F, obS (.slice B6 F.length d6) F, obS (.slice H1 L2.length H1d) L2, obS (.slice H2 L2.length H2d) L2, obS (.slice H3 L2.length H3d) L2, obS (.slice H4 L2.length H4d) L2, obS (.slice H5 L2.length H5d) L2, obS (.slice H6 L2.length H6d) L2], by omega, by omega, by simp only [List.length_append, List.length_cons, List.length_nil]; omega, by go_num, rfl, rfl, HI2, HJ, Lib.hid ⟨by rw [HKW.out.1]; simp, by rw [HKW.out.2]; simp⟩, Lib.hid (HK3.out.keep fun j h1 => five_old _ _ _ _ _ _ _ _ _ _ _ j h1), HS⟩
        case measure => simp [intOf]; omega
    · have hkz : (ps.length : Int) ≤ (k : Int) ∨ ((k : Int) < (ps.length : Int) ∧ (60 : Int) ≤ (k : Int)) := by omega
      clear hk
      obtain ⟨rfl, rfl⟩ := HKW.out
      have hjl : its.length = jts.length := by have := congrArg List.length HK.out.same; simpa using this
      have hkq : kq = its.length := by have := (Kd.R_reads' (HS.out.get 3 rfl)).1; rw [this, List.length_map]
      have hwq : wq = its.length := by have := (Kd.R_reads' (HS.out.get 4 rfl)).1; rw [this, List.length_map, hjl]
      subst hkq hwq
      have hct : ∀ i, i < its.length → (ctOf its i).length ≤ 10000000 := fun i hi => by
        have := HK.out.len its[i] (List.getElem_mem hi)
        have e : ctOf its i = its[i].2.1 := by unfold ctOf; simp [List.getD_eq_getElem?_getD, hi]
        rw [e]; omega
      have HM := Lib.hid (fun W (hW : St w W _) => marked_calls KA WA kc wc its.length (its.map (·.1)) (jts.map (·.1)) (ctOf its) w W _ (by omega) hct (by rw [List.length_map]) (by rw [List.length_map, hjl]) (HK.out.pick hW rfl rfl rfl rfl))
      have hll : l.length ≤ 2000000 := right_len3 HI.out
      have hee : (en == en) = true := by simp
      have hil : its.length ≤ 240 := by omega
      clear hct hjl hkl hwl HKW
      rcases hkz with hkz | ⟨hkz, hkz2⟩
      all_goals
        go_wp2_with fail
        refine (HM.out _ HS.out).mono ?_
        rintro e w5 ⟨rfl, Δ, hs⟩
        have HS := Lib.hid (St.back hs)
        clear hs HM HK
        go_wp2_with fail
        refine (c_holesS HS.out 0 rfl hll).mono ?_
        rintro e w6 ⟨B1, d1, rfl, hs⟩
        have HS := Lib.hid hs
        clear hs
        go_wp2_with fail
        refine (c_holesS HS.out 1 rfl hll).mono ?_
        rintro e w7 ⟨B2, d2, rfl, hs⟩
        have HS := Lib.hid hs
        clear hs
        go_wp2_with fail
        refine (c_sameS HS.out 2 3 rfl rfl (by omega)).mono ?_
        rintro e w8 ⟨rfl, hs⟩
        have HS := Lib.hid hs
        clear hs
        go_wp2_with fail
        refine (c_end HS.out 0 rfl).mono ?_
        rintro e w' ⟨rfl, rfl⟩
        go_wp2_with fail
        refine (c_end HS.out 1 rfl).mono ?_
        rintro e w' ⟨rfl, rfl⟩
        go_wp2
        go_ret
        exact ⟨rfl, HS.out.bl⟩
end Go.Proofs.Ytdlgocieecfpbaa.Q
