/- The walk of the program's Put where the last piece comes and may: the list gets its end. No condition but the list's length. -/
import Derived.Test.YtdlgocieecfpbaaC2
import Derived.WalkSpells
import Derived.Lib.LazyBuf
namespace Go.Proofs.Ytdlgocieecfpbaa.Q
open Go.RowKit Go.Proofs.YtdlgocieecfpbaaW.PrintWords Go.Proofs.YtdlgocieecfpbaaW.PrintLast Go.Proofs.YtdlgocieecfpbaaW.PrintMore Go.Proofs.Ytdlgocieecfpbaa.SL
attribute [local go_sem ↓] Go.wp_at_zero Go.wp_at_succ

theorem cutS_len2 (s : Sp) : ∀ l : List Sp, (cutS l s).length ≤ 2 * l.length
  | [] => Nat.le_refl _
  | h :: l => by
    have i := cutS_len2 s l
    have e : cutS (h :: l) s = cutF s h ++ cutS l s := rfl
    have j := cutF_len s h
    rw [e, List.length_append, List.length_cons]
    omega
theorem cutA_len2 (l : List Sp) (s : Sp) : (cutA l s).1.length ≤ 2 * l.length := by
  unfold cutA
  split
  · exact cutS_len2 s l
  · simp
set_option maxHeartbeats 1000000 in
set_option maxRecDepth 100000 in
theorem put_ends (p : Nat) (A : Option Addr) (c : Nat) (l : List Sp) (en off n : Int) (w : World) (hp : w.heap[p]? = some (.cells #[.slice A l.length c, .int .i64 en] 52 (0, 0)))
    (hr : Kd.C k50 w A l.length l) (hc : l.length ≤ c) (hl : l.length ≤ 2000000) (hok : mayA l en off n false = true) (hb0 : 0 ≤ off) (hb1 : 1 ≤ n) (hb2 : off + n ≤ 65535) (hen : en < 0) :
    Calls Try.prog 14 #[.pointer (some ⟨p, 0, none⟩), .int .i64 off, .int .i64 n, .bool false] w fun e w' => PutPost p l en off n false w e w' := by
  obtain ⟨c0, c1⟩ := two_cells hp
  have f0 := two_free hp 0
  have f1 := two_free hp 1
  have hu := Try.underlying50
  have hmay := may_calls p A c l en off n false w hp hr hc
  rw [hok] at hmay
  have hlp := lt_of_block hp
  have HP := Lib.hid hp
  have HR := Lib.hid hr
  have hll : l.length ≤ 9223372036854775807 := hr.2.1
  have HM := Lib.hid hmay
  clear hp hr hok hmay
  go_enter Try.func14, Try.ntmps14
  go_wp2_with fail
  refine HM.out.mono ?_
  rintro e w1 ⟨rfl, hb⟩
  have c0' := (hb.cell (p := ⟨p, 0, none⟩) hlp).trans c0
  have c1' := (hb.cell (p := ⟨p, 1, none⟩) hlp).trans c1
  have f0' := (hb.frozen (p := ⟨p, 0, none⟩) hlp).trans f0
  have HB := Lib.hid hb
  have hsz : w.heap.size ≤ w1.heap.size := hb.size
  have hlp1 : p < w1.heap.size := by omega
  clear hb HM
  go_wp2_with fail
  go_loopw [11, 31] (fun v i wr => ∃ k : Nat, k ≤ l.length ∧ i = .int .i64 k ∧ Hid (Below (w1.heap.size + 1) (w1.alloc (.cells #[.int .i64 off, .int .i64 (off + n)] 50)) wr) ∧ Hid (Kd.R k50 50 wr (w1.heap.size + 1) (fun _ => True) v (freshA (l.take k) ⟨off, off + n⟩))) (fun _ i _ => l.length - (intOf i).toNat)
  case atStart => exact ⟨0, Nat.zero_le _, rfl, Lib.hid (Below.refl _ _), Lib.hid (Kd.R_nil _ _ _ _ _)⟩
  case round =>
    obtain ⟨k, hk, rfl, BW, RR⟩ := hrel
    have HW := Lib.hid (below_then (below_alloc HB.out (.cells #[.int .i64 off, .int .i64 (off + n)] 50)) (by simp; omega) (BW.out.mono (by simp)))
    have hwsz : w1.heap.size < wr.heap.size := by have := BW.out.size; simp at this; omega
    have b0 := (BW.out.cell (p := ⟨w1.heap.size, 0, none⟩) (Nat.lt_succ_self _)).trans (World.cell?_alloc_new ..)
    have b1 := (BW.out.cell (p := ⟨w1.heap.size, 1, none⟩) (Nat.lt_succ_self _)).trans (World.cell?_alloc_new ..)
    by_cases hlt : k < l.length
    · have hltz : (k : Int) < (l.length : Int) := by omega
      obtain ⟨ad, hA, h0, h1⟩ := at_T50 HR.out (k : Int) (by omega) hltz
      have l0 := pw_cell_below HW.out h0
      have l1 := pw_cell_below HW.out h1
      have hx : rd_T50 l (k : Int) = l[k] := rdT l k hlt
      have e : freshA (l.take (k + 1)) ⟨off, off + n⟩ = freshA (l.take k) ⟨off, off + n⟩ ++ freshF ⟨off, off + n⟩ l[k] := by
        unfold freshA
        rw [List.take_succ_eq_append_getElem hlt, List.flatMap_append]
        simp
      rw [hx] at l0 l1
      generalize l[k] = h at *
      rw [Int.toNat_natCast] at l0 l1
      subst hA
      obtain ⟨M1, hM1, d1⟩ : ∃ M1, mx h.f0 off = M1 ∧ ((h.f0 < off ∧ off = M1) ∨ (off ≤ h.f0 ∧ h.f0 = M1)) := ⟨_, rfl, by have := mx_cases h.f0 off; omega⟩
      obtain ⟨M2, hM2, d2⟩ : ∃ M2, mn h.f1 (off + n) = M2 ∧ ((off + n < h.f1 ∧ off + n = M2) ∨ (h.f1 ≤ off + n ∧ h.f1 = M2)) := ⟨_, rfl, by have := mn_cases h.f1 (off + n); omega⟩
      have hF : freshF ⟨off, off + n⟩ h = if M1 < M2 then [⟨M1, M2⟩] else [] := by
        unfold freshF
        show (if mx h.f0 off < mn h.f1 (off + n) then _ else _) = _
        rw [hM1, hM2]
      rw [hF] at e
      clear hF hM1 hM2
      have HE := Lib.hid e
      have hfl := freshA_len ⟨off, off + n⟩ (l.take k)
      rw [List.length_take] at hfl
      clear h0 h1 hx e c0 c1 f0 c0' c1' f0'
      by_cases hM : M1 < M2
      all_goals
        rcases d1 with ⟨d1, rfl⟩ | ⟨d1, rfl⟩
        all_goals
          rcases d2 with ⟨d2, rfl⟩ | ⟨d2, rfl⟩
          all_goals (try ((exfalso; omega)))
          all_goals
            go_wp2_with ((with_reducible refine gate_builtin (b := .append) (xs := #[.tmp 51, .tmp 53]) rfl ?_); at_builtin; go_must (refine Kd.R_append k50 (w0 := w1.alloc (.cells #[.int .i64 off, .int .i64 (off + n)] 50)) (w1.heap.size + 1) rfl (.tmp 51) (.tmp 53) 30 50 (.agg #[.int .i64 0, .int .i64 0]) 16 rfl Try.underlying30 infoS rfl (by decide) (by decide) u11 (freshA (l.take k) ⟨off, off + n⟩) ⟨_, _⟩ [.int .i64 _, .int .i64 _] (fun _ => True) (fun _ => False) rfl (by first | (go_simp; done) | (go_simp; rfl)) (mkS _ _) (fun _ h => h.elim) (fun _ _ => trivial) (Kd.R_below RR.out (below_alloc (below_alloc (Below.refl _ _) _) _)) (below_then BW.out (by omega) (below_alloc (below_alloc (Below.refl _ _) _) _)) (by simp; omega) (by omega) ?_); intro v1 w2 hR1 hB1 hg1 hat1)
            go_roundw
            case rel => exact ⟨k + 1, by omega, by go_num, by first | exact Lib.hid hB1 | exact Lib.hid (below_then BW.out (by omega) (below_alloc (below_alloc (Below.refl _ _) _) _)), by rw [HE.out]; first | (rw [if_pos (by assumption)]; exact Lib.hid hR1) | (rw [if_neg (by assumption), List.append_nil]; exact Lib.hid (Kd.R_below RR.out (below_alloc (below_alloc (Below.refl _ _) _) _)))⟩
            case measure => simp [intOf]; omega
    · obtain rfl : k = l.length := by omega
      rw [List.take_length] at RR
      have c0w := (HW.out.cell (p := ⟨p, 0, none⟩) hlp).trans c0
      have c1w := (HW.out.cell (p := ⟨p, 1, none⟩) hlp).trans c1
      have f0w := (HW.out.frozen (p := ⟨p, 0, none⟩) hlp).trans f0
      have f1w := (HW.out.frozen (p := ⟨p, 1, none⟩) hlp).trans f1
      have hplt : p < wr.heap.size := by omega
      clear c0 c1 f0 c0' c1' f0'
      obtain ⟨L1, x1, hL, hL1⟩ : ∃ L1 x1, span_Cut.f 400000000 l off (off + n) = some (L1, x1) ∧ (cutA l ⟨off, off + n⟩).1 = L1 := ⟨_, _, cut_evalA l (by omega) off (off + n) 400000000 (by omega), rfl⟩
      have HL := Lib.hid hL
      have hLl : L1.length ≤ 4000000 := by have := cutA_len2 l ⟨off, off + n⟩; rw [hL1] at this; omega
      have HL1 := Lib.hid hL1
      clear hL1
      have hea : endA en off n false = off + n := if_pos ⟨rfl, hen⟩
      have HEA := Lib.hid hea
      clear hL hea
      go_wp2_with fail
      go_region_with ((go_at_call 30; refine (span_Cut.calls 400000000 A c l off (off + n) _ _ _ ?hr hc HL.out).mono ?_; (case hr => exact Kd.C_below HR.out (by first | exact HW.out | exact HW.out.drew)); rintro e w3 ⟨v3, rfl, hR3, hb3⟩; obtain ⟨A3, c3, rfl⟩ := Kd.R_slice hR3; have c0x := (hb3.cell (p := ⟨p, 0, none⟩) hplt).trans c0w; have c1x := set_far ((hb3.cell (p := ⟨p, 1, none⟩) hplt).trans c1w); have f0x := (hb3.frozen (p := ⟨p, 0, none⟩) hplt).trans f0w))
      all_goals
        have f1x := (hb3.frozen (p := ⟨p, 1, none⟩) hplt).trans f1w
        have b1x := (World.cell?_setCell_other (w := w3) (a := (⟨p, 0, none⟩ : Addr)) (b := ⟨w1.heap.size, 1, none⟩) (v := .slice A3 L1.length c3) (by intro h; injection h with h; omega)).trans ((hb3.cell (p := ⟨w1.heap.size, 1, none⟩) hwsz).trans b1)
        have hp3 := (hb3.block p hplt).trans ((HW.out.block p hlp).trans HP.out)
        have hsz3 : w.heap.size ≤ w3.heap.size := Nat.le_trans HW.out.size hb3.size
        have hT : SL.Touch [p] w w3 := (Touch.of_below HW.out).then_below (by first | exact hb3 | exact ((Below.refl _ _).drew.trans hb3))
        have hRu := Kd.R_lower (Kd.R_below RR.out (by first | exact hb3 | exact ((Below.refl _ _).drew.trans hb3))) (show w.heap.size ≤ w1.heap.size + 1 by omega)
        have hRl := Kd.R_lower hR3 (show w.heap.size ≤ _ by first | exact HW.out.size | (simp; exact HW.out.size))
        have HC := Lib.hid hT
        have HP3 := Lib.hid hp3
        have HRu := Lib.hid hRu
        have HRl := Lib.hid hRl
        have HDs := Lib.hid (show ∀ k, u11.ownBlock = some k → (Value.slice A3 L1.length c3).ownBlock ≠ some k from fun k hk he => by have h1 := (Kd.R_bound RR.out).1 k hk; have h2 := Kd.R_base hR3 k he; simp at h1 h2; omega)
        clear hR3 hb3 hp3 hT hRu hRl
        go_wp2_with fail
        · have hlt2 : off + n < 65535 := by assumption
          have h4 := two_set1 (two_set0 HP3.out (.slice A3 L1.length c3)) (.int .i64 (off + n))
          obtain ⟨d0, d1⟩ := two_cells h4
          have g0 := two_free h4 0
          have hk4 := R_old (R_old HRl.out hlp 0 (.slice A3 L1.length c3)) hlp 1 (.int .i64 (off + n))
          have hT4 := (HC.out.setCell (p := ⟨p, 0, none⟩) (.inl List.mem_cons_self) (.slice A3 L1.length c3)).setCell (p := ⟨p, 1, none⟩) (.inl List.mem_cons_self) (.int .i64 (off + n))
          have hu4 := R_old (R_old HRu.out hlp 0 (.slice A3 L1.length c3)) hlp 1 (.int .i64 (off + n))
          have hp4 : p < ((w3.setCell ⟨p, 0, none⟩ (.slice A3 L1.length c3)).setCell ⟨p, 1, none⟩ (.int .i64 (off + n))).heap.size := lt_of_block h4
          generalize (w3.setCell ⟨p, 0, none⟩ (.slice A3 L1.length c3)).setCell ⟨p, 1, none⟩ (.int .i64 (off + n)) = w4 at *
          obtain ⟨A4, c4, he4, hc4, hr4⟩ := Kd.R_reads hk4
          obtain ⟨rfl, rfl⟩ : A3 = A4 ∧ c3 = c4 := by injection he4 with h1 h2 h3; exact ⟨h1, h3⟩
          have H4 := Lib.hid (And.intro h4 (And.intro hr4 (And.intro hT4 hu4)))
          have hsz4 : w.heap.size ≤ w4.heap.size := hT4.size
          obtain ⟨L2, x2, hL2, hla⟩ : ∃ L2 x2, span_Cut.f 400000000 L1 (off + n) 65535 = some (L2, x2) ∧ leftA l en off n false = L2 :=
            ⟨_, _, cut_evalA L1 (by omega) (off + n) 65535 400000000 (by omega), by unfold leftA; rw [if_pos ⟨rfl, hen, hlt2⟩, HL1.out]; rfl⟩
          have HL2 := Lib.hid hL2
          have HLA := Lib.hid hla
          clear h4 hr4 hk4 hT4 hu4 he4 hL2 hla c0x c1x f0x f1x b1x c0w c1w f0w f1w b0 b1
          go_region_with ((go_at_call 30; refine (span_Cut.calls 400000000 A3 c3 L1 (off + n) 65535 _ _ _ ?hr hc4 HL2.out).mono ?_; (case hr => first | exact H4.out.2.1 | exact Kd.C_below H4.out.2.1 (Below.refl _ _).drew); rintro e w5 ⟨v5, rfl, hR5, hb5⟩; obtain ⟨A5, c5, rfl⟩ := Kd.R_slice hR5; have e0x := (hb5.cell (p := ⟨p, 0, none⟩) hp4).trans d0; have g0x := (hb5.frozen (p := ⟨p, 0, none⟩) hp4).trans g0))
          all_goals
            have hp5 := (hb5.block p hp4).trans H4.out.1
            have hb5' : Below w4.heap.size w4 w5 := by first | exact hb5 | exact ((Below.refl _ _).drew.trans hb5)
            have HC5 := Lib.hid (And.intro hp5 (And.intro hb5' hR5))
            clear hR5 hb5 hp5 hb5'
            go_wp2
            go_ret2
            obtain ⟨hp5, hb5, hR5⟩ := HC5.out
            unfold PutPost
            rw [HLA.out, HEA.out]
            refine ⟨u11, A5, c5, rfl, ?_, ?_, ?_, two_set0 hp5 _, fun k hk he => by have h1 := (Kd.R_bound H4.out.2.2.2).1 k hk; have h2 := Kd.R_base hR5 k he; simp at h1 h2; omega⟩
            · exact (H4.out.2.2.1.then_below hb5).setCell (p := ⟨p, 0, none⟩) (.inl List.mem_cons_self) _
            · exact R_old (Kd.R_below H4.out.2.2.2 hb5) hlp _ _
            · exact R_old (Kd.R_lower hR5 (show w.heap.size ≤ _ by first | exact hsz4 | (simp; exact hsz4))) hlp _ _
        · have hge2 : 65535 ≤ off + n := by first | assumption | omega
          go_ret2
          unfold PutPost
          have hla : leftA l en off n false = L1 := by unfold leftA; rw [if_neg (by omega)]; exact HL1.out
          rw [hla, HEA.out]
          exact ⟨u11, A3, c3, rfl, (HC.out.setCell (p := ⟨p, 0, none⟩) (.inl List.mem_cons_self) _).setCell (p := ⟨p, 1, none⟩) (.inl List.mem_cons_self) _, R_old (R_old HRu.out hlp _ _) hlp _ _, R_old (R_old HRl.out hlp _ _) hlp _ _, two_set1 (two_set0 HP3.out _) _, HDs.out⟩
end Go.Proofs.Ytdlgocieecfpbaa.Q
namespace Go.Proofs.Ytdlgocieecfpbaa.Q
open Go.RowKit Go.Proofs.YtdlgocieecfpbaaW.PrintWords Go.Proofs.YtdlgocieecfpbaaW.PrintLast Go.Proofs.YtdlgocieecfpbaaW.PrintMore Go.Proofs.Ytdlgocieecfpbaa.SL

set_option maxHeartbeats 1000000 in
theorem put_refused (p : Nat) (A : Option Addr) (c : Nat) (l : List Sp) (en off n : Int) (more : Bool) (w : World) (hp : w.heap[p]? = some (.cells #[.slice A l.length c, .int .i64 en] 52 (0, 0)))
    (hr : Kd.C k50 w A l.length l) (hc : l.length ≤ c) (hok : mayA l en off n more = false) :
    Calls Try.prog 14 #[.pointer (some ⟨p, 0, none⟩), .int .i64 off, .int .i64 n, .bool more] w fun e w' => e = .returned (.tuple #[.slice none 0 0, .int .i64 1]) ∧ Below w.heap.size w w' := by
  have hmay := may_calls p A c l en off n more w hp hr hc
  rw [hok] at hmay
  have HM := Lib.hid hmay
  clear hp hr hok hmay
  go_enter Try.func14, Try.ntmps14
  go_wp2_with fail
  refine HM.out.mono ?_
  rintro e w1 ⟨rfl, hb⟩
  have HB := Lib.hid hb
  clear hb HM
  go_wp2
  go_ret2
  exact ⟨rfl, HB.out⟩
theorem R_made0 (w : World) (base : Nat) (hb : base ≤ w.heap.size) : Kd.R k50 50 (w.alloc (.cells #[] 50)) base (fun _ => True) (.slice (some ⟨w.heap.size, 0, none⟩) 0 0) [] :=
  ⟨fun _ _ => trivial, [], World.ownsRow_made w #[] 0 hb (Nat.zero_le _) rfl, Reps.none _ _⟩
theorem K_M {w : World} {base : Nat} {ok : Nat → Prop} (x : Sp) (cs : List Value) (h : k50.K w x cs) : k50.M w base ok x cs := by
  obtain rfl := k50_open h
  exact mkS _ _
set_option maxHeartbeats 1000000 in
theorem clone_calls (A : Option Addr) (c : Nat) (l : List Sp) (w : World) (hr : Kd.C k50 w A l.length l) (hl : l.length ≤ 4000000) :
    Calls Try.prog 27 #[.slice A l.length c] w fun e w' => ∃ v, e = .returned v ∧ Kd.R k50 50 w' w.heap.size (fun _ => True) v l ∧ Below w.heap.size w w' := by
  have hnil := fun (W : World) => Lib.run_eql_slice_nil (P := Try.prog) W 30 50 A l.length c 0 0 Try.underlying30
  have HR := Lib.hid hr
  cases hA : A with
  | none =>
    have hl0 : l = [] := by
      rcases List.eq_nil_or_concat l with h | ⟨m, x, h⟩
      · exact h
      · obtain ⟨ad, he, _⟩ := hr.2.2 (by rw [h]; simp)
        rw [hA] at he
        cases he
    subst hA
    subst hl0
    clear hr
    simp only [List.length_nil] at hnil ⊢
    go_enter Try.func27, Try.ntmps27
    go_wp2
    go_ret
    exact ⟨_, rfl, Kd.R_nil _ _ _ _ _, Below.refl _ _⟩
  | some ad =>
    subst hA
    clear hr
    go_enter Try.func27, Try.ntmps27
    go_wp2_with ((with_reducible refine gate_builtin (b := .append) (xs := #[.tmp 5, .tmp 6]) rfl ?_); at_builtin; go_must (refine Kd.R_append_rows k50 (Rr := k50.K w) (w0 := w) w.heap.size rfl (.tmp 5) (.tmp 6) 30 50 (.agg #[.int .i64 0, .int .i64 0]) 16 rfl Try.underlying30 infoS rfl (by decide) (by decide) _ [] l (some ad) l.length c (fun _ => True) (fun _ => False) (by first | (go_simp; done) | (go_simp; rfl)) (by first | (go_simp; done) | (go_simp; rfl)) (R_made0 w w.heap.size (Nat.le_refl _)) (Kd.C_below HR.out (below_alloc (Below.refl _ _) _)) (fun x cs h => K_M x cs h) (fun _ h => h.elim) (fun _ _ => trivial) (below_alloc (Below.refl _ _) _) (by simp) (by simp; omega) ?_); intro v1 w2 hR1 hB1 hg1 hat1)
    go_ret
    exact ⟨v1, rfl, by simpa using hR1, hB1⟩
set_option maxHeartbeats 1000000 in
theorem holes_calls (p : Nat) (A : Option Addr) (c : Nat) (l : List Sp) (en : Int) (w : World) (hp : w.heap[p]? = some (.cells #[.slice A l.length c, .int .i64 en] 52 (0, 0)))
    (hr : Kd.C k50 w A l.length l) (hl : l.length ≤ 4000000) :
    Calls Try.prog 12 #[.pointer (some ⟨p, 0, none⟩)] w fun e w' => ∃ v, e = .returned v ∧ Kd.R k50 50 w' w.heap.size (fun _ => True) v l ∧ Below w.heap.size w w' := by
  obtain ⟨c0, c1⟩ := two_cells hp
  have HR := Lib.hid hr
  clear hp hr
  go_enter Try.func12, Try.ntmps12
  go_wp2_with (go_at_call 27; refine (clone_calls A c l _ HR.out hl).mono ?_; rintro e w1 ⟨v, rfl, hR, hb⟩)
  go_ret
  exact ⟨v, rfl, hR, hb⟩
theorem end_calls (p : Nat) (x : Value) (en : Int) (w : World) (hp : w.heap[p]? = some (.cells #[x, .int .i64 en] 52 (0, 0))) :
    Calls Try.prog 16 #[.pointer (some ⟨p, 0, none⟩)] w fun e w' => e = .returned (.int .i64 en) ∧ w = w' := by
  obtain ⟨c0, c1⟩ := two_cells hp
  clear hp
  go_enter Try.func16, Try.ntmps16
  go_wp2
  go_ret
  exact ⟨rfl, rfl⟩
def doneA (l : List Sp) (en : Int) : Bool := decide (0 ≤ en) && decide (l.length = 0)
theorem done_calls (p : Nat) (A : Option Addr) (c : Nat) (l : List Sp) (en : Int) (w : World) (hp : w.heap[p]? = some (.cells #[.slice A l.length c, .int .i64 en] 52 (0, 0))) :
    Calls Try.prog 18 #[.pointer (some ⟨p, 0, none⟩)] w fun e w' => e = .returned (.bool (doneA l en)) ∧ w = w' := by
  obtain ⟨c0, c1⟩ := two_cells hp
  clear hp
  by_cases h : 0 ≤ en
  · have hd : doneA l en = ((l.length : Int) == 0) := by unfold doneA; rw [decide_eq_true h, Bool.true_and, Bool.eq_iff_iff, decide_eq_true_eq, beq_iff_eq]; omega
    have HD := Lib.hid hd
    clear hd
    go_enter Try.func18, Try.ntmps18
    go_wp2
    go_ret
    exact ⟨by rw [HD.out]; rfl, rfl⟩
  · have hd : doneA l en = false := by unfold doneA; rw [decide_eq_false h]; rfl
    have h' : en < 0 := by omega
    have HD := Lib.hid hd
    clear hd h
    go_enter Try.func18, Try.ntmps18
    go_wp2
    go_ret
    exact ⟨by rw [HD.out]; rfl, rfl⟩
end Go.Proofs.Ytdlgocieecfpbaa.Q
