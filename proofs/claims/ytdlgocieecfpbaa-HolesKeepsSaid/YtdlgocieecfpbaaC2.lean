/- The walk of the program's Put where the piece may come: what is new, and what is left. No condition but the list's length. -/
import Derived.Test.YtdlgocieecfpbaaC1
import Derived.Deep.DeepMust
namespace Go.Proofs.Ytdlgocieecfpbaa.Q
open Go.RowKit Go.Proofs.YtdlgocieecfpbaaW.PrintWords Go.Proofs.YtdlgocieecfpbaaW.PrintLast Go.Proofs.YtdlgocieecfpbaaW.PrintMore Go.Proofs.Ytdlgocieecfpbaa.SL
attribute [local go_sem ↓] Go.wp_at_zero Go.wp_at_succ

theorem freshA_len (s : Sp) : ∀ l : List Sp, (freshA l s).length ≤ l.length
  | [] => Nat.le_refl _
  | h :: l => by
    have i := freshA_len s l
    have e : freshA (h :: l) s = freshF s h ++ freshA l s := rfl
    have j : (freshF s h).length ≤ 1 := by unfold freshF; split <;> simp
    rw [e, List.length_append, List.length_cons]
    omega
theorem mkS {w : World} {base : Nat} {ok : Nat → Prop} (a b : Int) : k50.M w base ok ⟨a, b⟩ [.int .i64 a, .int .i64 b] := k50_mkM w base ok ⟨a, b⟩
theorem infoS : (Try.prog.info? 50).map (fun i => (i.zero, i.size, i.bytes)) = some (some (.agg #[.int .i64 0, .int .i64 0]), 2, 16) := by kernel_rfl
theorem two_set0 {w : World} {p : Nat} {x y : Value} {t : TypeId} (h : w.heap[p]? = some (.cells #[x, y] t (0, 0))) (u : Value) : (w.setCell ⟨p, 0, none⟩ u).heap[p]? = some (.cells #[u, y] t (0, 0)) := by
  have hlt := lt_of_block h
  have h' : w.heap[p] = .cells #[x, y] t (0, 0) := by simpa [Array.getElem?_eq_getElem hlt] using h
  show (w.heap.modify p _)[p]? = _
  rw [Array.getElem?_eq_getElem (by simpa using hlt), Array.getElem_modify_self, h']
  rfl
theorem two_set1 {w : World} {p : Nat} {x y : Value} {t : TypeId} (h : w.heap[p]? = some (.cells #[x, y] t (0, 0))) (u : Value) : (w.setCell ⟨p, 1, none⟩ u).heap[p]? = some (.cells #[x, u] t (0, 0)) := by
  have hlt := lt_of_block h
  have h' : w.heap[p] = .cells #[x, y] t (0, 0) := by simpa [Array.getElem?_eq_getElem hlt] using h
  show (w.heap.modify p _)[p]? = _
  rw [Array.getElem?_eq_getElem (by simpa using hlt), Array.getElem_modify_self, h']
  rfl
theorem set_far {w : World} {p : Nat} {y : Value} (h : w.cell? ⟨p, 1, none⟩ = some y) : ∀ u, (w.setCell ⟨p, 0, none⟩ u).cell? ⟨p, 1, none⟩ = some y := fun u => by
  exact (World.cell?_setCell_other (w := w) (a := (⟨p, 0, none⟩ : Addr)) (b := ⟨p, 1, none⟩) (v := u) (by simp)).trans h
/-- A row made from base on, behind a store into an elder block. -/
theorem R_old {w : World} {base : Nat} {v : Value} {l : List Sp} (h : Kd.R k50 50 w base (fun _ => True) v l) {p : Nat} (hp : p < base) (o : Nat) (u : Value) : Kd.R k50 50 (w.setCell ⟨p, o, none⟩ u) base (fun _ => True) v l :=
  Kd.R_mono (Kd.R_far (p := ⟨p, o, none⟩) (Kd.R_bound h) (fun k hk => by have := hk.2.1; show k ≠ p; omega) u) (fun _ hk => hk.1)
/-- What Put leaves. -/
def PutPost (p : Nat) (l : List Sp) (en off n : Int) (more : Bool) (w : World) (e : Ending) (w' : World) : Prop :=
  ∃ v A' c', e = .returned (.tuple #[v, .int .i64 0]) ∧ SL.Touch [p] w w' ∧ Kd.R k50 50 w' w.heap.size (fun _ => True) v (freshA l ⟨off, off + n⟩) ∧
    Kd.R k50 50 w' w.heap.size (fun _ => True) (.slice A' (leftA l en off n more).length c') (leftA l en off n more) ∧
    w'.heap[p]? = some (.cells #[.slice A' (leftA l en off n more).length c', .int .i64 (endA en off n more)] 52 (0, 0)) ∧
    ∀ k, v.ownBlock = some k → (Value.slice A' (leftA l en off n more).length c').ownBlock ≠ some k
set_option maxHeartbeats 1000000 in
set_option maxRecDepth 100000 in
theorem put_calls (p : Nat) (A : Option Addr) (c : Nat) (l : List Sp) (en off n : Int) (more : Bool) (w : World) (hp : w.heap[p]? = some (.cells #[.slice A l.length c, .int .i64 en] 52 (0, 0)))
    (hr : Kd.C k50 w A l.length l) (hc : l.length ≤ c) (hl : l.length ≤ 4000000) (hok : mayA l en off n more = true) (hb0 : 0 ≤ off) (hb1 : 1 ≤ n) (hb2 : off + n ≤ 65535) (hm : more = true ∨ 0 ≤ en) :
    Calls Try.prog 14 #[.pointer (some ⟨p, 0, none⟩), .int .i64 off, .int .i64 n, .bool more] w fun e w' => PutPost p l en off n more w e w' := by
  obtain ⟨c0, c1⟩ := two_cells hp
  have f0 := two_free hp 0
  have hu := Try.underlying50
  have hmay := may_calls p A c l en off n more w hp hr hc
  rw [hok] at hmay
  have hlp := lt_of_block hp
  have HP := Lib.hid hp
  have HR := Lib.hid hr
  have hll : l.length ≤ 9223372036854775807 := hr.2.1
  have HM := Lib.hid hmay
  clear hp hr hok hmay
  go_enter Try.func14, Try.ntmps14
  go_wp2_with fail
  refine HM.out.mono ?_
  rintro e w1 ⟨rfl, hb⟩
  have c0' := (hb.cell (p := ⟨p, 0, none⟩) hlp).trans c0
  have c1' := (hb.cell (p := ⟨p, 1, none⟩) hlp).trans c1
  have f0' := (hb.frozen (p := ⟨p, 0, none⟩) hlp).trans f0
  have HB := Lib.hid hb
  have hsz : w.heap.size ≤ w1.heap.size := hb.size
  have hlp1 : p < w1.heap.size := by omega
  clear hb HM
  go_wp2_with fail
  go_loopw [11, 31] (fun v i wr => ∃ k : Nat, k ≤ l.length ∧ i = .int .i64 k ∧ Hid (Below (w1.heap.size + 1) (w1.alloc (.cells #[.int .i64 off, .int .i64 (off + n)] 50)) wr) ∧ Hid (Kd.R k50 50 wr (w1.heap.size + 1) (fun _ => True) v (freshA (l.take k) ⟨off, off + n⟩))) (fun _ i _ => l.length - (intOf i).toNat)
  case atStart => exact ⟨0, Nat.zero_le _, rfl, Lib.hid (Below.refl _ _), Lib.hid (Kd.R_nil _ _ _ _ _)⟩
  case round =>
    obtain ⟨k, hk, rfl, BW, RR⟩ := hrel
    have HW := Lib.hid (below_then (below_alloc HB.out (.cells #[.int .i64 off, .int .i64 (off + n)] 50)) (by simp; omega) (BW.out.mono (by simp)))
    have hwsz : w1.heap.size < wr.heap.size := by have := BW.out.size; simp at this; omega
    have b0 := (BW.out.cell (p := ⟨w1.heap.size, 0, none⟩) (Nat.lt_succ_self _)).trans (World.cell?_alloc_new ..)
    have b1 := (BW.out.cell (p := ⟨w1.heap.size, 1, none⟩) (Nat.lt_succ_self _)).trans (World.cell?_alloc_new ..)
    by_cases hlt : k < l.length
    · have hltz : (k : Int) < (l.length : Int) := by omega
      obtain ⟨ad, hA, h0, h1⟩ := at_T50 HR.out (k : Int) (by omega) hltz
      have l0 := pw_cell_below HW.out h0
      have l1 := pw_cell_below HW.out h1
      have hx : rd_T50 l (k : Int) = l[k] := rdT l k hlt
      have e : freshA (l.take (k + 1)) ⟨off, off + n⟩ = freshA (l.take k) ⟨off, off + n⟩ ++ freshF ⟨off, off + n⟩ l[k] := by
        unfold freshA
        rw [List.take_succ_eq_append_getElem hlt, List.flatMap_append]
        simp
      rw [hx] at l0 l1
      generalize l[k] = h at *
      rw [Int.toNat_natCast] at l0 l1
      subst hA
      obtain ⟨M1, hM1, d1⟩ : ∃ M1, mx h.f0 off = M1 ∧ ((h.f0 < off ∧ off = M1) ∨ (off ≤ h.f0 ∧ h.f0 = M1)) := ⟨_, rfl, by have := mx_cases h.f0 off; omega⟩
      obtain ⟨M2, hM2, d2⟩ : ∃ M2, mn h.f1 (off + n) = M2 ∧ ((off + n < h.f1 ∧ off + n = M2) ∨ (h.f1 ≤ off + n ∧ h.f1 = M2)) := ⟨_, rfl, by have := mn_cases h.f1 (off + n); omega⟩
      have hF : freshF ⟨off, off + n⟩ h = if M1 < M2 then [⟨M1, M2⟩] else [] := by
        unfold freshF
        show (if mx h.f0 off < mn h.f1 (off + n) then _ else _) = _
        rw [hM1, hM2]
      rw [hF] at e
      clear hF hM1 hM2
      have HE := Lib.hid e
      have hfl := freshA_len ⟨off, off + n⟩ (l.take k)
      rw [List.length_take] at hfl
      clear h0 h1 hx e c0 c1 f0 c0' c1' f0'
      by_cases hM : M1 < M2
      all_goals
        rcases d1 with ⟨d1, rfl⟩ | ⟨d1, rfl⟩
        all_goals
          rcases d2 with ⟨d2, rfl⟩ | ⟨d2, rfl⟩
          all_goals (try ((exfalso; omega)))
          all_goals
            go_wp2_with ((with_reducible refine gate_builtin (b := .append) (xs := #[.tmp 51, .tmp 53]) rfl ?_); at_builtin; go_must (refine Kd.R_append k50 (w0 := w1.alloc (.cells #[.int .i64 off, .int .i64 (off + n)] 50)) (w1.heap.size + 1) rfl (.tmp 51) (.tmp 53) 30 50 (.agg #[.int .i64 0, .int .i64 0]) 16 rfl Try.underlying30 infoS rfl (by decide) (by decide) u11 (freshA (l.take k) ⟨off, off + n⟩) ⟨_, _⟩ [.int .i64 _, .int .i64 _] (fun _ => True) (fun _ => False) rfl (by first | (go_simp; done) | (go_simp; rfl)) (mkS _ _) (fun _ h => h.elim) (fun _ _ => trivial) (Kd.R_below RR.out (below_alloc (below_alloc (Below.refl _ _) _) _)) (below_then BW.out (by omega) (below_alloc (below_alloc (Below.refl _ _) _) _)) (by simp; omega) (by omega) ?_); intro v1 w2 hR1 hB1 hg1 hat1)
            go_roundw
            case rel => exact ⟨k + 1, by omega, by go_num, by first | exact Lib.hid hB1 | exact Lib.hid (below_then BW.out (by omega) (below_alloc (below_alloc (Below.refl _ _) _) _)), by rw [HE.out]; first | (rw [if_pos (by assumption)]; exact Lib.hid hR1) | (rw [if_neg (by assumption), List.append_nil]; exact Lib.hid (Kd.R_below RR.out (below_alloc (below_alloc (Below.refl _ _) _) _)))⟩
            case measure => simp [intOf]; omega
    · obtain rfl : k = l.length := by omega
      rw [List.take_length] at RR
      have c0w := (HW.out.cell (p := ⟨p, 0, none⟩) hlp).trans c0
      have c1w := (HW.out.cell (p := ⟨p, 1, none⟩) hlp).trans c1
      have f0w := (HW.out.frozen (p := ⟨p, 0, none⟩) hlp).trans f0
      have hplt : p < wr.heap.size := by omega
      clear c0 c1 f0 c0' c1' f0'
      obtain ⟨L1, x1, hL, hL1⟩ : ∃ L1 x1, span_Cut.f 400000000 l off (off + n) = some (L1, x1) ∧ (cutA l ⟨off, off + n⟩).1 = L1 := ⟨_, _, cut_evalA l (by omega) off (off + n) 400000000 (by omega), rfl⟩
      have HL := Lib.hid hL
      have HL1 := Lib.hid hL1
      have hla : leftA l en off n more = L1 := by
        unfold leftA
        rw [if_neg (by rintro ⟨h1, h2, _⟩; rcases hm with h | h; rw [h] at h1; cases h1; omega)]
        exact hL1
      have hea : endA en off n more = en := by
        unfold endA
        rw [if_neg (by rintro ⟨h1, h2⟩; rcases hm with h | h; rw [h] at h1; cases h1; omega)]
      have HLA := Lib.hid hla
      have HEA := Lib.hid hea
      clear hL hL1 hla hea
      have hen : more = true ∨ (more = false ∧ 0 ≤ en) := by cases more; exact .inr ⟨rfl, by simpa using hm⟩; exact .inl rfl
      clear hm
      rcases hen with rfl | ⟨rfl, hen⟩
      all_goals
        go_wp2_with fail
        go_region_with ((go_at_call 30; refine (span_Cut.calls 400000000 A c l off (off + n) _ _ _ ?hr hc HL.out).mono ?_; (case hr => exact Kd.C_below HR.out (by first | exact HW.out | exact HW.out.drew)); rintro e w3 ⟨v3, rfl, hR3, hb3⟩; obtain ⟨A3, c3, rfl⟩ := Kd.R_slice hR3; have c0x := (hb3.cell (p := ⟨p, 0, none⟩) hplt).trans c0w; have c1x := set_far ((hb3.cell (p := ⟨p, 1, none⟩) hplt).trans c1w); have f0x := (hb3.frozen (p := ⟨p, 0, none⟩) hplt).trans f0w))
        all_goals
          have HC := Lib.hid (And.intro hR3 hb3)
          clear hR3 hb3
          go_wp2
          go_ret2
          obtain ⟨hR3, hb3⟩ := HC.out
          have hp3 := (hb3.block p hplt).trans ((HW.out.block p hlp).trans HP.out)
          unfold PutPost
          rw [HLA.out, HEA.out]
          refine ⟨u11, A3, c3, rfl, ?_, ?_, ?_, ?_, ?_⟩
          · exact ((Touch.of_below HW.out).then_below (by first | exact hb3 | exact ((Below.refl _ _).drew.trans hb3))).setCell (p := ⟨p, 0, none⟩) (.inl List.mem_cons_self) _
          · exact R_old (Kd.R_lower (Kd.R_below RR.out (by first | exact hb3 | exact ((Below.refl _ _).drew.trans hb3))) (by omega)) hlp _ _
          · exact R_old (Kd.R_lower hR3 (by first | exact HW.out.size | (simp; exact HW.out.size))) hlp _ _
          · exact two_set0 hp3 _
          · exact fun k hk he => by have h1 := (Kd.R_bound RR.out).1 k hk; have h2 := Kd.R_base hR3 k he; simp at h1 h2; omega
end Go.Proofs.Ytdlgocieecfpbaa.Q
