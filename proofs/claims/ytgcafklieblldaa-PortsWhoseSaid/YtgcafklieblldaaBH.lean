/- The walk of the statement PortsClose. No condition but sizes. -/
import Derived.Test.YtgcafklieblldaaBG
namespace Go.Proofs.Ytgcafklieblldaa.SL
open Go.RowKit Go.Proofs.YtgcafklieblldaaW.PrintWords Go.Proofs.YtgcafklieblldaaW.PrintLast Go.Proofs.YtgcafklieblldaaW.PrintMore
section
variable {w0 w : World} {Γ : List Ob} {p : Nat} {v : Value} {most g : Int} {l : List Bd}
theorem viewL_len (l : List Bd) (s : List OpT) : (viewL l s).length = 6 * l.length + s.length := by
  unfold viewL viewA
  rw [List.length_append, List.length_append, flat_le, nums, List.length_map, List.length_map]
  omega
theorem c_viewK (h : St w0 w Γ) (i : Nat) (hi : Γ[i]? = some (obT p v most g l)) {A : Option Addr} {c : Nat} {s : List OpT} (hA : OpsAt w A s) {V : List Int} (hV : viewL l s = V) (hl : l.length ≤ 32) (hsz : s.length ≤ 3000000000000) :
    Calls Try.prog 20 #[.pointer (some ⟨p, 0, none⟩), .slice A s.length c] w fun e w' => ∃ B d, e = .returned (.slice B V.length d) ∧ St w0 w' (Γ ++ [obI (.slice B V.length d) V]) := by
  subst hV
  refine (view_calls p v most g l A c s w (h.get i hi) hA hl hsz).mono ?_
  rintro e w' ⟨B, d, rfl, hs⟩
  exact ⟨B, d, rfl, h.add hs.bl [obI (.slice B (viewL l s).length d) (viewL l s)] (fun o ho => by obtain rfl := List.mem_singleton.1 ho; exact hs.get 0 rfl) (fun o ho b hb => by obtain rfl := List.mem_singleton.1 ho; exact hs.base 0 _ rfl b hb) (List.pairwise_singleton _ _)⟩
theorem c_atK (h : St w0 w Γ) (i : Nat) (hi : Γ[i]? = some (obT p v most g l)) (n : Int) {ra : Ad} {rp re : Int} (hr : atB l n = (ra, rp, re)) :
    Calls Try.prog 19 #[.pointer (some ⟨p, 0, none⟩), .int .i64 n] w fun e w' => e = .returned (.tuple #[.agg (aV ra), .int .i64 rp, .int .i64 re]) ∧ St w0 w' Γ := by
  have := c_at h i hi n
  rw [hr] at this
  exact this
theorem c_closeK (h : St w0 w Γ) (i : Nat) (hi : Γ[i]? = some (obT p v most g l)) (n : Int) {e0 : Int} {l' : List Bd} (h1 : closeE l n = e0) (h2 : closeL l n = l') :
    Calls Try.prog 11 #[.pointer (some ⟨p, 0, none⟩), .int .i64 n] w fun e w' => ∃ v', e = .returned (.int .i64 e0) ∧ St w0 w' (Γ.set i (obT p v' most g l')) := by
  subst h1 h2
  exact c_close h i hi n
end
attribute [-go_sem] loadVar
attribute [local go_sem] lv3 lv59
attribute [local go_sem high] neq_ad
set_option maxHeartbeats 4000000 in
set_option maxRecDepth 100000 in
theorem close_law (size : Int) (A : Option Addr) (c : Nat) (s : List OpT) (a : Ad) (port : Int) (w : World) (h0 : kO.C w A s.length s) (hsz : s.length ≤ 3000000000000) :
    Calls Try.prog 6 #[.int .i64 size, .slice A s.length c, .agg (aV a), .int .i64 port] w fun e w' => e = .returned (.bool true) ∧ Below w.heap.size w w' := by
  have HA : Hid (OpsAt w A s) := Lib.hid fun k hk => op_at h0 k hk
  have HS : Hid (St w (w.alloc (.cells (aV a) 32)) [obB w.heap.size (aV a) 32]) := Lib.hid ((St.nil w).box (aV a) 32)
  have hbig : s.length ≤ 9223372036854775807 := by omega
  have HZ := Lib.hid hsz
  obtain ⟨m, hm, hm31, hmw⟩ := size32 size
  have HM := Lib.hid hm31
  clear hsz h0 hm31
  go_enter Try.func6, Try.ntmps6
  go_wp2_with (first | (go_at_call 7; refine (alive_calls _).mono ?_; rintro e w1 ⟨rfl, hs⟩; replace HS := Lib.hid (HS.out.below hs); clear hs) | (go_at_call 8; refine (c_new HS.out (1 + (m : Int)) (by omega) (by have := HM.out; omega)).mono ?_; rintro e w1 ⟨p, rfl, hs⟩; replace HS := Lib.hid hs; clear hs))
  have HQ : Hid (Sz (1 + (m : Int)) 0 [] (0 + 1)) := Lib.hid (Sz.mk (by have := HM.out; omega) (by decide) (by decide) (by decide))
  have HW : Hid (WF [] 0) := Lib.hid ⟨by decide, fun x hx => by cases hx⟩
  clear hm hmw
  generalize w.heap.size = B0 at HS ⊢
  go_loopw [11] (fun i wr => ∃ (k : Nat) (v : Value) (g : Int) (l : List Bd), k ≤ s.length ∧ i = .int .i64 k ∧ Hid (Sz (1 + (m : Int)) g l (k + 1)) ∧ Hid (WF l g) ∧ Hid (St w wr [obB B0 (aV a) 32, obT p v (1 + (m : Int)) g l])) (fun i _ => s.length - (intOf i).toNat)
  case atStart => exact ⟨0, _, _, _, Nat.zero_le _, rfl, HQ, HW, HS⟩
  case round =>
    obtain ⟨k, v, g, l, hk, rfl, HQ2, HW2, HS2⟩ := hrel
    clear HS HQ HW
    by_cases hlt : k < s.length
    · have hltz : (k : Int) < (s.length : Int) := by omega
      obtain ⟨ad, rfl, hop⟩ := HA.out k hlt
      have HH := Lib.hid hop
      have hop2 := hop.below HS2.out.bl
      clear hop
      generalize s.getD k zO = x at HH hop2
      obtain ⟨o0, o1, o2, o3⟩ := hop2
      by_cases hk1 : x.k = 1
      · have b1 : (x.k == 1) = true := by simpa using hk1
        have hLD : ∀ W : World, W.rangeAt (ad.add (k * 20)).block ((ad.add (k * 20)).off + 3) (aL x.a) → (loadVar 32 ⟨(ad.add (k * 20)).block, (ad.add (k * 20)).off + 3, none⟩).run Try.prog W = .ok (.agg (aV x.a)) W := fun W h => lvA h
        have HQ3 := Lib.hid (HQ2.out.bind x.a x.n)
        have HW3 := Lib.hid (HW2.out.bind (most := 1 + (m : Int)) x.a x.n)
        have HL := Lib.hid o3
        clear hk1 o3
        go_wp2_with fail
        go_region_held3 (fun W => W.cell? ⟨(ad.add (k * 20)).block, (ad.add (k * 20)).off + 2, none⟩ = some (.int .i64 x.n) ∧ W.rangeAt (ad.add (k * 20)).block ((ad.add (k * 20)).off + 3) (aL x.a)) (first | exact ⟨o2, HL.out⟩ | exact ⟨(HH.out.below HS.out.bl).2.2.1, (HH.out.below HS.out.bl).2.2.2⟩) (first | (go_at_call 9; refine (c_bind HS2.out.drew 1 rfl HQ2.out.g0 (by have := HQ2.out.g1; have := HZ.out; omega) (Nat.le_trans HQ2.out.l (by decide)) x.a x.n).mono ?_; rintro e w1 ⟨v1, rfl, hs⟩; have HS := Lib.hid hs; clear hs))
        go_wp2_with fail
        go_roundw
        case rel => exact ⟨k + 1, _, _, _, by omega, by go_num, HQ3, HW3, HS⟩
        case measure => simp [intOf]; omega
      · have b1 : (x.k == 1) = false := by simpa using hk1
        by_cases hk4 : x.k = 4
        · have b4 : (x.k == 4) = true := by simpa using hk4
          have HQ3 := Lib.hid ((HQ2.out.close x.n).up (Nat.le_succ _))
          have HW3 := Lib.hid (HW2.out.close x.n)
          clear hk1 hk4 o3
          go_wp2_with (go_at_call 11; refine (c_close HS2.out 1 rfl x.n).mono ?_; rintro e w1 ⟨v1, rfl, hs⟩; have HS := Lib.hid hs; clear hs)
          go_roundw
          case rel => exact ⟨k + 1, _, _, _, by omega, by go_num, HQ3, HW3, HS⟩
          case measure => simp [intOf]; omega
        · have b4 : (x.k == 4) = false := by simpa using hk4
          have HQ3 := Lib.hid (HQ2.out.up (Nat.le_succ _))
          have HW3 := HW2
          clear hk1 hk4 o3
          go_wp2_with fail
          go_roundw
          case rel => exact ⟨k + 1, _, _, _, by omega, by go_num, HQ3, HW3, HS2⟩
          case measure => simp [intOf]; omega
    · have hltz : ¬ (k : Int) < (s.length : Int) := by omega
      have hksz : (k : Int) ≤ 3000000000000 := by have := HZ.out; omega
      have HS := HS2
      clear HS2
      obtain ⟨V, hV⟩ : ∃ V, viewL l s = V := ⟨_, rfl⟩
      have HV := Lib.hid (And.intro hV (show V.length ≤ 4000000000000 by rw [← hV, viewL_len]; have := HQ2.out.l; have := HZ.out; omega))
      have HG0 : Hid (0 ≤ g ∧ g < 3900000000000000000) := Lib.hid ⟨HQ2.out.g0, by have := HQ2.out.g1; omega⟩
      clear hV
      by_cases hE : (bindS (1 + (m : Int)) g l a port).e = 0
      · obtain ⟨q, hT⟩ := took HW2.out hE
        have HT := Lib.hid hT
        have hmn : decide (g + 2 > g + 1) = true := by simp
        clear hE hT
        go_wp2_with (first | (go_at_call 20; refine (c_viewK (Γ := [_, _]) HS.out 1 rfl (HA.out.below HS.out.bl) HV.out.1 HQ2.out.l HZ.out).mono ?_; rintro e w1 ⟨A1, c1, rfl, hs⟩; replace HS := Lib.hid hs; clear hs) | (go_at_call 20; refine (c_viewK (Γ := [_, _, _, _]) HS.out 1 rfl (HA.out.below HS.out.bl) HV.out.1 HQ2.out.l HZ.out).mono ?_; rintro e w1 ⟨A2, c2, rfl, hs⟩; replace HS := Lib.hid hs; clear hs) | (refine gate_ (.load 32 (.tmp 6)) rfl ?_; refine wpList_guarded (by rfl) ?_; go_must (refine ld_A (.tmp 6) rfl rfl (range_A (y := a) (T := 32) (fr := (0, 0)) (HS.out.get 0 rfl)) rfl ?_)) | (refine gate_ (.load 32 (.tmp 15)) rfl ?_; refine wpList_guarded (by rfl) ?_; go_must (refine ld_A (.tmp 15) rfl rfl (range_A (y := a) (T := 32) (fr := (0, 0)) (HS.out.get 3 rfl)) rfl ?_)) | (go_at_call 9; refine (c_bindK HS.out 1 rfl (by have := HG0.out.1; omega) (by have := HG0.out.2; omega) (by have := HQ2.out.l; omega) a port HT.out.b).mono ?_; rintro e w1 ⟨v1, rfl, hs⟩; replace HS := Lib.hid hs; clear hs) | (go_at_call 9; refine (c_bindK HS.out 1 rfl (by have := HG0.out.1; omega) (by have := HG0.out.2; omega) (by have := HQ2.out.l; omega) a port HT.out.b2).mono ?_; rintro e w1 ⟨v1, rfl, hs⟩; replace HS := Lib.hid hs; clear hs) | (go_at_call 19; refine (c_atK HS.out 1 rfl (g + 1) HT.out.at_).mono ?_; rintro e w1 ⟨rfl, hs⟩; replace HS := Lib.hid hs; clear hs) | (go_at_call 19; refine (c_atK HS.out 1 rfl (g + 1) HT.out.at2).mono ?_; rintro e w1 ⟨rfl, hs⟩; replace HS := Lib.hid hs; clear hs) | (refine gate_ (.store 32 (.tmp 15) (.tmp 100)) rfl ?_; go_must (refine st_A (.tmp 15) (.tmp 100) rfl rfl rfl rfl rfl ?_); replace HS := Lib.hid (HS.out.box (aV a) 32)) | (go_at_call 18; refine (c_findK HS.out 1 rfl a q HT.out.fnd).mono ?_; rintro e w1 ⟨rfl, hs⟩; replace HS := Lib.hid hs; clear hs) | (go_at_call 11; refine (c_closeK HS.out 1 rfl (g + 1) HT.out.ce HT.out.cl).mono ?_; rintro e w1 ⟨v2, rfl, hs⟩; replace HS := Lib.hid hs; clear hs) | (go_at_call 11; refine (c_closeK HS.out 1 rfl (g + 1) HT.out.ce2 rfl).mono ?_; rintro e w1 ⟨v2, rfl, hs⟩; replace HS := Lib.hid hs; clear hs) | (go_at_call 13; refine (c_same HS.out 4 2 rfl rfl HV.out.2).mono ?_; rintro e w1 ⟨rfl, hs⟩; replace HS := Lib.hid hs; clear hs))
        go_ret
        exact ⟨rfl, HS.out.bl⟩
      · obtain ⟨b1, b2, b3, b4⟩ := bindS_no hE
        obtain ⟨E, hbE⟩ : ∃ E, bindS (1 + (m : Int)) g l a port = ⟨0, 0, E, g, l⟩ := ⟨(bindS (1 + (m : Int)) g l a port).e, by
          obtain ⟨r, hr⟩ : ∃ r, bindS (1 + (m : Int)) g l a port = r := ⟨_, rfl⟩
          rw [hr] at b1 b2 b3 b4 ⊢
          obtain ⟨n, q, e, g', l'⟩ := r
          simp only at b1 b2 b3 b4 ⊢
          rw [b1, b2, b3, b4]⟩
        have hne : (E != 0) = true := by
          rw [hbE] at hE
          simpa using hE
        have HB := Lib.hid hbE
        clear hbE hE b1 b2 b3 b4
        go_wp2_with (first | (go_at_call 20; refine (c_viewK (Γ := [_, _]) HS.out 1 rfl (HA.out.below HS.out.bl) HV.out.1 HQ2.out.l HZ.out).mono ?_; rintro e w1 ⟨A1, c1, rfl, hs⟩; replace HS := Lib.hid hs; clear hs) | (go_at_call 20; refine (c_viewK (Γ := [_, _, _]) HS.out 1 rfl (HA.out.below HS.out.bl) HV.out.1 HQ2.out.l HZ.out).mono ?_; rintro e w1 ⟨A2, c2, rfl, hs⟩; replace HS := Lib.hid hs; clear hs) | (refine gate_ (.load 32 (.tmp 6)) rfl ?_; refine wpList_guarded (by rfl) ?_; go_must (refine ld_A (.tmp 6) rfl rfl (range_A (y := a) (T := 32) (fr := (0, 0)) (HS.out.get 0 rfl)) rfl ?_)) | (go_at_call 9; refine (c_bindK HS.out 1 rfl HG0.out.1 (by have := HG0.out.2; omega) (Nat.le_trans HQ2.out.l (by decide)) a port HB.out).mono ?_; rintro e w1 ⟨v1, rfl, hs⟩; replace HS := Lib.hid hs; clear hs) | (go_at_call 13; refine (c_same HS.out 3 2 rfl rfl HV.out.2).mono ?_; rintro e w1 ⟨rfl, hs⟩; replace HS := Lib.hid hs; clear hs))
        go_ret
        exact ⟨rfl, HS.out.bl⟩
end Go.Proofs.Ytgcafklieblldaa.SL
