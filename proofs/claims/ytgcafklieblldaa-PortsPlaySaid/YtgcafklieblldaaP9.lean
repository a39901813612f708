/- The walk of the statement's one step on both tables. No condition but sizes and that bytes are bytes. -/
import Derived.Test.YtgcafklieblldaaP8
import Derived.Test.YtgcafklieblldaaBH
namespace Go.Proofs.Ytgcafklieblldaa.SL
open Go.RowKit Go.Proofs.YtgcafklieblldaaW.PrintWords Go.Proofs.YtgcafklieblldaaW.PrintLast Go.Proofs.YtgcafklieblldaaW.PrintMore
def oV (x : OpT) : Array Value := (oL x).toArray
theorem oV_size (x : OpT) : (oV x).size = 20 := by unfold oV; rw [List.size_toArray, oL_len]
section
variable {w : World} {b : Nat} {o : OpT} {T : TypeId} {fr : Nat × Nat}
theorem cell_o0 (h : w.heap[b]? = some (.cells (oV o) T fr)) : w.cell? ⟨b, 0, none⟩ = some (.int .i64 o.k) := by rw [cell_of_row _ _ _ _ _ _ h]; rfl
theorem cell_o2 (h : w.heap[b]? = some (.cells (oV o) T fr)) : w.cell? ⟨b, 2, none⟩ = some (.int .i64 o.n) := by rw [cell_of_row _ _ _ _ _ _ h]; rfl
theorem range_o3 (h : w.heap[b]? = some (.cells (oV o) T fr)) : w.rangeAt b 3 (aL o.a) := rangeAt_row h 3 _ fun j u hu => by
  unfold oV oL
  rw [List.getElem?_toArray, show 3 + j = j + 1 + 1 + 1 by omega, List.getElem?_cons_succ, List.getElem?_cons_succ, List.getElem?_cons_succ]
  exact hu
end
section
variable {w0 w : World} {Γ : List Ob} {p : Nat} {v : Value} {most g : Int} {l : List Bd}
theorem d_bindK (h : St w0 w Γ) (i : Nat) (hi : Γ[i]? = some (obU p v most g l)) (hwf : WF l g) (hg1 : g < 4000000000000000000) (h32 : l.length ≤ 32) (a : Ad) (hok : bOk a.b) (port : Int) {rn rq re rg : Int} {rl : List Bd} (hr : bindS most g l a port = ⟨rn, rq, re, rg, rl⟩) :
    Calls Try.prog 25 #[.pointer (some ⟨p, 0, none⟩), .agg (aV a), .int .i64 port] w fun e w' => ∃ v', e = .returned (.tuple #[.int .i64 rn, .int .i64 rq, .int .i64 re]) ∧ St w0 w' (Γ.set i (obU p v' most rg rl)) := by
  have := d_bind h i hi hwf hg1 h32 a hok port
  rw [hr] at this
  exact this
theorem d_closeK (h : St w0 w Γ) (i : Nat) (hi : Γ[i]? = some (obU p v most g l)) (hl : (l.length : Int) ≤ 1000) (n : Int) {e0 : Int} {l' : List Bd} (h1 : closeE l n = e0) (h2 : closeL l n = l') :
    Calls Try.prog 28 #[.pointer (some ⟨p, 0, none⟩), .int .i64 n] w fun e w' => ∃ v', e = .returned (.int .i64 e0) ∧ St w0 w' (Γ.set i (obU p v' most g l')) := by
  subst h1 h2
  exact d_close h i hi hl n
theorem d_atK (h : St w0 w Γ) (i : Nat) (hi : Γ[i]? = some (obU p v most g l)) (hl : (l.length : Int) ≤ 1000) (n : Int) {ra : Ad} {rp re : Int} (hr : atB l n = (ra, rp, re)) :
    Calls Try.prog 27 #[.pointer (some ⟨p, 0, none⟩), .int .i64 n] w fun e w' => e = .returned (.tuple #[.agg (aV ra), .int .i64 rp, .int .i64 re]) ∧ St w0 w' Γ := by
  have := d_at h i hi hl n
  rw [hr] at this
  exact this
theorem d_findK (h : St w0 w Γ) (i : Nat) (hi : Γ[i]? = some (obU p v most g l)) (hl : (l.length : Int) ≤ 1000) (hwf : WF l g) (a : Ad) (port : Int) {f : Int} (hf : findP l a port = f) :
    Calls Try.prog 26 #[.pointer (some ⟨p, 0, none⟩), .agg (aV a), .int .i64 port] w fun e w' => e = .returned (.int .i64 f) ∧ St w0 w' Γ := by
  subst hf
  exact d_find h i hi hl hwf a port
theorem d_allK (h : St w0 w Γ) (i : Nat) (hi : Γ[i]? = some (obU p v most g l)) (hl : (l.length : Int) ≤ 1000) {V : List Int} (hV : nums l = V) :
    Calls Try.prog 29 #[.pointer (some ⟨p, 0, none⟩)] w fun e w' => ∃ A c, e = .returned (.slice A V.length c) ∧ St w0 w' (Γ ++ [obI (.slice A V.length c) V]) := by
  subst hV
  have := d_all h i hi hl
  rw [show l.length = (nums l).length by simp [nums]] at this
  exact this
theorem c_allK' (h : St w0 w Γ) (i : Nat) (hi : Γ[i]? = some (obT p v most g l)) (hl : (l.length : Int) ≤ 1000) {V : List Int} (hV : nums l = V) :
    Calls Try.prog 12 #[.pointer (some ⟨p, 0, none⟩)] w fun e w' => ∃ A c, e = .returned (.slice A V.length c) ∧ St w0 w' (Γ ++ [obI (.slice A V.length c) V]) := by
  subst hV
  have := c_all h i hi (by omega)
  rw [show l.length = (nums l).length by simp [nums]] at this
  exact this
end
attribute [-go_sem] loadVar
attribute [local go_sem] lv3
attribute [local go_sem high] neq_ad
set_option maxHeartbeats 4000000 in
set_option maxRecDepth 100000 in
theorem plays_calls {w0 w : World} {p q : Nat} {v u : Value} {most g : Int} {l : List Bd} {o2 o3 o4 o5 : Ob} {kk : Nat} (o : OpT) (hok : bOk o.a.b) (hsz : Sz most g l kk) (hwf : WF l g) (hkk : kk ≤ 3000000000001)
    (h : St w0 w [obT p v most g l, obU q u most g l, o2, o3, o4, o5]) :
    Calls Try.prog 15 #[.pointer (some ⟨p, 0, none⟩), .pointer (some ⟨q, 0, none⟩), .agg (oV o)] w fun e w' => ∃ v' u' g' l', e = .returned (.bool true) ∧ Hid (St w0 w' [obT p v' most g' l', obU q u' most g' l', o2, o3, o4, o5]) ∧ Hid (Sz most g' l' (kk + 1)) ∧ Hid (WF l' g') := by
  have hs0 := h.box (oV o) 35
  have c0 := cell_o0 (hs0.get 6 rfl)
  have c2 := cell_o2 (hs0.get 6 rfl)
  have HS := Lib.hid hs0
  have HQ := Lib.hid hsz
  have HW := Lib.hid hwf
  have HO := Lib.hid hok
  have HG : Hid (0 ≤ g ∧ g < 3900000000000000000 ∧ l.length ≤ 32 ∧ (l.length : Int) ≤ 1000) := Lib.hid ⟨hsz.g0, by have := hsz.g1; omega, hsz.l, by have := hsz.l; omega⟩
  clear hs0 h hsz hwf hok hkk
  go_enter Try.func15, Try.ntmps15
  by_cases h1 : o.k = 1
  · have b1 : (o.k == 1) = true := by simpa using h1
    obtain ⟨⟨rn, rq, re, rg, rl⟩, hr⟩ : ∃ r, bindS most g l o.a o.n = r := ⟨_, rfl⟩
    have HR := Lib.hid hr
    have hq2 := HQ.out.bind o.a o.n
    have hw2 := HW.out.bind (most := most) o.a o.n
    rw [hr] at hq2 hw2
    have HQ2 := Lib.hid hq2
    have HW2 := Lib.hid hw2
    have HG2 : Hid ((rl.length : Int) ≤ 1000) := Lib.hid (by have : rl.length ≤ 32 := hq2.l; omega)
    obtain ⟨V, hV⟩ : ∃ V, nums rl = V := ⟨_, rfl⟩
    have HV := Lib.hid (And.intro hV (show V.length ≤ 4000000000000 by rw [← hV]; have : rl.length ≤ 32 := hq2.l; simp [nums]; omega))
    clear h1 hr hq2 hw2 hV
    go_wp2_with (first | (refine gate_ (.load 32 (.tmp 25)) rfl ?_; go_must (refine ld_A (.tmp 25) rfl rfl (range_o3 (o := o) (T := 35) (fr := (0, 0)) (HS.out.get 6 rfl)) rfl ?_)) | (refine gate_ (.load 32 (.tmp 35)) rfl ?_; go_must (refine ld_A (.tmp 35) rfl rfl (range_o3 (o := o) (T := 35) (fr := (0, 0)) (HS.out.get 6 rfl)) rfl ?_)) | (go_at_call 9; refine (c_bindK HS.out 0 rfl HG.out.1 (by have := HG.out.2.1; omega) (by have := HG.out.2.2.1; omega) o.a o.n HR.out).mono ?_; rintro e w1 ⟨v1, rfl, hs⟩; replace c2 := cell_o2 (hs.get 6 rfl); replace HS := Lib.hid hs; clear hs) | (go_at_call 25; refine (d_bindK HS.out 1 rfl HW.out (by have := HG.out.2.1; omega) HG.out.2.2.1 o.a HO.out o.n HR.out).mono ?_; rintro e w1 ⟨u1, rfl, hs⟩; replace HS := Lib.hid hs; clear hs) | (go_at_call 12; refine (c_allK' HS.out 0 rfl HG2.out HV.out.1).mono ?_; rintro e w1 ⟨A1, d1, rfl, hs⟩; replace HS := Lib.hid hs; clear hs) | (go_at_call 29; refine (d_allK HS.out 1 rfl HG2.out HV.out.1).mono ?_; rintro e w1 ⟨A2, d2, rfl, hs⟩; replace HS := Lib.hid hs; clear hs) | (go_at_call 13; refine (c_same HS.out 7 8 rfl rfl HV.out.2).mono ?_; rintro e w1 ⟨rfl, hs⟩; replace HS := Lib.hid hs; clear hs))
    go_ret
    exact ⟨_, _, _, _, by simp, Lib.hid (HS.out.pick [0, 1, 2, 3, 4, 5] (by decide)), HQ2, HW2⟩
  · have b1 : (o.k == 1) = false := by simpa using h1
    by_cases h2 : o.k = 2
    · have b2 : (o.k == 2) = true := by simpa using h2
      have HQ2 := Lib.hid (HQ.out.up (Nat.le_succ kk))
      have HW2 := HW
      obtain ⟨f, hf⟩ : ∃ f, findP l o.a o.n = f := ⟨_, rfl⟩
      have HF := Lib.hid hf
      have HG2 : Hid ((l.length : Int) ≤ 1000) := Lib.hid (by have : l.length ≤ 32 := HQ2.out.l; omega)
      obtain ⟨V, hV⟩ : ∃ V, nums l = V := ⟨_, rfl⟩
      have HV := Lib.hid (And.intro hV (show V.length ≤ 4000000000000 by rw [← hV]; have : l.length ≤ 32 := HQ2.out.l; simp [nums]; omega))
      clear hV
      clear h1 h2 hf
      have hLD : ∀ W : World, W.rangeAt w.heap.size 3 (aL o.a) → (loadVar 32 ⟨w.heap.size, 3, none⟩).run Try.prog W = .ok (.agg (aV o.a)) W := fun W h => lvA h
      go_wp2_with fail
      go_region_held3 (fun W => W.cell? ⟨w.heap.size, 2, none⟩ = some (.int .i64 o.n) ∧ W.rangeAt w.heap.size 3 (aL o.a)) (first | exact ⟨cell_o2 (o := o) (T := 35) (fr := (0, 0)) (HS.out.get 6 rfl), range_o3 (o := o) (T := 35) (fr := (0, 0)) (HS.out.get 6 rfl)⟩ | exact ⟨cell_o2 (o := o) (T := 35) (fr := (0, 0)) (HS1.out.get 6 rfl), range_o3 (o := o) (T := 35) (fr := (0, 0)) (HS1.out.get 6 rfl)⟩ | exact ⟨cell_o2 (o := o) (T := 35) (fr := (0, 0)) (HS2.out.get 6 rfl), range_o3 (o := o) (T := 35) (fr := (0, 0)) (HS2.out.get 6 rfl)⟩) (first | (go_at_call 18; refine (c_findK HS1.out 0 rfl o.a o.n HF.out).mono ?_; rintro e w1 ⟨rfl, hs⟩; have HS2 := Lib.hid hs; clear hs) | (go_at_call 18; refine (c_findK HS.out.drew 0 rfl o.a o.n HF.out).mono ?_; rintro e w1 ⟨rfl, hs⟩; have HS1 := Lib.hid hs; clear hs) | (go_at_call 26; refine (d_findK HS1.out 1 rfl HG.out.2.2.2 HW.out o.a o.n HF.out).mono ?_; rintro e w1 ⟨rfl, hs⟩; have HS2 := Lib.hid hs; clear hs) | (go_at_call 26; refine (d_findK HS.out.drew 1 rfl HG.out.2.2.2 HW.out o.a o.n HF.out).mono ?_; rintro e w1 ⟨rfl, hs⟩; have HS1 := Lib.hid hs; clear hs))
      all_goals replace HS := HS2
      all_goals go_wp2_with (first | (go_at_call 12; refine (c_allK' HS.out 0 rfl HG2.out HV.out.1).mono ?_; rintro e w1 ⟨A1, d1, rfl, hs⟩; replace HS := Lib.hid hs; clear hs) | (go_at_call 29; refine (d_allK HS.out 1 rfl HG2.out HV.out.1).mono ?_; rintro e w1 ⟨A2, d2, rfl, hs⟩; replace HS := Lib.hid hs; clear hs) | (go_at_call 13; refine (c_same HS.out 7 8 rfl rfl HV.out.2).mono ?_; rintro e w1 ⟨rfl, hs⟩; replace HS := Lib.hid hs; clear hs))
      all_goals go_ret
      all_goals exact ⟨_, _, _, _, by simp, Lib.hid (HS.out.pick [0, 1, 2, 3, 4, 5] (by decide)), HQ2, HW2⟩
    have b2 : (o.k == 2) = false := by simpa using h2
    by_cases h3 : o.k = 3
    · have b3 : (o.k == 3) = true := by simpa using h3
      have HQ2 := Lib.hid (HQ.out.up (Nat.le_succ kk))
      have HW2 := HW
      obtain ⟨⟨ra, rp, re⟩, hr⟩ : ∃ r, atB l o.n = r := ⟨_, rfl⟩
      have HR := Lib.hid hr
      have HG2 : Hid ((l.length : Int) ≤ 1000) := Lib.hid (by have : l.length ≤ 32 := HQ2.out.l; omega)
      obtain ⟨V, hV⟩ : ∃ V, nums l = V := ⟨_, rfl⟩
      have HV := Lib.hid (And.intro hV (show V.length ≤ 4000000000000 by rw [← hV]; have : l.length ≤ 32 := HQ2.out.l; simp [nums]; omega))
      clear hV
      clear h1 h2 h3 hr
      go_wp2_with (first | (go_at_call 19; refine (c_atK HS.out 0 rfl o.n HR.out).mono ?_; rintro e w1 ⟨rfl, hs⟩; replace HS := Lib.hid hs; clear hs) | (go_at_call 27; refine (d_atK HS.out 1 rfl HG.out.2.2.2 o.n HR.out).mono ?_; rintro e w1 ⟨rfl, hs⟩; replace HS := Lib.hid hs; clear hs) | (refine gate_ (.store 32 (.tmp 13) (.tmp 78)) rfl ?_; go_must (refine st_A (.tmp 13) (.tmp 78) rfl rfl rfl rfl rfl ?_); replace HS := Lib.hid (HS.out.box (aV ra) 32); replace c2 := cell_o2 (HS.out.get 6 rfl)) | (refine gate_ (.store 32 (.tmp 16) (.tmp 86)) rfl ?_; go_must (refine st_A (.tmp 16) (.tmp 86) rfl rfl rfl rfl rfl ?_); replace HS := Lib.hid (HS.out.box (aV ra) 32)) | (refine gate_ (.load 32 (.tmp 13)) rfl ?_; go_must (refine ld_A (.tmp 13) rfl rfl (range_A (y := ra) (T := 32) (fr := (0, 0)) (HS.out.get 7 rfl)) rfl ?_)) | (refine gate_ (.load 32 (.tmp 16)) rfl ?_; go_must (refine ld_A (.tmp 16) rfl rfl (range_A (y := ra) (T := 32) (fr := (0, 0)) (HS.out.get 8 rfl)) rfl ?_)) | (go_at_call 12; refine (c_allK' HS.out 0 rfl HG2.out HV.out.1).mono ?_; rintro e w1 ⟨A1, d1, rfl, hs⟩; replace HS := Lib.hid hs; clear hs) | (go_at_call 29; refine (d_allK HS.out 1 rfl HG2.out HV.out.1).mono ?_; rintro e w1 ⟨A2, d2, rfl, hs⟩; replace HS := Lib.hid hs; clear hs) | (go_at_call 13; refine (c_same HS.out 9 10 rfl rfl HV.out.2).mono ?_; rintro e w1 ⟨rfl, hs⟩; replace HS := Lib.hid hs; clear hs))
      go_ret
      exact ⟨_, _, _, _, by simp, Lib.hid (HS.out.pick [0, 1, 2, 3, 4, 5] (by decide)), HQ2, HW2⟩
    have b3 : (o.k == 3) = false := by simpa using h3
    by_cases h4 : o.k = 4
    · have b4 : (o.k == 4) = true := by simpa using h4
      obtain ⟨L2, hL2⟩ : ∃ L2, closeL l o.n = L2 := ⟨_, rfl⟩
      obtain ⟨E2, hE2⟩ : ∃ E2, closeE l o.n = E2 := ⟨_, rfl⟩
      have hq2 := (HQ.out.close o.n).up (Nat.le_succ kk)
      have hw2 := HW.out.close o.n
      rw [hL2] at hq2 hw2
      have HQ2 := Lib.hid hq2
      have HW2 := Lib.hid hw2
      have HR := Lib.hid (And.intro hE2 hL2)
      have HG2 : Hid ((L2.length : Int) ≤ 1000) := Lib.hid (by have : L2.length ≤ 32 := HQ2.out.l; omega)
      obtain ⟨V, hV⟩ : ∃ V, nums L2 = V := ⟨_, rfl⟩
      have HV := Lib.hid (And.intro hV (show V.length ≤ 4000000000000 by rw [← hV]; have : L2.length ≤ 32 := HQ2.out.l; simp [nums]; omega))
      clear hV
      clear h1 h2 h3 h4 hL2 hE2 hq2 hw2
      go_wp2_with fail
      go_region_held3 (fun W => W.cell? ⟨w.heap.size, 2, none⟩ = some (.int .i64 o.n) ∧ W.rangeAt w.heap.size 3 (aL o.a)) (first | exact ⟨cell_o2 (o := o) (T := 35) (fr := (0, 0)) (HS.out.get 6 rfl), range_o3 (o := o) (T := 35) (fr := (0, 0)) (HS.out.get 6 rfl)⟩ | exact ⟨cell_o2 (o := o) (T := 35) (fr := (0, 0)) (HS1.out.get 6 rfl), range_o3 (o := o) (T := 35) (fr := (0, 0)) (HS1.out.get 6 rfl)⟩ | exact ⟨cell_o2 (o := o) (T := 35) (fr := (0, 0)) (HS2.out.get 6 rfl), range_o3 (o := o) (T := 35) (fr := (0, 0)) (HS2.out.get 6 rfl)⟩) (first | (go_at_call 11; refine (c_closeK HS1.out 0 rfl o.n HR.out.1 HR.out.2).mono ?_; rintro e w1 ⟨v1, rfl, hs⟩; have HS2 := Lib.hid hs; clear hs) | (go_at_call 11; refine (c_closeK HS.out.drew 0 rfl o.n HR.out.1 HR.out.2).mono ?_; rintro e w1 ⟨v1, rfl, hs⟩; have HS1 := Lib.hid hs; clear hs) | (go_at_call 28; refine (d_closeK HS1.out 1 rfl HG.out.2.2.2 o.n HR.out.1 HR.out.2).mono ?_; rintro e w1 ⟨u1, rfl, hs⟩; have HS2 := Lib.hid hs; clear hs) | (go_at_call 28; refine (d_closeK HS.out.drew 1 rfl HG.out.2.2.2 o.n HR.out.1 HR.out.2).mono ?_; rintro e w1 ⟨u1, rfl, hs⟩; have HS1 := Lib.hid hs; clear hs))
      all_goals replace HS := HS2
      all_goals go_wp2_with (first | (go_at_call 12; refine (c_allK' HS.out 0 rfl HG2.out HV.out.1).mono ?_; rintro e w1 ⟨A1, d1, rfl, hs⟩; replace HS := Lib.hid hs; clear hs) | (go_at_call 29; refine (d_allK HS.out 1 rfl HG2.out HV.out.1).mono ?_; rintro e w1 ⟨A2, d2, rfl, hs⟩; replace HS := Lib.hid hs; clear hs) | (go_at_call 13; refine (c_same HS.out 7 8 rfl rfl HV.out.2).mono ?_; rintro e w1 ⟨rfl, hs⟩; replace HS := Lib.hid hs; clear hs))
      all_goals go_ret
      all_goals exact ⟨_, _, _, _, by simp, Lib.hid (HS.out.pick [0, 1, 2, 3, 4, 5] (by decide)), HQ2, HW2⟩
    have b4 : (o.k == 4) = false := by simpa using h4
    have HQ2 := Lib.hid (HQ.out.up (Nat.le_succ kk))
    have HW2 := HW
    have HG2 : Hid ((l.length : Int) ≤ 1000) := Lib.hid (by have : l.length ≤ 32 := HQ2.out.l; omega)
    obtain ⟨V, hV⟩ : ∃ V, nums l = V := ⟨_, rfl⟩
    have HV := Lib.hid (And.intro hV (show V.length ≤ 4000000000000 by rw [← hV]; have : l.length ≤ 32 := HQ2.out.l; simp [nums]; omega))
    clear hV
    clear h1 h2 h3 h4
    go_wp2_with (first | (go_at_call 12; refine (c_allK' HS.out 0 rfl HG2.out HV.out.1).mono ?_; rintro e w1 ⟨A1, d1, rfl, hs⟩; replace HS := Lib.hid hs; clear hs) | (go_at_call 29; refine (d_allK HS.out 1 rfl HG2.out HV.out.1).mono ?_; rintro e w1 ⟨A2, d2, rfl, hs⟩; replace HS := Lib.hid hs; clear hs) | (go_at_call 13; refine (c_same HS.out 7 8 rfl rfl HV.out.2).mono ?_; rintro e w1 ⟨rfl, hs⟩; replace HS := Lib.hid hs; clear hs))
    go_ret
    exact ⟨_, _, _, _, by simp, Lib.hid (HS.out.pick [0, 1, 2, 3, 4, 5] (by decide)), HQ2, HW2⟩
end Go.Proofs.Ytgcafklieblldaa.SL
