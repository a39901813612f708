/- The walk of the statement PortsWhose. No condition but sizes. -/
import Derived.Test.YtgcafklieblldaaW2
import Derived.Test.YtgcafklieblldaaBI
import Derived.Deep.CutBlock
import Derived.Deep.DeepCutAuto
namespace Go.Proofs.Ytgcafklieblldaa.SL
open Go.RowKit Go.Proofs.YtgcafklieblldaaW.PrintWords Go.Proofs.YtgcafklieblldaaW.PrintLast Go.Proofs.YtgcafklieblldaaW.PrintMore
theorem infoK : (Try.prog.info? 53).map (fun i => (i.zero, i.size, i.bytes)) = some (some (.agg (bV zB)), kB.sz, 40) := by kernel_rfl
theorem infK : ∃ i, Try.prog.info? 53 = some i ∧ i.size = kB.sz := by
  obtain ⟨i, h1, h2⟩ := Option.map_eq_some_iff.1 infoK
  exact ⟨i, h1, by injection h2 with _ h3; injection h3⟩
theorem built_bk (n : Int) (a : Ad) (port : Int) : Try.prog.built 53 [(0, .int .i64 n), (1, .agg (aV a)), (2, .int .i64 port)] = some (bV ⟨n, ⟨a, port⟩⟩) := by
  obtain ⟨v, b, hb⟩ := a
  obtain ⟨b0, b1, b2, b3, b4, b5, b6, b7, b8, b9, b10, b11, b12, b13, b14, b15, rfl⟩ := list16 b hb
  kernel_rfl
theorem zero_K (w : World) : (zeroValue 53).run Try.prog w = .ok (.agg (bV zB)) w := by
  obtain ⟨i, h1, h2⟩ := Option.map_eq_some_iff.1 infoK
  have h3 : i.zero = some (.agg (bV zB)) := by injection h2
  simp [zeroValue, typeInfo, h1, h3]
theorem bls_K (w : World) (x : Bd) : (Instr.buildSlice 49 1 #[(0, .agg (bV x))]).run Try.prog w = .ok (.slice (some ⟨w.heap.size, 0, none⟩) 1 1) (w.alloc (.cells (bV x) 53)) := by
  obtain ⟨i, hi, hs⟩ := infK
  replace hs : i.size = 19 := hs
  have h := fill_B x
  have hz := zero_K w
  have hzs := bV_size zB
  generalize bV zB = Z at h hz hzs
  rw [hzs] at h
  simp only [Nat.one_mul] at h
  simp only [Instr.buildSlice, Sem.run_bind, run_underlying Try.underlying49, Result.andThen_ok, show (sizeOf 53).run Try.prog w = .ok 19 w by simp [sizeOf, typeInfo, hi, hs], Nat.one_mul, if_neg (show ¬ 19 > 2 ^ 24 by decide), if_neg (show ¬ 19 = 0 by decide), hz, Sem.run_pure, Value.cells, hzs, h]
  simp [newRow]
theorem erase_room {T : TypeId} {gr cap k : Nat} {l : List Bd} {w : World} (h : kB.R T w 0 (fun _ => True) (.slice (some ⟨gr, 0, none⟩) l.length cap) l) (hk : k < l.length) :
    ∃ (cur : Array Value) (news : List Value) (A : Addr), w.heap[gr]? = some (.cells cur T (0, 0)) ∧ (if cap = k + 1 then some (⟨gr, 0, none⟩ : Addr) else (some (⟨gr, 0, none⟩ : Addr)).map (·.add ((k + 1) * kB.sz))) = some A ∧ news.length = (l.length - (k + 1)) * 19 ∧ (∀ t u, news[t]? = some u → w.cell? (A.add t) = some u) ∧ (∀ u ∈ news, u.oneCell' = true) ∧ k * 19 + news.length ≤ cur.size ∧ l.length ≤ cap ∧
      ∀ w' : World, w'.heap[gr]? = some (.cells (cur.toList.take (k * 19) ++ news ++ cur.toList.drop (k * 19 + news.length)).toArray T (0, 0)) → kB.R T w' 0 (fun _ => True) (.slice (some ⟨gr, 0, none⟩) (k + (l.length - (k + 1))) cap) (l.eraseIdx k) := by
  obtain ⟨_, inner, hown, hreps⟩ := h
  rcases hown.2 with ⟨_, h0⟩ | ⟨g', cap', cur, e, _, hg, hnc, hcm, hcs, htake⟩
  · omega
  injection e with e1 _ e3
  injection e1 with e1
  injection e1 with e1
  subst e1 e3
  have hlen : inner.length = l.length * 19 := hown.1
  have hcs19 : cur.size = cap * 19 := hcs
  replace htake : cur.toList.take (l.length * 19) = inner := htake
  have hnl : (inner.drop ((k + 1) * 19)).length = (l.length - (k + 1)) * 19 := by rw [List.length_drop, hlen]; omega
  obtain ⟨A, hA, hsrc⟩ : ∃ A : Addr, (if cap = k + 1 then some (⟨gr, 0, none⟩ : Addr) else (some (⟨gr, 0, none⟩ : Addr)).map (·.add ((k + 1) * kB.sz))) = some A ∧ (∀ t u, (inner.drop ((k + 1) * 19))[t]? = some u → w.cell? (A.add t) = some u) := by
    by_cases hc : cap = k + 1
    · refine ⟨⟨gr, 0, none⟩, if_pos hc, fun t u hu => ?_⟩
      rw [List.drop_eq_nil_of_le (by rw [hlen]; omega)] at hu
      simp at hu
    · refine ⟨(⟨gr, 0, none⟩ : Addr).add ((k + 1) * 19), by rw [if_neg hc]; rfl, fun t u hu => ?_⟩
      rw [Addr.add_mid, Addr.add_mid, cell_of_row _ _ _ _ _ _ hg, Nat.zero_add]
      rw [List.getElem?_drop, ← htake, List.getElem?_take] at hu
      split at hu
      · rw [← Array.getElem?_toList]; exact hu
      · cases hu
  have hcl : cur.toList.length = cap * 19 := by rw [Array.length_toList]; exact hcs19
  have hk1 : cur.toList.take (k * 19) = inner.take (k * 19) := by
    rw [← htake, List.take_take]
    congr 1
    omega
  have hin1 : (inner.take (k * 19)).length = k * 19 := by rw [List.length_take, hlen]; omega
  have hel : (l.eraseIdx k).length = k + (l.length - (k + 1)) := by rw [List.length_eraseIdx, if_pos hk]; omega
  refine ⟨cur, inner.drop ((k + 1) * 19), A, hg, hA, hnl, hsrc, fun u hu => hreps_one kB hreps u (List.mem_of_mem_drop hu), by rw [hnl, hcs19]; omega, hnc, fun w' hw' => ?_⟩
  refine ⟨fun _ _ => trivial, inner.take (k * 19) ++ inner.drop ((k + 1) * 19), ⟨?_, .inr ⟨gr, cap, _, by rw [hel], Nat.zero_le _, hw', by rw [hel]; omega, hcm, ?_, ?_⟩⟩, (Reps.erase hreps hk).imp_ fun x c hm => hm⟩
  · rw [List.length_append, hin1, hnl, hel]
    show k * 19 + (l.length - (k + 1)) * 19 = (k + (l.length - (k + 1))) * 19
    omega
  · show (List.toArray _).size = cap * 19
    simp only [List.size_toArray, List.length_append, List.length_take, List.length_drop, Array.length_toList, hcs19, hlen]
    omega
  · show List.take ((l.eraseIdx k).length * 19) (List.toArray _).toList = _
    rw [hel, hk1]
    show List.take _ (_ ++ _ ++ _) = _
    rw [List.take_left' (by rw [List.length_append, hin1, hnl]; omega)]
theorem find_nn {l : List Bd} {g : Int} (h : WF l g) (x : Pl) : 0 ≤ findB l x := by
  rcases Int.lt_or_le (jx l x) 0 with hq | hq
  · have := (jx_neg hq).2; omega
  · have := (jx_find h x).1 hq; omega
section
variable {w0 w : World} {Γ : List Ob} {p : Nat} {v : Value} {most g : Int} {l : List Bd}
theorem c_justK (h : St w0 w Γ) (i : Nat) {A : Option Addr} {c : Nat} (hi : Γ[i]? = some (obK (.slice A l.length c) l)) (hl : (l.length : Int) ≤ 1000) (a : Ad) (port : Int) {f : Int} (hf : findB l ⟨a, port⟩ = f) :
    Calls Try.prog 17 #[.slice A l.length c, .agg (aV a), .int .i64 port] w fun e w' => e = .returned (.int .i64 f) ∧ St w0 w' Γ := by
  subst hf
  exact (justB_calls A c l a port w (h.get i hi) hl).mono fun _ _ ⟨he, hb⟩ => ⟨he, h.below hb⟩
theorem c_kindK (h : St w0 w Γ) (a : Ad) {f : Int} (hf : kindA a = f) : Calls Try.prog 16 #[.agg (aV a)] w fun e w' => e = .returned (.int .i64 f) ∧ St w0 w' Γ := by
  subst hf
  exact c_kind h a
/-- The book's element. -/
theorem bookAt (h : St w0 w Γ) (i : Nat) {A : Option Addr} {c : Nat} (hi : Γ[i]? = some (obK (.slice A l.length c) l)) (k : Nat) (x : Bd) (hk : l[k]? = some x) : ∃ gr, A = some ⟨gr, 0, none⟩ ∧ w.rangeAt gr (k * 19) (bL x) := by
  obtain ⟨gr, c', hv, hra, _⟩ := RK_at (h.get i hi) k x hk
  injection hv with hA
  exact ⟨gr, hA, hra⟩
theorem allOf (h : St w0 w Γ) (i : Nat) (hi : Γ[i]? = some (obT p v most g l)) (hl : (l.length : Int) ≤ 1000) :
    Calls Try.prog 12 #[.pointer (some ⟨p, 0, none⟩)] w fun e w' => ∃ A c, e = .returned (.slice A l.length c) ∧ St w0 w' (Γ ++ [obI (.slice A l.length c) (nums l)]) := c_all h i hi (by omega)
end
attribute [-go_sem] loadVar Instr.buildSlice
attribute [local go_sem] lv3 bls_K
attribute [local go_sem high] neq_ad
set_option maxHeartbeats 100000000 in
set_option maxRecDepth 100000 in
theorem whose_law (size : Int) (A : Option Addr) (c : Nat) (s : List OpT) (w : World) (h0 : kO.C w A s.length s) (hsz : s.length ≤ 3000000000000) :
    Calls Try.prog 5 #[.int .i64 size, .slice A s.length c] w fun e w' => e = .returned (.bool true) ∧ Below w.heap.size w w' := by
  have HA : Hid (∀ k, k < s.length → ∃ ad, A = some ad ∧ OpR w ad k (s.getD k zO)) := Lib.hid fun k hk => op_r h0 k hk
  have HS : Hid (St w w []) := Lib.hid (St.nil w)
  have hbig : s.length ≤ 9223372036854775807 := by omega
  have HZ := Lib.hid hsz
  obtain ⟨m, hm, hm31, hmw⟩ := size32 size
  have HM := Lib.hid hm31
  clear hsz h0 hm31
  go_enter Try.func5, Try.ntmps5
  go_wp2_with (first | (go_at_call 7; refine (alive_calls _).mono ?_; rintro e w1 ⟨rfl, hs⟩; replace HS := Lib.hid (HS.out.below hs); clear hs) | (go_at_call 8; refine (c_new HS.out (1 + (m : Int)) (by omega) (by have := HM.out; omega)).mono ?_; rintro e w1 ⟨p, rfl, hs⟩; replace HS := Lib.hid hs; clear hs))
  replace HS : Hid (St w w1 [obT p (.slice none 0 0) (1 + (m : Int)) 0 [], obK (.slice none 0 0) []]) := Lib.hid (HS.out.newW flB)
  have HQ : Hid (Sz (1 + (m : Int)) 0 [] (0 + 1)) := Lib.hid (Sz.mk (by have := HM.out; omega) (by decide) (by decide) (by decide))
  have HW : Hid (WF [] 0) := Lib.hid ⟨by decide, fun x hx => by cases hx⟩
  have HR : Hid (Srt []) := Lib.hid List.Pairwise.nil
  clear hm hmw
  go_loopw [8, 9, 10, 11, 12, 13, 14, 15, 16, 17, 18, 19, 20] (fun bk la i _ _ _ _ _ _ _ _ _ _ wr => ∃ (k : Nat) (v : Value) (A1 : Option Addr) (c1 : Nat) (g : Int) (l : List Bd), k ≤ s.length ∧ bk = .slice A1 l.length c1 ∧ la = .int .i64 g ∧ i = .int .i64 k ∧ Hid (Sz (1 + (m : Int)) g l (k + 1)) ∧ Hid (WF l g) ∧ Hid (Srt l) ∧ Hid (St w wr [obT p v (1 + (m : Int)) g l, obK (.slice A1 l.length c1) l])) (fun _ _ i _ _ _ _ _ _ _ _ _ _ _ => s.length - (intOf i).toNat)
  case atStart => exact ⟨0, _, _, _, _, [], Nat.zero_le _, rfl, rfl, rfl, HQ, HW, HR, HS⟩
  case round =>
    clear HS HQ HW HR
    obtain ⟨k, v, A1, c1, g, l, hk, rfl, rfl, rfl, HQ, HW, HR, HS⟩ := hrel
    by_cases hlt : k < s.length
    · have hltz : (k : Int) < (s.length : Int) := by omega
      obtain ⟨ad, rfl, hop⟩ := HA.out k hlt
      have hop2 := hop.below HS.out.bl
      clear hop
      generalize s.getD k zO = x at hop2
      have hLD : ∀ W : World, OpR W ad k x → (loadVar 35 (ad.add (k * 20))).run Try.prog W = .ok (.agg (oV x)) W := fun W h => lvO h
      have hs0 := HS.out.box (oV x) 35
      have c3 : (wr.alloc (.cells (oV x) 35)).cell? ⟨wr.heap.size, 3, none⟩ = some (.int .i64 x.a.v) := by rw [blk_cell (hs0.get 2 rfl) 3]; rfl
      have hs1 := hs0.box (aV (zA x.a.v)) 32
      have e1 : ∀ (W : World) (o : Obj), (W.alloc o).heap.size = W.heap.size + 1 := fun W o => by simp
      rw [e1] at hs1
      have c0 := cell_o0 (hs1.get 2 rfl)
      have c2 := cell_o2 (hs1.get 2 rfl)
      replace HS := Lib.hid hs1
      have E1 := Lib.hid e1
      clear hs0 hs1 e1
      go_upto_block 2 with (first | ((with_reducible refine gate_ (.store 35 (.tmp 11) (.tmp 54)) rfl ?_); go_must (refine st_O (.tmp 11) (.tmp 54) rfl rfl rfl rfl rfl ?_)) | ((with_reducible refine gate_ (.build 32 #[(0, .tmp 57)]) rfl ?_); go_must (refine wpList_buildA rfl 32 #[(0, .tmp 57)] rfl [(0, .int .i64 x.a.v)] rfl (built_z x.a.v) ?_)) | ((with_reducible refine gate_ (.store 32 (.tmp 12) (.tmp 58)) rfl ?_); go_must (refine st_A (.tmp 12) (.tmp 58) rfl rfl (by rw [E1.out]; rfl) rfl rfl ?_)))
      clear hLD c3 E1 hop2
      generalize wr.heap.size = bO at HS c0 c2 ⊢
      go_cut [8, 9, 13, 14, 15, 16, 17, 18, 19] (fun bk la _ _ _ _ _ _ _ wx => ∃ (v2 : Value) (A2 : Option Addr) (c2 : Nat) (g2 : Int) (l2 : List Bd), bk = .slice A2 l2.length c2 ∧ la = .int .i64 g2 ∧ Hid (Sz (1 + (m : Int)) g2 l2 (k + 1 + 1)) ∧ Hid (WF l2 g2) ∧ Hid (Srt l2) ∧ Hid (St w wx [obT p v2 (1 + (m : Int)) g2 l2, obK (.slice A2 l2.length c2) l2, obB bO (oV x) 35, obB (bO + 1) (aV (zA x.a.v)) 32]))
      case first =>
        by_cases hk1 : x.k = 1
        · have b1 : (x.k == 1) = true := by simpa using hk1
          have HG : Hid (0 ≤ g ∧ g < 3900000000000000000 ∧ l.length ≤ 32 ∧ (l.length : Int) ≤ 1000) := Lib.hid ⟨HQ.out.g0, by have := HQ.out.g1; have := HZ.out; omega, HQ.out.l, by have := HQ.out.l; omega⟩
          obtain ⟨kd, hkd⟩ : ∃ kd, kindA x.a = kd := ⟨_, rfl⟩
          have HK := Lib.hid hkd
          clear hkd hk1
          by_cases hbad : ¬ (kd = 1 ∨ kd = 5) ∨ x.n < 0 ∨ 65535 < x.n
          · have HB := Lib.hid (bS1 (most := 1 + (m : Int)) (g := g) (l := l) (a := x.a) (port := x.n) (by rw [HK.out]; exact hbad))
            have HQ2 := Lib.hid (HQ.out.up (Nat.le_succ (k + 1)))
            by_cases hkk : kd = 1 ∨ kd = 5
            · by_cases hn : x.n < 0
              · have k2 : decide (x.n < 0) = true := by simpa using hn
                clear hbad hn
                rcases hkk with hq | hq
                · have k1 : (kd == 1) = true := by simpa using hq
                  as_aux_lemma =>
                    go_wp2_with (first | ((with_reducible refine gate_ (.load 32 (.tmp 65)) rfl ?_); go_must (refine ld_A (.tmp 65) rfl rfl (range_o3 (o := x) (T := 35) (fr := (0, 0)) (HS.out.get 2 rfl)) rfl ?_)) | ((with_reducible refine gate_ (.load 32 (.tmp 73)) rfl ?_); go_must (refine ld_A (.tmp 73) rfl rfl (range_o3 (o := x) (T := 35) (fr := (0, 0)) (HS.out.get 2 rfl)) rfl ?_)) | ((with_reducible refine gate_ (.load 32 (.tmp 173)) rfl ?_); refine wpList_guarded (by rfl) ?_; go_must (refine ld_A (.tmp 173) rfl rfl (range_o3 (o := x) (T := 35) (fr := (0, 0)) (HS.out.get 2 rfl)) rfl ?_)) | ((with_reducible refine gate_ (.load 32 (.tmp 109)) rfl ?_); refine wpList_guarded (by rfl) ?_; go_must (refine ld_A (.tmp 109) rfl rfl (range_o3 (o := x) (T := 35) (fr := (0, 0)) (HS.out.get 2 rfl)) rfl ?_)) | (go_at_call 9; refine (c_bindK HS.out 0 rfl HG.out.1 (by have := HG.out.2.1; omega) (by have := HG.out.2.2.1; omega) x.a x.n HB.out).mono ?_; rintro e w1 ⟨v1, rfl, hs⟩; replace c2 := cell_o2 (hs.get 2 rfl); replace HS := Lib.hid hs; clear hs) | (go_at_call 16; refine (c_kindK HS.out x.a HK.out).mono ?_; rintro e w1 ⟨rfl, hs⟩; replace c2 := cell_o2 (hs.get 2 rfl); replace HS := Lib.hid hs; clear hs) | (go_at_call 17; refine (c_justK HS.out 1 rfl HG.out.2.2.2 x.a _ H1.out).mono ?_; rintro e w1 ⟨rfl, hs⟩; replace c2 := cell_o2 (hs.get 2 rfl); replace HS := Lib.hid hs; clear hs))
                    go_meet
                    case rel => exact ⟨v1, A1, c1, g, l, rfl, rfl, HQ2, HW, HR, HS⟩
                · have k1 : (kd == 1) = false := by simp; omega
                  have k0 : (kd == 5) = true := by simpa using hq
                  as_aux_lemma =>
                    go_wp2_with (first | ((with_reducible refine gate_ (.load 32 (.tmp 65)) rfl ?_); go_must (refine ld_A (.tmp 65) rfl rfl (range_o3 (o := x) (T := 35) (fr := (0, 0)) (HS.out.get 2 rfl)) rfl ?_)) | ((with_reducible refine gate_ (.load 32 (.tmp 73)) rfl ?_); go_must (refine ld_A (.tmp 73) rfl rfl (range_o3 (o := x) (T := 35) (fr := (0, 0)) (HS.out.get 2 rfl)) rfl ?_)) | ((with_reducible refine gate_ (.load 32 (.tmp 173)) rfl ?_); refine wpList_guarded (by rfl) ?_; go_must (refine ld_A (.tmp 173) rfl rfl (range_o3 (o := x) (T := 35) (fr := (0, 0)) (HS.out.get 2 rfl)) rfl ?_)) | ((with_reducible refine gate_ (.load 32 (.tmp 109)) rfl ?_); refine wpList_guarded (by rfl) ?_; go_must (refine ld_A (.tmp 109) rfl rfl (range_o3 (o := x) (T := 35) (fr := (0, 0)) (HS.out.get 2 rfl)) rfl ?_)) | (go_at_call 9; refine (c_bindK HS.out 0 rfl HG.out.1 (by have := HG.out.2.1; omega) (by have := HG.out.2.2.1; omega) x.a x.n HB.out).mono ?_; rintro e w1 ⟨v1, rfl, hs⟩; replace c2 := cell_o2 (hs.get 2 rfl); replace HS := Lib.hid hs; clear hs) | (go_at_call 16; refine (c_kindK HS.out x.a HK.out).mono ?_; rintro e w1 ⟨rfl, hs⟩; replace c2 := cell_o2 (hs.get 2 rfl); replace HS := Lib.hid hs; clear hs) | (go_at_call 17; refine (c_justK HS.out 1 rfl HG.out.2.2.2 x.a _ H1.out).mono ?_; rintro e w1 ⟨rfl, hs⟩; replace c2 := cell_o2 (hs.get 2 rfl); replace HS := Lib.hid hs; clear hs))
                    go_meet
                    case rel => exact ⟨v1, A1, c1, g, l, rfl, rfl, HQ2, HW, HR, HS⟩
              · have k2 : decide (x.n < 0) = false := by simp; omega
                have k3 : decide (x.n > 65535) = true := by simp; omega
                clear hbad hn
                rcases hkk with hq | hq
                · have k1 : (kd == 1) = true := by simpa using hq
                  as_aux_lemma =>
                    go_wp2_with (first | ((with_reducible refine gate_ (.load 32 (.tmp 65)) rfl ?_); go_must (refine ld_A (.tmp 65) rfl rfl (range_o3 (o := x) (T := 35) (fr := (0, 0)) (HS.out.get 2 rfl)) rfl ?_)) | ((with_reducible refine gate_ (.load 32 (.tmp 73)) rfl ?_); go_must (refine ld_A (.tmp 73) rfl rfl (range_o3 (o := x) (T := 35) (fr := (0, 0)) (HS.out.get 2 rfl)) rfl ?_)) | ((with_reducible refine gate_ (.load 32 (.tmp 173)) rfl ?_); refine wpList_guarded (by rfl) ?_; go_must (refine ld_A (.tmp 173) rfl rfl (range_o3 (o := x) (T := 35) (fr := (0, 0)) (HS.out.get 2 rfl)) rfl ?_)) | ((with_reducible refine gate_ (.load 32 (.tmp 109)) rfl ?_); refine wpList_guarded (by rfl) ?_; go_must (refine ld_A (.tmp 109) rfl rfl (range_o3 (o := x) (T := 35) (fr := (0, 0)) (HS.out.get 2 rfl)) rfl ?_)) | (go_at_call 9; refine (c_bindK HS.out 0 rfl HG.out.1 (by have := HG.out.2.1; omega) (by have := HG.out.2.2.1; omega) x.a x.n HB.out).mono ?_; rintro e w1 ⟨v1, rfl, hs⟩; replace c2 := cell_o2 (hs.get 2 rfl); replace HS := Lib.hid hs; clear hs) | (go_at_call 16; refine (c_kindK HS.out x.a HK.out).mono ?_; rintro e w1 ⟨rfl, hs⟩; replace c2 := cell_o2 (hs.get 2 rfl); replace HS := Lib.hid hs; clear hs) | (go_at_call 17; refine (c_justK HS.out 1 rfl HG.out.2.2.2 x.a _ H1.out).mono ?_; rintro e w1 ⟨rfl, hs⟩; replace c2 := cell_o2 (hs.get 2 rfl); replace HS := Lib.hid hs; clear hs))
                    go_meet
                    case rel => exact ⟨v1, A1, c1, g, l, rfl, rfl, HQ2, HW, HR, HS⟩
                · have k1 : (kd == 1) = false := by simp; omega
                  have k0 : (kd == 5) = true := by simpa using hq
                  as_aux_lemma =>
                    go_wp2_with (first | ((with_reducible refine gate_ (.load 32 (.tmp 65)) rfl ?_); go_must (refine ld_A (.tmp 65) rfl rfl (range_o3 (o := x) (T := 35) (fr := (0, 0)) (HS.out.get 2 rfl)) rfl ?_)) | ((with_reducible refine gate_ (.load 32 (.tmp 73)) rfl ?_); go_must (refine ld_A (.tmp 73) rfl rfl (range_o3 (o := x) (T := 35) (fr := (0, 0)) (HS.out.get 2 rfl)) rfl ?_)) | ((with_reducible refine gate_ (.load 32 (.tmp 173)) rfl ?_); refine wpList_guarded (by rfl) ?_; go_must (refine ld_A (.tmp 173) rfl rfl (range_o3 (o := x) (T := 35) (fr := (0, 0)) (HS.out.get 2 rfl)) rfl ?_)) | ((with_reducible refine gate_ (.load 32 (.tmp 109)) rfl ?_); refine wpList_guarded (by rfl) ?_; go_must (refine ld_A (.tmp 109) rfl rfl (range_o3 (o := x) (T := 35) (fr := (0, 0)) (HS.out.get 2 rfl)) rfl ?_)) | (go_at_call 9; refine (c_bindK HS.out 0 rfl HG.out.1 (by have := HG.out.2.1; omega) (by have := HG.out.2.2.1; omega) x.a x.n HB.out).mono ?_; rintro e w1 ⟨v1, rfl, hs⟩; replace c2 := cell_o2 (hs.get 2 rfl); replace HS := Lib.hid hs; clear hs) | (go_at_call 16; refine (c_kindK HS.out x.a HK.out).mono ?_; rintro e w1 ⟨rfl, hs⟩; replace c2 := cell_o2 (hs.get 2 rfl); replace HS := Lib.hid hs; clear hs) | (go_at_call 17; refine (c_justK HS.out 1 rfl HG.out.2.2.2 x.a _ H1.out).mono ?_; rintro e w1 ⟨rfl, hs⟩; replace c2 := cell_o2 (hs.get 2 rfl); replace HS := Lib.hid hs; clear hs))
                    go_meet
                    case rel => exact ⟨v1, A1, c1, g, l, rfl, rfl, HQ2, HW, HR, HS⟩
            · have k1 : (kd == 1) = false := by simp; omega
              have k0 : (kd == 5) = false := by simp; omega
              clear hbad
              as_aux_lemma =>
                go_wp2_with (first | ((with_reducible refine gate_ (.load 32 (.tmp 65)) rfl ?_); go_must (refine ld_A (.tmp 65) rfl rfl (range_o3 (o := x) (T := 35) (fr := (0, 0)) (HS.out.get 2 rfl)) rfl ?_)) | ((with_reducible refine gate_ (.load 32 (.tmp 73)) rfl ?_); go_must (refine ld_A (.tmp 73) rfl rfl (range_o3 (o := x) (T := 35) (fr := (0, 0)) (HS.out.get 2 rfl)) rfl ?_)) | ((with_reducible refine gate_ (.load 32 (.tmp 173)) rfl ?_); refine wpList_guarded (by rfl) ?_; go_must (refine ld_A (.tmp 173) rfl rfl (range_o3 (o := x) (T := 35) (fr := (0, 0)) (HS.out.get 2 rfl)) rfl ?_)) | ((with_reducible refine gate_ (.load 32 (.tmp 109)) rfl ?_); refine wpList_guarded (by rfl) ?_; go_must (refine ld_A (.tmp 109) rfl rfl (range_o3 (o := x) (T := 35) (fr := (0, 0)) (HS.out.get 2 rfl)) rfl ?_)) | (go_at_call 9; refine (c_bindK HS.out 0 rfl HG.out.1 (by have := HG.out.2.1; omega) (by have := HG.out.2.2.1; omega) x.a x.n HB.out).mono ?_; rintro e w1 ⟨v1, rfl, hs⟩; replace c2 := cell_o2 (hs.get 2 rfl); replace HS := Lib.hid hs; clear hs) | (go_at_call 16; refine (c_kindK HS.out x.a HK.out).mono ?_; rintro e w1 ⟨rfl, hs⟩; replace c2 := cell_o2 (hs.get 2 rfl); replace HS := Lib.hid hs; clear hs) | (go_at_call 17; refine (c_justK HS.out 1 rfl HG.out.2.2.2 x.a _ H1.out).mono ?_; rintro e w1 ⟨rfl, hs⟩; replace c2 := cell_o2 (hs.get 2 rfl); replace HS := Lib.hid hs; clear hs))
                go_meet
                case rel => exact ⟨v1, A1, c1, g, l, rfl, rfl, HQ2, HW, HR, HS⟩
          have hkk : kd = 1 ∨ kd = 5 := by omega
          have hk0 : kindA x.a = 1 ∨ kindA x.a = 5 := by rw [HK.out]; exact hkk
          have hp0 : 0 ≤ x.n := by omega
          have hp1 : x.n ≤ 65535 := by omega
          have k2 : decide (x.n < 0) = false := by simp; omega
          have k3 : decide (x.n > 65535) = false := by simp; omega
          clear hbad
          obtain ⟨f1, hf1⟩ : ∃ f, findB l ⟨x.a, x.n⟩ = f := ⟨_, rfl⟩
          have hf0 : 0 ≤ f1 := by rw [← hf1]; exact find_nn HW.out _
          by_cases hz : x.n = 0
          · have k4 : decide (x.n > 0) = false := by simp; omega
            have k5 : (x.n == 0) = true := by simpa using hz
            by_cases hfull : 1 + (m : Int) ≤ (l.length : Int)
            · have k6 : decide ((l.length : Int) ≥ 1 + (m : Int)) = true := by simpa using hfull
              have HB := Lib.hid (bS3 (most := 1 + (m : Int)) (g := g) (l := l) (a := x.a) (port := x.n) hk0 hp1 hp0 (fun h => by omega) hfull)
              have HQ2 := Lib.hid (HQ.out.up (Nat.le_succ (k + 1)))
              clear hz hfull hp0 hp1 hf1 hf0 hk0
              rcases hkk with hq | hq
              · have k1 : (kd == 1) = true := by simpa using hq
                as_aux_lemma =>
                  go_wp2_with (first | ((with_reducible refine gate_ (.load 32 (.tmp 65)) rfl ?_); go_must (refine ld_A (.tmp 65) rfl rfl (range_o3 (o := x) (T := 35) (fr := (0, 0)) (HS.out.get 2 rfl)) rfl ?_)) | ((with_reducible refine gate_ (.load 32 (.tmp 73)) rfl ?_); go_must (refine ld_A (.tmp 73) rfl rfl (range_o3 (o := x) (T := 35) (fr := (0, 0)) (HS.out.get 2 rfl)) rfl ?_)) | ((with_reducible refine gate_ (.load 32 (.tmp 173)) rfl ?_); refine wpList_guarded (by rfl) ?_; go_must (refine ld_A (.tmp 173) rfl rfl (range_o3 (o := x) (T := 35) (fr := (0, 0)) (HS.out.get 2 rfl)) rfl ?_)) | ((with_reducible refine gate_ (.load 32 (.tmp 109)) rfl ?_); refine wpList_guarded (by rfl) ?_; go_must (refine ld_A (.tmp 109) rfl rfl (range_o3 (o := x) (T := 35) (fr := (0, 0)) (HS.out.get 2 rfl)) rfl ?_)) | (go_at_call 9; refine (c_bindK HS.out 0 rfl HG.out.1 (by have := HG.out.2.1; omega) (by have := HG.out.2.2.1; omega) x.a x.n HB.out).mono ?_; rintro e w1 ⟨v1, rfl, hs⟩; replace c2 := cell_o2 (hs.get 2 rfl); replace HS := Lib.hid hs; clear hs) | (go_at_call 16; refine (c_kindK HS.out x.a HK.out).mono ?_; rintro e w1 ⟨rfl, hs⟩; replace c2 := cell_o2 (hs.get 2 rfl); replace HS := Lib.hid hs; clear hs) | (go_at_call 17; refine (c_justK HS.out 1 rfl HG.out.2.2.2 x.a _ H1.out).mono ?_; rintro e w1 ⟨rfl, hs⟩; replace c2 := cell_o2 (hs.get 2 rfl); replace HS := Lib.hid hs; clear hs))
                  go_meet
                  case rel => exact ⟨v1, A1, c1, g, l, rfl, rfl, HQ2, HW, HR, HS⟩
              · have k1 : (kd == 1) = false := by simp; omega
                have k0 : (kd == 5) = true := by simpa using hq
                as_aux_lemma =>
                  go_wp2_with (first | ((with_reducible refine gate_ (.load 32 (.tmp 65)) rfl ?_); go_must (refine ld_A (.tmp 65) rfl rfl (range_o3 (o := x) (T := 35) (fr := (0, 0)) (HS.out.get 2 rfl)) rfl ?_)) | ((with_reducible refine gate_ (.load 32 (.tmp 73)) rfl ?_); go_must (refine ld_A (.tmp 73) rfl rfl (range_o3 (o := x) (T := 35) (fr := (0, 0)) (HS.out.get 2 rfl)) rfl ?_)) | ((with_reducible refine gate_ (.load 32 (.tmp 173)) rfl ?_); refine wpList_guarded (by rfl) ?_; go_must (refine ld_A (.tmp 173) rfl rfl (range_o3 (o := x) (T := 35) (fr := (0, 0)) (HS.out.get 2 rfl)) rfl ?_)) | ((with_reducible refine gate_ (.load 32 (.tmp 109)) rfl ?_); refine wpList_guarded (by rfl) ?_; go_must (refine ld_A (.tmp 109) rfl rfl (range_o3 (o := x) (T := 35) (fr := (0, 0)) (HS.out.get 2 rfl)) rfl ?_)) | (go_at_call 9; refine (c_bindK HS.out 0 rfl HG.out.1 (by have := HG.out.2.1; omega) (by have := HG.out.2.2.1; omega) x.a x.n HB.out).mono ?_; rintro e w1 ⟨v1, rfl, hs⟩; replace c2 := cell_o2 (hs.get 2 rfl); replace HS := Lib.hid hs; clear hs) | (go_at_call 16; refine (c_kindK HS.out x.a HK.out).mono ?_; rintro e w1 ⟨rfl, hs⟩; replace c2 := cell_o2 (hs.get 2 rfl); replace HS := Lib.hid hs; clear hs) | (go_at_call 17; refine (c_justK HS.out 1 rfl HG.out.2.2.2 x.a _ H1.out).mono ?_; rintro e w1 ⟨rfl, hs⟩; replace c2 := cell_o2 (hs.get 2 rfl); replace HS := Lib.hid hs; clear hs))
                  go_meet
                  case rel => exact ⟨v1, A1, c1, g, l, rfl, rfl, HQ2, HW, HR, HS⟩
            · have k6 : decide ((l.length : Int) ≥ 1 + (m : Int)) = false := by simp; omega
              obtain ⟨F, hF⟩ : ∃ F, freeB l x.a = F := ⟨_, rfl⟩
              obtain ⟨f1', f2', f3', f4'⟩ := free_in x.a HG.out.2.2.1
              rw [hF] at f1' f2' f3' f4'
              have H1 := Lib.hid f3'
              have HN := Lib.hid f4'
              have k7 : decide (F < 49152) = false := by simp; omega
              have k8 : decide (F > 65535) = false := by simp; omega
              have hbs := bS4 (most := 1 + (m : Int)) (g := g) (l := l) (a := x.a) (port := x.n) hk0 hz hfull HG.out.2.2.1
              rw [hF] at hbs
              have HBS := Lib.hid hbs
              clear hz hfull hp0 hp1 hf1 hf0 hk0 f3' f4' hbs hF
              obtain ⟨L2, hL2⟩ : ∃ L2, L2 = l ++ [(⟨g + 1, ⟨x.a, F⟩⟩ : Bd)] := ⟨_, rfl⟩
              have HL2 := Lib.hid (And.intro hL2 (show L2.length = l.length + 1 by rw [hL2]; simp))
              have hB : bindS (1 + (m : Int)) g l x.a x.n = ⟨g + 1, F, 0, g + 1, L2⟩ := by rw [HBS.out, hL2]
              have HB := Lib.hid hB
              have hq2 := HQ.out.bind x.a x.n
              have hw2 := HW.out.bind (most := 1 + (m : Int)) x.a x.n
              rw [hB] at hq2 hw2
              have HQ2 := Lib.hid hq2
              have HW2 := Lib.hid hw2
              have HR2 : Hid (Srt L2) := Lib.hid (by rw [hL2]; exact HR.out.snoc HW.out _)
              have n1 : decide (g + 1 ≤ g) = false := by simp; omega
              clear hL2 hB hq2 hw2
              rcases hkk with hq | hq
              · have k1 : (kd == 1) = true := by simpa using hq
                as_aux_lemma =>
                  go_wp2_with (first | ((with_reducible refine gate_ (.load 32 (.tmp 65)) rfl ?_); go_must (refine ld_A (.tmp 65) rfl rfl (range_o3 (o := x) (T := 35) (fr := (0, 0)) (HS.out.get 2 rfl)) rfl ?_)) | ((with_reducible refine gate_ (.load 32 (.tmp 73)) rfl ?_); go_must (refine ld_A (.tmp 73) rfl rfl (range_o3 (o := x) (T := 35) (fr := (0, 0)) (HS.out.get 2 rfl)) rfl ?_)) | ((with_reducible refine gate_ (.load 32 (.tmp 173)) rfl ?_); refine wpList_guarded (by rfl) ?_; go_must (refine ld_A (.tmp 173) rfl rfl (range_o3 (o := x) (T := 35) (fr := (0, 0)) (HS.out.get 2 rfl)) rfl ?_)) | ((with_reducible refine gate_ (.load 32 (.tmp 109)) rfl ?_); refine wpList_guarded (by rfl) ?_; go_must (refine ld_A (.tmp 109) rfl rfl (range_o3 (o := x) (T := 35) (fr := (0, 0)) (HS.out.get 2 rfl)) rfl ?_)) | (go_at_call 9; refine (c_bindK HS.out 0 rfl HG.out.1 (by have := HG.out.2.1; omega) (by have := HG.out.2.2.1; omega) x.a x.n HB.out).mono ?_; rintro e w1 ⟨v1, rfl, hs⟩; replace c2 := cell_o2 (hs.get 2 rfl); replace HS := Lib.hid hs; clear hs) | (go_at_call 16; refine (c_kindK HS.out x.a HK.out).mono ?_; rintro e w1 ⟨rfl, hs⟩; replace c2 := cell_o2 (hs.get 2 rfl); replace HS := Lib.hid hs; clear hs) | (go_at_call 17; refine (c_justK HS.out 1 rfl HG.out.2.2.2 x.a _ H1.out).mono ?_; rintro e w1 ⟨rfl, hs⟩; replace c2 := cell_o2 (hs.get 2 rfl); replace HS := Lib.hid hs; clear hs))
                  go_loopw [17] (fun i wz => ∃ kk : Int, 49152 ≤ kk ∧ kk ≤ F ∧ i = .int .i64 kk ∧ Hid (St w wz [obT p v1 (1 + (m : Int)) (g + 1) L2, obK (.slice A1 l.length c1) l, obB bO (oV x) 35, obB (bO + 1) (aV (zA x.a.v)) 32])) (fun i _ => (70000 - intOf i).toNat)
                  case atStart => exact ⟨49152, Int.le_refl _, f1', rfl, HS⟩
                  case round =>
                    obtain ⟨kk, h1, h2, rfl, HS4⟩ := hrel
                    clear HS c2 c0
                    have HS := HS4
                    clear HS4
                    have c2 := cell_o2 (HS.out.get 2 rfl)
                    by_cases hkF : kk < F
                    · obtain ⟨fk, hfk⟩ : ∃ f, findB l ⟨x.a, kk⟩ = f := ⟨_, rfl⟩
                      have k9 : (fk == 0) = false := by have := HN.out kk h1 hkF; rw [hfk] at this; simpa using this
                      have H1 := Lib.hid hfk
                      clear hfk
                      go_wp2_with (first | ((with_reducible refine gate_ (.load 32 (.tmp 126)) rfl ?_); go_must (refine ld_A (.tmp 126) rfl rfl (range_o3 (o := x) (T := 35) (fr := (0, 0)) (HS.out.get 2 rfl)) rfl ?_)) | (go_at_call 17; refine (c_justK HS.out 1 rfl HG.out.2.2.2 x.a _ H1.out).mono ?_; rintro e w1 ⟨rfl, hs⟩; replace c2 := cell_o2 (hs.get 2 rfl); replace HS := Lib.hid hs; clear hs))
                      go_roundw
                      case rel => exact ⟨kk + 1, by omega, by omega, by go_num, HS⟩
                      case measure => simp [intOf]; omega
                    · have k9 : decide (kk < F) = false := by simp; omega
                      go_wp2_with (first | ((with_reducible refine gate_ (.load 32 (.tmp 133)) rfl ?_); go_must (refine ld_A (.tmp 133) rfl rfl (range_o3 (o := x) (T := 35) (fr := (0, 0)) (HS.out.get 2 rfl)) rfl ?_)) | ((with_reducible refine gate_ (.build 53 #[(0, .tmp 132), (1, .tmp 134), (2, .tmp 135)]) rfl ?_); go_must (refine wpList_buildA rfl 53 #[(0, .tmp 132), (1, .tmp 134), (2, .tmp 135)] rfl [(0, .int .i64 (g + 1)), (1, .agg (aV x.a)), (2, .int .i64 (F))] rfl (built_bk (g + 1) x.a (F)) ?_)) | (at_builtin; go_must (refine wpList_append_St kB HS.out 1 rfl rfl (.tmp 131) (.tmp 137) 49 (.agg (bV zB)) 40 rfl Try.underlying49 infoK (bV_size zB) szB (by decide) ⟨g + 1, ⟨x.a, F⟩⟩ (bL ⟨g + 1, ⟨x.a, F⟩⟩) rfl (by rfl) rfl (by have := HG.out.2.2.1; omega) ?_)))
                      intro v9 w9 HG9 HS9
                      rw [← HL2.out.1] at HS9
                      have HV9 : Hid (∃ A9 c9, v9 = .slice A9 L2.length c9) := Lib.hid (by
                        obtain ⟨A9, c9, hv9⟩ := HG9.out.slice
                        exact ⟨some A9, c9, by rw [hv9, HL2.out.2]⟩)
                      clear HG9
                      obtain ⟨A9, c9, rfl⟩ := HV9.out
                      clear HV9
                      go_wp2_with fail
                      go_meet
                      case rel => exact ⟨v1, A9, c9, g + 1, L2, rfl, rfl, HQ2, HW2, HR2, HS9⟩
              · have k1 : (kd == 1) = false := by simp; omega
                have k0 : (kd == 5) = true := by simpa using hq
                as_aux_lemma =>
                  go_wp2_with (first | ((with_reducible refine gate_ (.load 32 (.tmp 65)) rfl ?_); go_must (refine ld_A (.tmp 65) rfl rfl (range_o3 (o := x) (T := 35) (fr := (0, 0)) (HS.out.get 2 rfl)) rfl ?_)) | ((with_reducible refine gate_ (.load 32 (.tmp 73)) rfl ?_); go_must (refine ld_A (.tmp 73) rfl rfl (range_o3 (o := x) (T := 35) (fr := (0, 0)) (HS.out.get 2 rfl)) rfl ?_)) | ((with_reducible refine gate_ (.load 32 (.tmp 173)) rfl ?_); refine wpList_guarded (by rfl) ?_; go_must (refine ld_A (.tmp 173) rfl rfl (range_o3 (o := x) (T := 35) (fr := (0, 0)) (HS.out.get 2 rfl)) rfl ?_)) | ((with_reducible refine gate_ (.load 32 (.tmp 109)) rfl ?_); refine wpList_guarded (by rfl) ?_; go_must (refine ld_A (.tmp 109) rfl rfl (range_o3 (o := x) (T := 35) (fr := (0, 0)) (HS.out.get 2 rfl)) rfl ?_)) | (go_at_call 9; refine (c_bindK HS.out 0 rfl HG.out.1 (by have := HG.out.2.1; omega) (by have := HG.out.2.2.1; omega) x.a x.n HB.out).mono ?_; rintro e w1 ⟨v1, rfl, hs⟩; replace c2 := cell_o2 (hs.get 2 rfl); replace HS := Lib.hid hs; clear hs) | (go_at_call 16; refine (c_kindK HS.out x.a HK.out).mono ?_; rintro e w1 ⟨rfl, hs⟩; replace c2 := cell_o2 (hs.get 2 rfl); replace HS := Lib.hid hs; clear hs) | (go_at_call 17; refine (c_justK HS.out 1 rfl HG.out.2.2.2 x.a _ H1.out).mono ?_; rintro e w1 ⟨rfl, hs⟩; replace c2 := cell_o2 (hs.get 2 rfl); replace HS := Lib.hid hs; clear hs))
                  go_loopw [17] (fun i wz => ∃ kk : Int, 49152 ≤ kk ∧ kk ≤ F ∧ i = .int .i64 kk ∧ Hid (St w wz [obT p v1 (1 + (m : Int)) (g + 1) L2, obK (.slice A1 l.length c1) l, obB bO (oV x) 35, obB (bO + 1) (aV (zA x.a.v)) 32])) (fun i _ => (70000 - intOf i).toNat)
                  case atStart => exact ⟨49152, Int.le_refl _, f1', rfl, HS⟩
                  case round =>
                    obtain ⟨kk, h1, h2, rfl, HS4⟩ := hrel
                    clear HS c2 c0
                    have HS := HS4
                    clear HS4
                    have c2 := cell_o2 (HS.out.get 2 rfl)
                    by_cases hkF : kk < F
                    · obtain ⟨fk, hfk⟩ : ∃ f, findB l ⟨x.a, kk⟩ = f := ⟨_, rfl⟩
                      have k9 : (fk == 0) = false := by have := HN.out kk h1 hkF; rw [hfk] at this; simpa using this
                      have H1 := Lib.hid hfk
                      clear hfk
                      go_wp2_with (first | ((with_reducible refine gate_ (.load 32 (.tmp 126)) rfl ?_); go_must (refine ld_A (.tmp 126) rfl rfl (range_o3 (o := x) (T := 35) (fr := (0, 0)) (HS.out.get 2 rfl)) rfl ?_)) | (go_at_call 17; refine (c_justK HS.out 1 rfl HG.out.2.2.2 x.a _ H1.out).mono ?_; rintro e w1 ⟨rfl, hs⟩; replace c2 := cell_o2 (hs.get 2 rfl); replace HS := Lib.hid hs; clear hs))
                      go_roundw
                      case rel => exact ⟨kk + 1, by omega, by omega, by go_num, HS⟩
                      case measure => simp [intOf]; omega
                    · have k9 : decide (kk < F) = false := by simp; omega
                      go_wp2_with (first | ((with_reducible refine gate_ (.load 32 (.tmp 133)) rfl ?_); go_must (refine ld_A (.tmp 133) rfl rfl (range_o3 (o := x) (T := 35) (fr := (0, 0)) (HS.out.get 2 rfl)) rfl ?_)) | ((with_reducible refine gate_ (.build 53 #[(0, .tmp 132), (1, .tmp 134), (2, .tmp 135)]) rfl ?_); go_must (refine wpList_buildA rfl 53 #[(0, .tmp 132), (1, .tmp 134), (2, .tmp 135)] rfl [(0, .int .i64 (g + 1)), (1, .agg (aV x.a)), (2, .int .i64 (F))] rfl (built_bk (g + 1) x.a (F)) ?_)) | (at_builtin; go_must (refine wpList_append_St kB HS.out 1 rfl rfl (.tmp 131) (.tmp 137) 49 (.agg (bV zB)) 40 rfl Try.underlying49 infoK (bV_size zB) szB (by decide) ⟨g + 1, ⟨x.a, F⟩⟩ (bL ⟨g + 1, ⟨x.a, F⟩⟩) rfl (by rfl) rfl (by have := HG.out.2.2.1; omega) ?_)))
                      intro v9 w9 HG9 HS9
                      rw [← HL2.out.1] at HS9
                      have HV9 : Hid (∃ A9 c9, v9 = .slice A9 L2.length c9) := Lib.hid (by
                        obtain ⟨A9, c9, hv9⟩ := HG9.out.slice
                        exact ⟨some A9, c9, by rw [hv9, HL2.out.2]⟩)
                      clear HG9
                      obtain ⟨A9, c9, rfl⟩ := HV9.out
                      clear HV9
                      go_wp2_with fail
                      go_meet
                      case rel => exact ⟨v1, A9, c9, g + 1, L2, rfl, rfl, HQ2, HW2, HR2, HS9⟩
          · have k4 : decide (x.n > 0) = true := by simp; omega
            have k5 : (x.n == 0) = false := by simpa using hz
            have H1 := Lib.hid hf1
            by_cases huse : 0 < f1
            · have k7 : decide (f1 > 0) = true := by simpa using huse
              have HB := Lib.hid (bS2 (most := 1 + (m : Int)) (g := g) (l := l) (a := x.a) (port := x.n) hk0 hp1 (by omega) (by rw [hf1]; exact huse))
              have HQ2 := Lib.hid (HQ.out.up (Nat.le_succ (k + 1)))
              clear hz huse hp0 hp1 hf1 hf0 hk0
              rcases hkk with hq | hq
              · have k1 : (kd == 1) = true := by simpa using hq
                as_aux_lemma =>
                  go_wp2_with (first | ((with_reducible refine gate_ (.load 32 (.tmp 65)) rfl ?_); go_must (refine ld_A (.tmp 65) rfl rfl (range_o3 (o := x) (T := 35) (fr := (0, 0)) (HS.out.get 2 rfl)) rfl ?_)) | ((with_reducible refine gate_ (.load 32 (.tmp 73)) rfl ?_); go_must (refine ld_A (.tmp 73) rfl rfl (range_o3 (o := x) (T := 35) (fr := (0, 0)) (HS.out.get 2 rfl)) rfl ?_)) | ((with_reducible refine gate_ (.load 32 (.tmp 173)) rfl ?_); refine wpList_guarded (by rfl) ?_; go_must (refine ld_A (.tmp 173) rfl rfl (range_o3 (o := x) (T := 35) (fr := (0, 0)) (HS.out.get 2 rfl)) rfl ?_)) | ((with_reducible refine gate_ (.load 32 (.tmp 109)) rfl ?_); refine wpList_guarded (by rfl) ?_; go_must (refine ld_A (.tmp 109) rfl rfl (range_o3 (o := x) (T := 35) (fr := (0, 0)) (HS.out.get 2 rfl)) rfl ?_)) | (go_at_call 9; refine (c_bindK HS.out 0 rfl HG.out.1 (by have := HG.out.2.1; omega) (by have := HG.out.2.2.1; omega) x.a x.n HB.out).mono ?_; rintro e w1 ⟨v1, rfl, hs⟩; replace c2 := cell_o2 (hs.get 2 rfl); replace HS := Lib.hid hs; clear hs) | (go_at_call 16; refine (c_kindK HS.out x.a HK.out).mono ?_; rintro e w1 ⟨rfl, hs⟩; replace c2 := cell_o2 (hs.get 2 rfl); replace HS := Lib.hid hs; clear hs) | (go_at_call 17; refine (c_justK HS.out 1 rfl HG.out.2.2.2 x.a _ H1.out).mono ?_; rintro e w1 ⟨rfl, hs⟩; replace c2 := cell_o2 (hs.get 2 rfl); replace HS := Lib.hid hs; clear hs))
                  go_meet
                  case rel => exact ⟨v1, A1, c1, g, l, rfl, rfl, HQ2, HW, HR, HS⟩
              · have k1 : (kd == 1) = false := by simp; omega
                have k0 : (kd == 5) = true := by simpa using hq
                as_aux_lemma =>
                  go_wp2_with (first | ((with_reducible refine gate_ (.load 32 (.tmp 65)) rfl ?_); go_must (refine ld_A (.tmp 65) rfl rfl (range_o3 (o := x) (T := 35) (fr := (0, 0)) (HS.out.get 2 rfl)) rfl ?_)) | ((with_reducible refine gate_ (.load 32 (.tmp 73)) rfl ?_); go_must (refine ld_A (.tmp 73) rfl rfl (range_o3 (o := x) (T := 35) (fr := (0, 0)) (HS.out.get 2 rfl)) rfl ?_)) | ((with_reducible refine gate_ (.load 32 (.tmp 173)) rfl ?_); refine wpList_guarded (by rfl) ?_; go_must (refine ld_A (.tmp 173) rfl rfl (range_o3 (o := x) (T := 35) (fr := (0, 0)) (HS.out.get 2 rfl)) rfl ?_)) | ((with_reducible refine gate_ (.load 32 (.tmp 109)) rfl ?_); refine wpList_guarded (by rfl) ?_; go_must (refine ld_A (.tmp 109) rfl rfl (range_o3 (o := x) (T := 35) (fr := (0, 0)) (HS.out.get 2 rfl)) rfl ?_)) | (go_at_call 9; refine (c_bindK HS.out 0 rfl HG.out.1 (by have := HG.out.2.1; omega) (by have := HG.out.2.2.1; omega) x.a x.n HB.out).mono ?_; rintro e w1 ⟨v1, rfl, hs⟩; replace c2 := cell_o2 (hs.get 2 rfl); replace HS := Lib.hid hs; clear hs) | (go_at_call 16; refine (c_kindK HS.out x.a HK.out).mono ?_; rintro e w1 ⟨rfl, hs⟩; replace c2 := cell_o2 (hs.get 2 rfl); replace HS := Lib.hid hs; clear hs) | (go_at_call 17; refine (c_justK HS.out 1 rfl HG.out.2.2.2 x.a _ H1.out).mono ?_; rintro e w1 ⟨rfl, hs⟩; replace c2 := cell_o2 (hs.get 2 rfl); replace HS := Lib.hid hs; clear hs))
                  go_meet
                  case rel => exact ⟨v1, A1, c1, g, l, rfl, rfl, HQ2, HW, HR, HS⟩
            · have k7 : decide (f1 > 0) = false := by simp; omega
              by_cases hfull : 1 + (m : Int) ≤ (l.length : Int)
              · have k6 : decide ((l.length : Int) ≥ 1 + (m : Int)) = true := by simpa using hfull
                have HB := Lib.hid (bS3 (most := 1 + (m : Int)) (g := g) (l := l) (a := x.a) (port := x.n) hk0 hp1 hp0 (fun _ => by rw [hf1]; exact huse) hfull)
                have HQ2 := Lib.hid (HQ.out.up (Nat.le_succ (k + 1)))
                clear hz huse hfull hp0 hp1 hf1 hf0 hk0
                rcases hkk with hq | hq
                · have k1 : (kd == 1) = true := by simpa using hq
                  as_aux_lemma =>
                    go_wp2_with (first | ((with_reducible refine gate_ (.load 32 (.tmp 65)) rfl ?_); go_must (refine ld_A (.tmp 65) rfl rfl (range_o3 (o := x) (T := 35) (fr := (0, 0)) (HS.out.get 2 rfl)) rfl ?_)) | ((with_reducible refine gate_ (.load 32 (.tmp 73)) rfl ?_); go_must (refine ld_A (.tmp 73) rfl rfl (range_o3 (o := x) (T := 35) (fr := (0, 0)) (HS.out.get 2 rfl)) rfl ?_)) | ((with_reducible refine gate_ (.load 32 (.tmp 173)) rfl ?_); refine wpList_guarded (by rfl) ?_; go_must (refine ld_A (.tmp 173) rfl rfl (range_o3 (o := x) (T := 35) (fr := (0, 0)) (HS.out.get 2 rfl)) rfl ?_)) | ((with_reducible refine gate_ (.load 32 (.tmp 109)) rfl ?_); refine wpList_guarded (by rfl) ?_; go_must (refine ld_A (.tmp 109) rfl rfl (range_o3 (o := x) (T := 35) (fr := (0, 0)) (HS.out.get 2 rfl)) rfl ?_)) | (go_at_call 9; refine (c_bindK HS.out 0 rfl HG.out.1 (by have := HG.out.2.1; omega) (by have := HG.out.2.2.1; omega) x.a x.n HB.out).mono ?_; rintro e w1 ⟨v1, rfl, hs⟩; replace c2 := cell_o2 (hs.get 2 rfl); replace HS := Lib.hid hs; clear hs) | (go_at_call 16; refine (c_kindK HS.out x.a HK.out).mono ?_; rintro e w1 ⟨rfl, hs⟩; replace c2 := cell_o2 (hs.get 2 rfl); replace HS := Lib.hid hs; clear hs) | (go_at_call 17; refine (c_justK HS.out 1 rfl HG.out.2.2.2 x.a _ H1.out).mono ?_; rintro e w1 ⟨rfl, hs⟩; replace c2 := cell_o2 (hs.get 2 rfl); replace HS := Lib.hid hs; clear hs))
                    go_meet
                    case rel => exact ⟨v1, A1, c1, g, l, rfl, rfl, HQ2, HW, HR, HS⟩
                · have k1 : (kd == 1) = false := by simp; omega
                  have k0 : (kd == 5) = true := by simpa using hq
                  as_aux_lemma =>
                    go_wp2_with (first | ((with_reducible refine gate_ (.load 32 (.tmp 65)) rfl ?_); go_must (refine ld_A (.tmp 65) rfl rfl (range_o3 (o := x) (T := 35) (fr := (0, 0)) (HS.out.get 2 rfl)) rfl ?_)) | ((with_reducible refine gate_ (.load 32 (.tmp 73)) rfl ?_); go_must (refine ld_A (.tmp 73) rfl rfl (range_o3 (o := x) (T := 35) (fr := (0, 0)) (HS.out.get 2 rfl)) rfl ?_)) | ((with_reducible refine gate_ (.load 32 (.tmp 173)) rfl ?_); refine wpList_guarded (by rfl) ?_; go_must (refine ld_A (.tmp 173) rfl rfl (range_o3 (o := x) (T := 35) (fr := (0, 0)) (HS.out.get 2 rfl)) rfl ?_)) | ((with_reducible refine gate_ (.load 32 (.tmp 109)) rfl ?_); refine wpList_guarded (by rfl) ?_; go_must (refine ld_A (.tmp 109) rfl rfl (range_o3 (o := x) (T := 35) (fr := (0, 0)) (HS.out.get 2 rfl)) rfl ?_)) | (go_at_call 9; refine (c_bindK HS.out 0 rfl HG.out.1 (by have := HG.out.2.1; omega) (by have := HG.out.2.2.1; omega) x.a x.n HB.out).mono ?_; rintro e w1 ⟨v1, rfl, hs⟩; replace c2 := cell_o2 (hs.get 2 rfl); replace HS := Lib.hid hs; clear hs) | (go_at_call 16; refine (c_kindK HS.out x.a HK.out).mono ?_; rintro e w1 ⟨rfl, hs⟩; replace c2 := cell_o2 (hs.get 2 rfl); replace HS := Lib.hid hs; clear hs) | (go_at_call 17; refine (c_justK HS.out 1 rfl HG.out.2.2.2 x.a _ H1.out).mono ?_; rintro e w1 ⟨rfl, hs⟩; replace c2 := cell_o2 (hs.get 2 rfl); replace HS := Lib.hid hs; clear hs))
                    go_meet
                    case rel => exact ⟨v1, A1, c1, g, l, rfl, rfl, HQ2, HW, HR, HS⟩
              · have k6 : decide ((l.length : Int) ≥ 1 + (m : Int)) = false := by simp; omega
                have HBS := Lib.hid (bS5 (most := 1 + (m : Int)) (g := g) (l := l) (a := x.a) (port := x.n) hk0 hp1 (by omega) (by rw [hf1]; exact huse) hfull)
                clear hz huse hfull hp0 hp1 hf1 hf0 hk0
                obtain ⟨L2, hL2⟩ : ∃ L2, L2 = l ++ [(⟨g + 1, ⟨x.a, x.n⟩⟩ : Bd)] := ⟨_, rfl⟩
                have HL2 := Lib.hid (And.intro hL2 (show L2.length = l.length + 1 by rw [hL2]; simp))
                have hB : bindS (1 + (m : Int)) g l x.a x.n = ⟨g + 1, x.n, 0, g + 1, L2⟩ := by rw [HBS.out, hL2]
                have HB := Lib.hid hB
                have hq2 := HQ.out.bind x.a x.n
                have hw2 := HW.out.bind (most := 1 + (m : Int)) x.a x.n
                rw [hB] at hq2 hw2
                have HQ2 := Lib.hid hq2
                have HW2 := Lib.hid hw2
                have HR2 : Hid (Srt L2) := Lib.hid (by rw [hL2]; exact HR.out.snoc HW.out _)
                have n1 : decide (g + 1 ≤ g) = false := by simp; omega
                clear hL2 hB hq2 hw2
                rcases hkk with hq | hq
                · have k1 : (kd == 1) = true := by simpa using hq
                  as_aux_lemma =>
                    go_wp2_with (first | ((with_reducible refine gate_ (.load 32 (.tmp 65)) rfl ?_); go_must (refine ld_A (.tmp 65) rfl rfl (range_o3 (o := x) (T := 35) (fr := (0, 0)) (HS.out.get 2 rfl)) rfl ?_)) | ((with_reducible refine gate_ (.load 32 (.tmp 73)) rfl ?_); go_must (refine ld_A (.tmp 73) rfl rfl (range_o3 (o := x) (T := 35) (fr := (0, 0)) (HS.out.get 2 rfl)) rfl ?_)) | ((with_reducible refine gate_ (.load 32 (.tmp 173)) rfl ?_); refine wpList_guarded (by rfl) ?_; go_must (refine ld_A (.tmp 173) rfl rfl (range_o3 (o := x) (T := 35) (fr := (0, 0)) (HS.out.get 2 rfl)) rfl ?_)) | ((with_reducible refine gate_ (.load 32 (.tmp 109)) rfl ?_); refine wpList_guarded (by rfl) ?_; go_must (refine ld_A (.tmp 109) rfl rfl (range_o3 (o := x) (T := 35) (fr := (0, 0)) (HS.out.get 2 rfl)) rfl ?_)) | (go_at_call 9; refine (c_bindK HS.out 0 rfl HG.out.1 (by have := HG.out.2.1; omega) (by have := HG.out.2.2.1; omega) x.a x.n HB.out).mono ?_; rintro e w1 ⟨v1, rfl, hs⟩; replace c2 := cell_o2 (hs.get 2 rfl); replace HS := Lib.hid hs; clear hs) | (go_at_call 16; refine (c_kindK HS.out x.a HK.out).mono ?_; rintro e w1 ⟨rfl, hs⟩; replace c2 := cell_o2 (hs.get 2 rfl); replace HS := Lib.hid hs; clear hs) | (go_at_call 17; refine (c_justK HS.out 1 rfl HG.out.2.2.2 x.a _ H1.out).mono ?_; rintro e w1 ⟨rfl, hs⟩; replace c2 := cell_o2 (hs.get 2 rfl); replace HS := Lib.hid hs; clear hs))
                    go_loopw [17] (fun i wz => i = .int .i64 49152 ∧ Hid (St w wz [obT p v1 (1 + (m : Int)) (g + 1) L2, obK (.slice A1 l.length c1) l, obB bO (oV x) 35, obB (bO + 1) (aV (zA x.a.v)) 32])) (fun _ _ => 0)
                    case atStart => exact ⟨rfl, HS⟩
                    case round =>
                      obtain ⟨rfl, HS4⟩ := hrel
                      clear HS c2 c0
                      have HS := HS4
                      clear HS4
                      have c2 := cell_o2 (HS.out.get 2 rfl)
                      go_wp2_with (first | ((with_reducible refine gate_ (.load 32 (.tmp 133)) rfl ?_); go_must (refine ld_A (.tmp 133) rfl rfl (range_o3 (o := x) (T := 35) (fr := (0, 0)) (HS.out.get 2 rfl)) rfl ?_)) | ((with_reducible refine gate_ (.build 53 #[(0, .tmp 132), (1, .tmp 134), (2, .tmp 135)]) rfl ?_); go_must (refine wpList_buildA rfl 53 #[(0, .tmp 132), (1, .tmp 134), (2, .tmp 135)] rfl [(0, .int .i64 (g + 1)), (1, .agg (aV x.a)), (2, .int .i64 (x.n))] rfl (built_bk (g + 1) x.a (x.n)) ?_)) | (at_builtin; go_must (refine wpList_append_St kB HS.out 1 rfl rfl (.tmp 131) (.tmp 137) 49 (.agg (bV zB)) 40 rfl Try.underlying49 infoK (bV_size zB) szB (by decide) ⟨g + 1, ⟨x.a, x.n⟩⟩ (bL ⟨g + 1, ⟨x.a, x.n⟩⟩) rfl (by rfl) rfl (by have := HG.out.2.2.1; omega) ?_)))
                      intro v9 w9 HG9 HS9
                      rw [← HL2.out.1] at HS9
                      have HV9 : Hid (∃ A9 c9, v9 = .slice A9 L2.length c9) := Lib.hid (by
                        obtain ⟨A9, c9, hv9⟩ := HG9.out.slice
                        exact ⟨some A9, c9, by rw [hv9, HL2.out.2]⟩)
                      clear HG9
                      obtain ⟨A9, c9, rfl⟩ := HV9.out
                      clear HV9
                      go_wp2_with fail
                      go_meet
                      case rel => exact ⟨v1, A9, c9, g + 1, L2, rfl, rfl, HQ2, HW2, HR2, HS9⟩
                · have k1 : (kd == 1) = false := by simp; omega
                  have k0 : (kd == 5) = true := by simpa using hq
                  as_aux_lemma =>
                    go_wp2_with (first | ((with_reducible refine gate_ (.load 32 (.tmp 65)) rfl ?_); go_must (refine ld_A (.tmp 65) rfl rfl (range_o3 (o := x) (T := 35) (fr := (0, 0)) (HS.out.get 2 rfl)) rfl ?_)) | ((with_reducible refine gate_ (.load 32 (.tmp 73)) rfl ?_); go_must (refine ld_A (.tmp 73) rfl rfl (range_o3 (o := x) (T := 35) (fr := (0, 0)) (HS.out.get 2 rfl)) rfl ?_)) | ((with_reducible refine gate_ (.load 32 (.tmp 173)) rfl ?_); refine wpList_guarded (by rfl) ?_; go_must (refine ld_A (.tmp 173) rfl rfl (range_o3 (o := x) (T := 35) (fr := (0, 0)) (HS.out.get 2 rfl)) rfl ?_)) | ((with_reducible refine gate_ (.load 32 (.tmp 109)) rfl ?_); refine wpList_guarded (by rfl) ?_; go_must (refine ld_A (.tmp 109) rfl rfl (range_o3 (o := x) (T := 35) (fr := (0, 0)) (HS.out.get 2 rfl)) rfl ?_)) | (go_at_call 9; refine (c_bindK HS.out 0 rfl HG.out.1 (by have := HG.out.2.1; omega) (by have := HG.out.2.2.1; omega) x.a x.n HB.out).mono ?_; rintro e w1 ⟨v1, rfl, hs⟩; replace c2 := cell_o2 (hs.get 2 rfl); replace HS := Lib.hid hs; clear hs) | (go_at_call 16; refine (c_kindK HS.out x.a HK.out).mono ?_; rintro e w1 ⟨rfl, hs⟩; replace c2 := cell_o2 (hs.get 2 rfl); replace HS := Lib.hid hs; clear hs) | (go_at_call 17; refine (c_justK HS.out 1 rfl HG.out.2.2.2 x.a _ H1.out).mono ?_; rintro e w1 ⟨rfl, hs⟩; replace c2 := cell_o2 (hs.get 2 rfl); replace HS := Lib.hid hs; clear hs))
                    go_loopw [17] (fun i wz => i = .int .i64 49152 ∧ Hid (St w wz [obT p v1 (1 + (m : Int)) (g + 1) L2, obK (.slice A1 l.length c1) l, obB bO (oV x) 35, obB (bO + 1) (aV (zA x.a.v)) 32])) (fun _ _ => 0)
                    case atStart => exact ⟨rfl, HS⟩
                    case round =>
                      obtain ⟨rfl, HS4⟩ := hrel
                      clear HS c2 c0
                      have HS := HS4
                      clear HS4
                      have c2 := cell_o2 (HS.out.get 2 rfl)
                      go_wp2_with (first | ((with_reducible refine gate_ (.load 32 (.tmp 133)) rfl ?_); go_must (refine ld_A (.tmp 133) rfl rfl (range_o3 (o := x) (T := 35) (fr := (0, 0)) (HS.out.get 2 rfl)) rfl ?_)) | ((with_reducible refine gate_ (.build 53 #[(0, .tmp 132), (1, .tmp 134), (2, .tmp 135)]) rfl ?_); go_must (refine wpList_buildA rfl 53 #[(0, .tmp 132), (1, .tmp 134), (2, .tmp 135)] rfl [(0, .int .i64 (g + 1)), (1, .agg (aV x.a)), (2, .int .i64 (x.n))] rfl (built_bk (g + 1) x.a (x.n)) ?_)) | (at_builtin; go_must (refine wpList_append_St kB HS.out 1 rfl rfl (.tmp 131) (.tmp 137) 49 (.agg (bV zB)) 40 rfl Try.underlying49 infoK (bV_size zB) szB (by decide) ⟨g + 1, ⟨x.a, x.n⟩⟩ (bL ⟨g + 1, ⟨x.a, x.n⟩⟩) rfl (by rfl) rfl (by have := HG.out.2.2.1; omega) ?_)))
                      intro v9 w9 HG9 HS9
                      rw [← HL2.out.1] at HS9
                      have HV9 : Hid (∃ A9 c9, v9 = .slice A9 L2.length c9) := Lib.hid (by
                        obtain ⟨A9, c9, hv9⟩ := HG9.out.slice
                        exact ⟨some A9, c9, by rw [hv9, HL2.out.2]⟩)
                      clear HG9
                      obtain ⟨A9, c9, rfl⟩ := HV9.out
                      clear HV9
                      go_wp2_with fail
                      go_meet
                      case rel => exact ⟨v1, A9, c9, g + 1, L2, rfl, rfl, HQ2, HW2, HR2, HS9⟩
        · have b1 : (x.k == 1) = false := by simpa using hk1
          by_cases hk4 : x.k = 4
          · have b4 : (x.k == 4) = true := by simpa using hk4
            have HG : Hid (l.length ≤ 32 ∧ (l.length : Int) ≤ 1000) := Lib.hid ⟨HQ.out.l, by have := HQ.out.l; omega⟩
            clear hk1 hk4
            go_wp2_with fail
            go_loopw [18, 19] (fun at_ i wz => ∃ j : Nat, j ≤ l.length ∧ at_ = .int .i64 (lastI l x.n j) ∧ i = .int .i64 j ∧ Hid (St w wz [obT p v (1 + (m : Int)) g l, obK (.slice A1 l.length c1) l, obB bO (oV x) 35, obB (bO + 1) (aV (zA x.a.v)) 32])) (fun _ i _ => l.length - (intOf i).toNat)
            case atStart => exact ⟨0, Nat.zero_le _, rfl, rfl, HS⟩
            case round =>
              obtain ⟨j, hj, rfl, rfl, HS4⟩ := hrel
              clear HS c2 c0
              have HS := HS4
              clear HS4
              have c2 := cell_o2 (HS.out.get 2 rfl)
              have hl32 : (l.length : Int) ≤ 1000 := HG.out.2
              by_cases hjl : j < l.length
              · have hjz : (j : Int) < (l.length : Int) := by omega
                obtain ⟨gr, rfl, hra⟩ := bookAt HS.out 1 rfl j l[j] (List.getElem?_eq_getElem hjl)
                have hst : lastI l x.n (j + 1) = if l[j].n = x.n then (j : Int) else lastI l x.n j := by
                  rw [show l[j] = l.getD j zB by rw [List.getD_eq_getElem?_getD, List.getElem?_eq_getElem hjl]; rfl]; rfl
                generalize l[j] = y at hra hst
                have hn0 := hra 0 (.int .i64 y.n) rfl
                replace hn0 : wr.cell? ⟨gr, j * 19, none⟩ = some (.int .i64 y.n) := hn0
                generalize lastI l x.n j = z at hst ⊢
                clear hra
                by_cases he : y.n = x.n
                · have q1 : (y.n == x.n) = true := by simpa using he
                  rw [if_pos he] at hst
                  have HST := Lib.hid hst
                  clear hst he
                  as_aux_lemma =>
                    go_wp2_with fail
                    go_quiet (fail)
                    go_wp2_with fail
                    go_roundw
                    case rel => exact ⟨j + 1, by omega, by rw [HST.out], by go_num, Lib.hid (HS.out.drewN _)⟩
                    case measure => simp [intOf]; omega
                · have q1 : (y.n == x.n) = false := by simpa using he
                  rw [if_neg he] at hst
                  have HST := Lib.hid hst
                  clear hst he
                  as_aux_lemma =>
                    go_wp2_with fail
                    go_quiet (fail)
                    go_wp2_with fail
                    go_roundw
                    case rel => exact ⟨j + 1, by omega, by rw [HST.out], by go_num, Lib.hid (HS.out.drewN _)⟩
                    case measure => simp [intOf]; omega
              · have hjz : ¬ (j : Int) < (l.length : Int) := by omega
                have hjx : j = l.length := by omega
                subst hjx
                have hz := lastI_all HR.out x.n
                generalize lastI l x.n l.length = z at hz ⊢
                obtain ⟨L2, hL2⟩ : ∃ L2, closeL l x.n = L2 := ⟨_, rfl⟩
                have hq2 := (HQ.out.close x.n).up (Nat.le_succ (k + 1))
                have hw2 := HW.out.close x.n
                have hr2 := HR.out.close x.n
                rw [hL2] at hq2 hw2 hr2
                have HQ2 := Lib.hid hq2
                have HW2 := Lib.hid hw2
                have HR2 := Lib.hid hr2
                clear hq2 hw2 hr2
                by_cases hi : idxB l x.n < 0
                · have e1 : closeE l x.n = 1 := if_pos hi
                  have e2 : L2 = l := by rw [← hL2]; exact closeL_no hi
                  have z1 : z = -1 := by rw [hz]; exact (idxI_neg hi).1
                  subst z1
                  rw [e2] at hL2 HQ2 HW2 HR2
                  have HC := Lib.hid (And.intro e1 hL2)
                  clear hz hi e1 hL2 e2
                  as_aux_lemma =>
                    go_wp2_with (go_at_call 11; refine (c_closeK HS.out 0 rfl x.n HC.out.1 HC.out.2).mono ?_; rintro e w1 ⟨v1, rfl, hs⟩; replace c2 := cell_o2 (hs.get 2 rfl); replace HS := Lib.hid hs; clear hs)
                    go_meet
                    case rel => exact ⟨v1, A1, c1, g, l, rfl, rfl, HQ2, HW2, HR2, HS⟩
                · obtain ⟨kk, hkk⟩ : ∃ kk : Nat, idxB l x.n = kk := ⟨(idxB l x.n).toNat, by omega⟩
                  have e1 : closeE l x.n = 0 := if_neg hi
                  have e2 : l.eraseIdx kk = L2 := by rw [← hL2]; exact (closeL_yes hkk).symm
                  have z1 : z = (kk : Int) := by rw [hz, hkk]
                  subst z1
                  obtain ⟨y, hy, _, _⟩ := idxI_some hkk
                  have hkl : kk < l.length := (List.getElem?_eq_some_iff.1 hy).1
                  have HC := Lib.hid (And.intro e1 hL2)
                  have hge : decide ((kk : Int) ≥ 0) = true := by simp
                  have hLL : L2.length = kk + (l.length - (kk + 1)) := by rw [← e2, List.length_eraseIdx, if_pos hkl]; omega
                  have HLL := Lib.hid (And.intro e2 hLL)
                  clear hz hi e1 hL2 hkk e2 hy hLL
                  go_wp2_with (go_at_call 11; refine (c_closeK HS.out 0 rfl x.n HC.out.1 HC.out.2).mono ?_; rintro e w1 ⟨v1, rfl, hs⟩; replace c2 := cell_o2 (hs.get 2 rfl); replace HS := Lib.hid hs; clear hs)
                  obtain ⟨gr, rfl, _⟩ := bookAt HS.out 1 rfl kk l[kk] (List.getElem?_eq_getElem hkl)
                  obtain ⟨cur, news, AdR, hcur, hAD, hnl, hsrc, hone, hfit, hlc, hend⟩ := erase_room (HS.out.drew.get 1 rfl) hkl
                  obtain ⟨i0, hi0, hs0⟩ := infK
                  have hs1 := cut_to (P := Try.prog) 49 53 .i64 Try.underlying49 hi0 (some ⟨gr, 0, none⟩) l.length c1 (kk : Int) (by omega) (by omega) hlc
                  have hs2 := cut_from (P := Try.prog) 49 53 .i64 Try.underlying49 hi0 kB.sz hs0 (some ⟨gr, 0, none⟩) l.length c1 ((kk : Int) + 1) (by omega) (by omega)
                  rw [show ((kk : Int) + 1).toNat = kk + 1 by omega, hAD] at hs2
                  rw [Int.toNat_natCast] at hs1
                  have hwr : IntKind.i64.wrap ((kk : Int) + 1) = (kk : Int) + 1 := IntWalk.i64_in _ (by have := HG.out.1; omega)
                  replace hs0 : i0.size = 19 := hs0
                  have HF := Lib.hid (And.intro (show news.length = (l.length - (kk + 1)) * i0.size by rw [hs0]; exact hnl) (And.intro (show kk * i0.size + news.length ≤ cur.size by rw [hs0]; exact hfit) (And.intro hsrc (And.intro hone (And.intro hcur (And.intro hend (And.intro hs0 hlc)))))))
                  clear hAD hnl hsrc hone hfit hcur hend hlc hs0
                  go_region_law (refine step_append_roomRow rfl (.tmp 234) (.tmp 238) 49 rfl 53 i0 Try.underlying49 hi0 gr kk c1 (by first | (go_simp; done) | (go_simp; rfl)) cur HF.out.2.2.2.2.1 AdR (l.length - (kk + 1)) (c1 - (kk + 1)) news (by first | (go_simp; done) | (go_simp; rfl)) HF.out.1 HF.out.2.2.1 HF.out.2.2.2.1 (by have := HF.out.2.2.2.2.2.2.2; omega) HF.out.2.1 ?_)
                  obtain ⟨W9, hW9⟩ : ∃ W9, W9 = w1.drew.setRow gr (cur.toList.take (kk * i0.size) ++ (news ++ cur.toList.drop (kk * i0.size + news.length))).toArray := ⟨_, rfl⟩
                  rw [← hW9]
                  have hH9 : W9.heap[gr]? = some (.cells (cur.toList.take (kk * 19) ++ news ++ cur.toList.drop (kk * 19 + news.length)).toArray 53 (0, 0)) := by
                    rw [hW9, HF.out.2.2.2.2.2.2.1, ← List.append_assoc]
                    exact setRow_heap _ _ _ _ _ _ HF.out.2.2.2.2.1
                  have hR9 := HF.out.2.2.2.2.2.1 W9 hH9
                  have hg9 : w1.drew.grownBy W9 (some gr) := by
                    rw [hW9]
                    exact grownBy_setRow (show w1.drew.grownBy w1.drew (some gr) from ⟨rfl, rfl, rfl, Nat.le_refl _, fun _ _ _ => rfl⟩) rfl _
                  have hs9 := HS.out.drew.growW 1 rfl hR9 hg9 (.inl rfl)
                  rw [HLL.out.1, ← HLL.out.2] at hs9
                  have HS9 := Lib.hid hs9
                  rw [← HLL.out.2]
                  clear hW9 hH9 hR9 hg9 hs9 hs1 hs2 hwr
                  as_aux_lemma =>
                    go_wp2_with fail
                    go_meet
                    case rel => exact ⟨v1, some ⟨gr, 0, none⟩, c1, g, L2, rfl, rfl, HQ2, HW2, HR2, HS9⟩
          · have b4 : (x.k == 4) = false := by simpa using hk4
            have HQ2 := Lib.hid (HQ.out.up (Nat.le_succ (k + 1)))
            clear hk1 hk4
            go_wp2_with fail
            go_meet
            case rel => exact ⟨v, A1, c1, g, l, rfl, rfl, HQ2, HW, HR, HS⟩
      case rest =>
        obtain ⟨v2, A2, c2', g2, l2, rfl, rfl, HQ2, HW2, HR2, HS2⟩ := hcut
        have c2 := cell_o2 (HS2.out.get 2 rfl)
        clear HS HQ HW HR c0
        have HS := HS2
        clear HS2
        have HG : Hid ((l2.length : Int) ≤ 1000) := Lib.hid (by have := HQ2.out.l; omega)
        obtain ⟨f1, hf1⟩ : ∃ f, findB l2 ⟨x.a, x.n⟩ = f := ⟨_, rfl⟩
        obtain ⟨f2, hf2⟩ : ∃ f, findB l2 ⟨zA x.a.v, x.n⟩ = f := ⟨_, rfl⟩
        have H1 := Lib.hid hf1
        have H2 := Lib.hid hf2
        by_cases hz : f1 = 0
        · have b1 : (f1 == 0) = true := by simpa using hz
          have H3 : Hid (findP l2 x.a x.n = f2) := Lib.hid (by unfold findP; rw [hf1, hf2, if_neg (by omega)])
          clear hf1 hf2 hz
          as_aux_lemma =>
            go_wp2_with (first | ((with_reducible refine gate_ (.load 32 (.tmp 241)) rfl ?_); go_must (refine ld_A (.tmp 241) rfl rfl (range_o3 (o := x) (T := 35) (fr := (0, 0)) (HS.out.get 2 rfl)) rfl ?_)) | ((with_reducible refine gate_ (.load 32 (.tmp 12)) rfl ?_); go_must (refine ld_A (.tmp 12) rfl rfl (range_A (y := zA x.a.v) (T := 32) (fr := (0, 0)) (HS.out.get 3 rfl)) rfl ?_)) | ((with_reducible refine gate_ (.load 32 (.tmp 254)) rfl ?_); go_must (refine ld_A (.tmp 254) rfl rfl (range_o3 (o := x) (T := 35) (fr := (0, 0)) (HS.out.get 2 rfl)) rfl ?_)) | (go_at_call_of 17 (aV x.a); refine (c_justK HS.out 1 rfl HG.out x.a x.n H1.out).mono ?_; rintro e w1 ⟨rfl, hs⟩; have c2 := cell_o2 (hs.get 2 rfl); replace HS := Lib.hid hs; clear hs) | (go_at_call_of 17 (aV (zA x.a.v)); refine (c_justK HS.out 1 rfl HG.out (zA x.a.v) x.n H2.out).mono ?_; rintro e w1 ⟨rfl, hs⟩; have c2 := cell_o2 (hs.get 2 rfl); replace HS := Lib.hid hs; clear hs) | (go_at_call 18; refine (c_findK HS.out 0 rfl x.a x.n H3.out).mono ?_; rintro e w1 ⟨rfl, hs⟩; replace HS := Lib.hid hs; clear hs) | (go_at_call 12; refine (allOf HS.out 0 rfl HG.out).mono ?_; rintro e w1 ⟨A3, c3, rfl, hs⟩; replace HS := Lib.hid hs; clear hs))
            go_roundw
            case rel => exact ⟨k + 1, v2, A2, c2', g2, l2, by omega, rfl, rfl, by go_num, HQ2, HW2, HR2, Lib.hid (HS.out.pick [0, 1] (by decide))⟩
            case measure => simp [intOf]; omega
        · have b1 : (f1 == 0) = false := by simpa using hz
          have H3 : Hid (findP l2 x.a x.n = f1) := Lib.hid (by unfold findP; rw [hf1, if_pos (by have := find_nn HW2.out ⟨x.a, x.n⟩; omega)])
          clear hf1 hf2 hz
          as_aux_lemma =>
            go_wp2_with (first | ((with_reducible refine gate_ (.load 32 (.tmp 241)) rfl ?_); go_must (refine ld_A (.tmp 241) rfl rfl (range_o3 (o := x) (T := 35) (fr := (0, 0)) (HS.out.get 2 rfl)) rfl ?_)) | ((with_reducible refine gate_ (.load 32 (.tmp 12)) rfl ?_); go_must (refine ld_A (.tmp 12) rfl rfl (range_A (y := zA x.a.v) (T := 32) (fr := (0, 0)) (HS.out.get 3 rfl)) rfl ?_)) | ((with_reducible refine gate_ (.load 32 (.tmp 254)) rfl ?_); go_must (refine ld_A (.tmp 254) rfl rfl (range_o3 (o := x) (T := 35) (fr := (0, 0)) (HS.out.get 2 rfl)) rfl ?_)) | (go_at_call_of 17 (aV x.a); refine (c_justK HS.out 1 rfl HG.out x.a x.n H1.out).mono ?_; rintro e w1 ⟨rfl, hs⟩; have c2 := cell_o2 (hs.get 2 rfl); replace HS := Lib.hid hs; clear hs) | (go_at_call_of 17 (aV (zA x.a.v)); refine (c_justK HS.out 1 rfl HG.out (zA x.a.v) x.n H2.out).mono ?_; rintro e w1 ⟨rfl, hs⟩; have c2 := cell_o2 (hs.get 2 rfl); replace HS := Lib.hid hs; clear hs) | (go_at_call 18; refine (c_findK HS.out 0 rfl x.a x.n H3.out).mono ?_; rintro e w1 ⟨rfl, hs⟩; replace HS := Lib.hid hs; clear hs) | (go_at_call 12; refine (allOf HS.out 0 rfl HG.out).mono ?_; rintro e w1 ⟨A3, c3, rfl, hs⟩; replace HS := Lib.hid hs; clear hs))
            go_roundw
            case rel => exact ⟨k + 1, v2, A2, c2', g2, l2, by omega, rfl, rfl, by go_num, HQ2, HW2, HR2, Lib.hid (HS.out.pick [0, 1] (by decide))⟩
            case measure => simp [intOf]; omega
    · have hltz : ¬ (k : Int) < (s.length : Int) := by omega
      have HG : Hid ((l.length : Int) ≤ 1000) := Lib.hid (by have := HQ.out.l; omega)
      have hg1 : g + 1 ≤ 4000000000000000000 := by have := HQ.out.g1; have := HZ.out; omega
      have hg0 : 0 ≤ g := HQ.out.g0
      go_wp2_with (go_at_call 12; refine (allOf HS.out 0 rfl HG.out).mono ?_; rintro e w1 ⟨A3, c3, rfl, hs⟩; replace HS := Lib.hid hs; clear hs)
      go_loopw [22, 23, 24, 25] (fun i _ _ _ wz => ∃ j : Nat, j ≤ l.length ∧ i = .int .i64 j ∧ Hid (St w wz [obT p v (1 + (m : Int)) g l, obK (.slice A1 l.length c1) l, obI (.slice A3 l.length c3) (nums l)])) (fun i _ _ _ _ => l.length - (intOf i).toNat)
      case atStart => exact ⟨0, Nat.zero_le _, rfl, HS⟩
      case round =>
        obtain ⟨j, hj, rfl, HS4⟩ := hrel
        clear HS
        have HS := HS4
        clear HS4
        by_cases hjl : j < l.length
        · have hjz : (j : Int) < (l.length : Int) := by omega
          obtain ⟨gr, rfl, hra⟩ := bookAt HS.out 1 rfl j l[j] (List.getElem?_eq_getElem hjl)
          obtain ⟨ad, rfl, _⟩ := cellsI HS.out 2 rfl j (by simp [nums]; exact hjl)
          have hat := at_num HR.out (List.getElem?_eq_getElem hjl)
          have hgy : (nums l).getD j 0 = l[j].n := by rw [List.getD_eq_getElem?_getD]; simp [nums, hjl]
          have hpr : ∀ i, i + 1 = j → (nums l).getD i 0 < l[j].n := fun i hi => by
            rw [show (nums l).getD i 0 = (l[i]'(by omega)).n by rw [List.getD_eq_getElem?_getD]; simp [nums, show i < l.length by omega]]
            exact HR.out.lt (List.getElem?_eq_getElem (show i < l.length by omega)) (List.getElem?_eq_getElem hjl) (by omega)
          have hy : l[j]? = some l[j] := List.getElem?_eq_getElem hjl
          generalize l[j] = y at hra hat hgy hpr hy
          have hn0 := hra 0 (.int .i64 y.n) rfl
          replace hn0 : wr.cell? ⟨gr, j * 19, none⟩ = some (.int .i64 y.n) := hn0
          have HAT := Lib.hid hat
          have HPR := Lib.hid (And.intro hgy (And.intro hpr hy))
          clear hra hat hgy hpr hy
          go_wp2_with (first | (go_at_call 19; refine (c_atK HS.out 0 rfl y.n HAT.out).mono ?_; rintro e w1 ⟨rfl, hs⟩; replace HS := Lib.hid hs; clear hs) | ((with_reducible refine gate_ (.store 32 (.tmp 23) (.tmp 290)) rfl ?_); go_must (refine st_A (.tmp 23) (.tmp 290) rfl rfl rfl rfl rfl ?_); replace HS := Lib.hid (HS.out.box (aV y.p.a) 32)))
          obtain ⟨gr', hgr, hra⟩ := bookAt HS.out 1 rfl j y HPR.out.2.2
          obtain rfl : gr = gr' := by injection hgr with hgr; injection hgr
          obtain ⟨ad', hade, hq⟩ := cellsI HS.out 2 rfl j (by simp [nums]; exact hjl)
          obtain rfl : ad = ad' := by injection hade
          rw [HPR.out.1] at hq
          have hX := HS.out.get 3 rfl
          have hLA : ∀ n, (loadVar 32 ⟨w1.heap.size, 0, none⟩).run Try.prog ((w1.alloc (.cells (aV y.p.a) 32)).drewN n) = .ok (.agg (aV y.p.a)) ((w1.alloc (.cells (aV y.p.a) 32)).drewN n) := fun n => lvA (w := (w1.alloc (.cells (aV y.p.a) 32)).drewN n) (range_A hX)
          have hLB : ∀ n, (loadVar 32 ⟨gr, j * 19 + 1, none⟩).run Try.prog ((w1.alloc (.cells (aV y.p.a) 32)).drewN n) = .ok (.agg (aV y.p.a)) ((w1.alloc (.cells (aV y.p.a) 32)).drewN n) := fun n => lvA (w := (w1.alloc (.cells (aV y.p.a) 32)).drewN n) (range_aB hra)
          have hp0 := cell_pB hra
          have hn1 := hra 0 (.int .i64 y.n) rfl
          replace hn1 : (w1.alloc (.cells (aV y.p.a) 32)).cell? ⟨gr, j * 19, none⟩ = some (.int .i64 y.n) := hn1
          by_cases hj0 : j = 0
          · have k1 : decide ((j : Int) > 0) = false := by simp; omega
            have k1a : decide (0 < j) = false := by simp; omega
            have k1b : decide ((0 : Int) < (j : Int)) = false := by simp; omega
            have k1c : ¬ 0 < j := by omega
            have HJ := Lib.hid hj0
            clear hj0 hra hX hgr hade
            as_aux_lemma =>
              go_quiet (fail)
              go_wp2_with fail
              go_roundw
              case rel => exact ⟨j + 1, by omega, by go_num, Lib.hid ((HS.out.pick [0, 1, 2] (by decide)).drewN _)⟩
              case measure => simp [intOf]; omega
          · have k1 : decide ((j : Int) > 0) = true := by simp; omega
            have k1a : decide (0 < j) = true := by simp; omega
            have k1b : decide ((0 : Int) < (j : Int)) = true := by simp; omega
            have k1c : 0 < j := by omega
            have hl32 := HG.out
            obtain ⟨ad2, hade2, hq2⟩ := cellsI HS.out 2 rfl (j - 1) (by simp [nums]; omega)
            obtain rfl : ad = ad2 := by injection hade2
            have hlt2 := HPR.out.2.1 (j - 1) (by omega)
            generalize (nums l).getD (j - 1) 0 = zz at hq2 hlt2
            have k2 : decide (y.n ≤ zz) = false := by simp; omega
            have k3 : ((j : Int) - 1).toNat = j - 1 := by omega
            have k4 : (0 : Int) ≤ (j : Int) - 1 := by omega
            have k5 : (j : Int) - 1 < (l.length : Int) := by omega
            have k6 : wrap64 ((j : Int) - 1) = (j : Int) - 1 := by simp only [wrap64]; omega
            have k7 : IntKind.i64.wrap ((j : Int) - 1) = (j : Int) - 1 := IntWalk.i64_in _ (by omega)
            have HJ := Lib.hid hj0
            clear hj0 hra hX hgr hade hade2 hlt2
            as_aux_lemma =>
              go_quiet (fail)
              go_wp2_with fail
              go_roundw
              case rel => exact ⟨j + 1, by omega, by go_num, Lib.hid ((HS.out.pick [0, 1, 2] (by decide)).drewN _)⟩
              case measure => simp [intOf]; omega
        · have hjz : ¬ (j : Int) < (l.length : Int) := by omega
          have hno : ∀ s ∈ l, s.n ≠ g + 1 := fun s hs => by have := HW.out.2 s hs; omega
          have hno0 : ∀ s ∈ l, s.n ≠ 0 := fun s hs => by have := HW.out.2 s hs; omega
          have HAT := Lib.hid (at_none hno)
          have HC := Lib.hid (close_none hno0)
          clear hno hno0
          go_wp2_with (first | (go_at_call 19; refine (c_atK HS.out 0 rfl (g + 1) HAT.out).mono ?_; rintro e w1 ⟨rfl, hs⟩; replace HS := Lib.hid hs; clear hs) | ((with_reducible refine gate_ (.store 32 (.tmp 26) (.tmp 346)) rfl ?_); go_must (refine st_A (.tmp 26) (.tmp 346) rfl rfl rfl rfl rfl ?_); replace HS := Lib.hid (HS.out.box (aV (zA 0)) 32)) | (go_at_call 11; refine (c_closeK HS.out 0 rfl 0 HC.out.1 HC.out.2).mono ?_; rintro e w1 ⟨v1, rfl, hs⟩; replace HS := Lib.hid hs; clear hs))
          go_ret
          exact ⟨rfl, HS.out.bl⟩
end Go.Proofs.Ytgcafklieblldaa.SL
