/- The document's put and All. No condition but sizes. PRINTED BY gen_put.py -/
import Derived.Test.YtdinkhhaomblcaaDoorZ4
namespace Go.Proofs.YtdinkhhaomblcaaDoor.SL
open Go.RowKit Go.Proofs.YtdinkhhaomblcaaDoorW.PrintWords Go.Proofs.YtdinkhhaomblcaaDoorW.PrintLast Go.Proofs.YtdinkhhaomblcaaDoorW.PrintMore
theorem insA_split {a : Ad} : ∀ {l : List Ad} {k : Nat}, (∀ j y, j < k → l[j]? = some y → ltA y a = true) → k ≤ l.length → (∀ y, l[k]? = some y → ltA y a = false) → insA a l = l.take k ++ a :: l.drop k
  | [], k, _, hk, _ => by
    have : k = 0 := by simpa using hk
    subst this
    rfl
  | x :: l, 0, _, _, h2 => by
    have := h2 x rfl
    unfold insA
    rw [if_neg (by rw [this]; decide)]
    rfl
  | x :: l, k + 1, h1, hk, h2 => by
    have := h1 0 x (Nat.succ_pos k) rfl
    unfold insA
    rw [if_pos this, insA_split (l := l) (k := k) (fun j y hj hy => h1 (j + 1) y (by omega) (by simpa using hy)) (by simpa using hk) (fun y hy => h2 y (by simpa using hy))]
    rfl
attribute [-go_sem] loadVar Instr.buildSlice
attribute [local go_sem] lv3 lvSl bls_A
attribute [local go_sem ↓] Go.wp_at_zero Go.wp_at_succ
section
variable {w0 w : World} {Γ Δ : List Ob}
theorem St.adAt (h : St w0 w Γ) (i : Nat) {B : Option Addr} {n c : Nat} {l : List Ad} (hi : Γ[i]? = some (obAd (.slice B n c) l)) (k : Nat) (hk : k < l.length) : ∃ g, B = some ⟨g, 0, none⟩ ∧ w.rangeAt g (k * 17) (aL l[k]) := by
  obtain ⟨g, c', hv, he, _⟩ := RA_at (show kA.R _ _ _ _ _ _ from h.get i hi) k l[k] (List.getElem?_eq_getElem hk)
  injection hv with e1
  exact ⟨g, e1, he⟩
set_option maxHeartbeats 8000000 in
set_option maxRecDepth 100000 in
theorem put_raw (h : St w0 w Γ) (j : Nat) {A : Option Addr} {c : Nat} {l : List Ad} (hj : Γ[j]? = some (obAd (.slice A l.length c) l)) (hl : l.length ≤ 100) (a : Ad) :
    Calls Tryd.prog 33 #[.slice A l.length c, .agg (aV a)] w fun e w' => ∃ B c', e = .returned (.slice B (insA a l).length c') ∧ St w0 w' (obAd (.slice B (insA a l).length c') (insA a l) :: Γ) := by
  have hc := (Kd.R_reads' (h.get j hj)).2.1
  have HS := Lib.hid (h.boxF (aV a) 32)
  have HJ := Lib.hid hj
  obtain ⟨i0, hi0, hzz⟩ := Option.map_eq_some_iff.1 infoA
  simp only [Prod.mk.injEq] at hzz
  have hi1 := hzz.2.1
  have HI0 := Lib.hid (And.intro hi0 hi1)
  clear h hj hzz hi0 hi1
  go_enter Tryd.func33, Tryd.ntmps33
  go_wp2_with fail
  generalize w.alloc (.cells (aV a) 32) = W at HS ⊢
  generalize w.heap.size = b at HS ⊢
  go_loopw [5] (fun s5 wr => ∃ k : Nat, k ≤ l.length ∧ s5 = .int .i64 k ∧ Hid (St w0 wr (obB b (aV a) 32 :: Γ)) ∧ Hid (∀ j y, j < k → l[j]? = some y → ltA y a = true)) (fun s5 _ => l.length - (intOf s5).toNat)
  case atStart => exact ⟨0, Nat.zero_le _, rfl, HS, Lib.hid fun j y hj => absurd hj (Nat.not_lt_zero _)⟩
  case round =>
    clear HS
    obtain ⟨k, hk, rfl, HS, HN⟩ := hrel
    have hk0 : (0 : Int) ≤ (k : Int) := by omega
    have HCT : Hid (∀ W, St w0 W (obB b (aV a) 32 :: Γ) → kA.C W A k (l.take k)) := Lib.hid fun W h => by
      have := Kd.C_take (m := k) (Kd.R_reads' (h.get (j + 1) (by rw [List.getElem?_cons_succ]; exact HJ.out))).2.2 hk
      rw [List.length_take, Nat.min_eq_left hk] at this
      exact this
    obtain ⟨AD, hAD⟩ : ∃ AD, (if c = k then A else A.map (·.add (k * kA.sz))) = AD := ⟨_, rfl⟩
    have HC2 : Hid (∀ W o, St w0 W (o :: obB b (aV a) 32 :: Γ) → kA.C W AD (l.length - k) (l.drop k)) := Lib.hid fun W o h => by
      have := Kd.C_drop (m := k) (Kd.R_reads' (h.get (j + 2) (by rw [List.getElem?_cons_succ, List.getElem?_cons_succ]; exact HJ.out))).2.2 hk hc
      rw [List.length_drop, hAD] at this
      exact this
    have hs1 := cut_to (P := Tryd.prog) 42 32 .i64 Tryd.underlying42 HI0.out.1 A l.length c (k : Int) hk0 (by omega) hc
    have hs2 := cut_from (P := Tryd.prog) 42 32 .i64 Tryd.underlying42 HI0.out.1 kA.sz HI0.out.2 A l.length c (k : Int) hk0 (by omega)
    rw [Int.toNat_natCast] at hs1 hs2
    rw [hAD] at hs2
    have HL1 : Hid ((l.take k).length = k) := Lib.hid (by rw [List.length_take]; omega)
    have HIN0 : Hid ((∀ y, l[k]? = some y → ltA y a = false) → (l.take k ++ [a]) ++ l.drop k = insA a l) := Lib.hid fun h => by rw [insA_split HN.out hk h, List.append_assoc]; rfl
    clear hAD
    by_cases hkt : k < l.length
    · have hkz : (k : Int) < (l.length : Int) := by omega
      obtain ⟨g, hA, -⟩ := HS.out.adAt (j + 1) (by rw [List.getElem?_cons_succ]; exact HJ.out) k hkt
      have HRG : Hid (∀ W', St w0 W' (obB b (aV a) 32 :: Γ) → W'.rangeAt g (k * 17) (aL l[k]) ∧ W'.rangeAt b 0 (aL a)) := Lib.hid fun W' h => by
        obtain ⟨g', hA', hr⟩ := h.adAt (j + 1) (by rw [List.getElem?_cons_succ]; exact HJ.out) k hkt
        obtain rfl : g = g' := by rw [hA] at hA'; injection hA' with e; injection e
        exact ⟨hr, range_A (h.get 0 rfl)⟩
      have HNX : Hid (ltA l[k] a = true → ∀ j y, j < k + 1 → l[j]? = some y → ltA y a = true) := Lib.hid fun e j y hj hy => by
        rcases Nat.lt_or_eq_of_le (Nat.le_of_lt_succ hj) with h1 | rfl
        · exact HN.out j y h1 hy
        · rw [List.getElem?_eq_getElem hkt] at hy
          obtain rfl := Option.some.inj hy
          exact e
      have HST : Hid (ltA l[k] a = false → ∀ y, l[k]? = some y → ltA y a = false) := Lib.hid fun e y hy => by
        rw [List.getElem?_eq_getElem hkt] at hy
        obtain rfl := Option.some.inj hy
        exact e
      obtain ⟨q, hq⟩ : ∃ q, ltA l[k] a = q := ⟨_, rfl⟩
      have HLT := Lib.hid fun W => rless_calls l[k] a W
      rw [hq] at HLT HNX HST
      have HA := Lib.hid hA
      clear hq HN
      generalize l[k] = y at *
      have hLD1 : ∀ W : World, W.rangeAt g (k * 17) (aL y) → (loadVar 32 ⟨g, k * 17, none⟩).run Tryd.prog W = .ok (.agg (aV y)) W := fun W h => lvA h
      have hLD2 : ∀ W : World, W.rangeAt b 0 (aL a) → (loadVar 32 ⟨b, 0, none⟩).run Tryd.prog W = .ok (.agg (aV a)) W := fun W h => lvA h
      subst hA
      go_wp2_with fail
      go_region_held3 (fun W' => W'.rangeAt g (k * 17) (aL y) ∧ W'.rangeAt b 0 (aL a)) (first | exact HRG.out _ HS.out | exact HRG.out _ HS.out.drew)
        (first
          | (go_at_call 50; refine (HLT.out _).mono ?_; rintro e w2 ⟨rfl, hb2⟩; first | (have HS := Lib.hid (HS.out.drew.below hb2); clear hb2) | (have HS := Lib.hid (HS.out.below hb2); clear hb2)))
      cases q with
      | true =>
        go_wp2_with fail
        go_roundw
        case rel => exact ⟨k + 1, by omega, by go_num, HS, Lib.hid (HNX.out rfl)⟩
        case measure => simp [intOf]; omega
      | false =>
        have HIN := Lib.hid (HIN0.out (HST.out rfl))
        go_wp2_with (first
          | (have _g := HS4; at_builtin; go_must (refine wpList_append_rows_St kA HS4.out 0 rfl rfl (.tmp 30) (.tmp 33) 42 (.agg (aV (zA 0))) 24 rfl Tryd.underlying42 infoA (aV_size _) (by decide) (by decide) (l.drop k) AD (l.length - k) (c - k) rfl rfl (HC2.out _ _ HS4.out) (by rw [List.length_append, HL1.out]; simp only [List.length_singleton]; omega) ?_; intro v1 w5 hv1 HS5; rw [HIN.out] at hv1 HS5; obtain ⟨B2, c2, rfl⟩ := hv1.out; have HS6 : Hid (St w0 w5 (obAd (.slice B2 (insA a l).length c2) (insA a l) :: obB b (aV a) 32 :: Γ)) := HS5; clear hv1 HS5))
          | (have _g := HS3; at_builtin; go_must (refine wpList_append_St kA HS3.out 0 rfl rfl (.tmp 26) (.tmp 28) 42 (.agg (aV (zA 0))) 24 rfl Tryd.underlying42 infoA (aV_size _) (by decide) (by decide) a (aL a) rfl rfl rfl (by rw [HL1.out]; omega) ?_; intro v1 w4 hg HS4; rw [HL1.out] at hg; obtain ⟨X1, c4, rfl⟩ := hg.out.slice; clear hg))
          | (at_builtin; go_must (refine wpList_append_new_St kA flA HS.out rfl (.tmp 21) (.tmp 24) 42 (.agg (aV (zA 0))) 24 rfl Tryd.underlying42 infoA (aV_size _) (by decide) (by decide) (l.take k) _ k c rfl rfl (HCT.out _ HS.out) (by omega) ?_; intro v1 w3 hv1 HS2; rw [HL1.out] at hv1; obtain ⟨B1, c1, rfl⟩ := hv1.out; have HS3 : Hid (St w0 w3 (obAd (.slice B1 k c1) (l.take k) :: obB b (aV a) 32 :: Γ)) := Lib.hid HS2.out.front1; clear hv1 HS2))
          | (refine gate_ (.load 32 (.tmp 3)) rfl ?_; go_must (refine ld_A (.tmp 3) rfl rfl (range_A (HS3.out.get 1 rfl)) rfl ?_)))
        go_ret
        exact ⟨B2, c2, rfl, HS6.out.sub (List.Sublist.cons_cons _ (List.sublist_cons_self _ _))⟩
    · have hkz : ¬ (k : Int) < (l.length : Int) := by omega
      have HIN := Lib.hid (HIN0.out fun y hy => absurd (List.getElem?_eq_some_iff.1 hy).1 hkt)
      have HSd : Hid (∀ n, St w0 (wr.drewN n) (obB b (aV a) 32 :: Γ)) := Lib.hid fun n => HS.out.drewN n
      go_wp2_with fail
      go_quiet (fail)
      go_wp2_with (first
        | (have _g := HS4; at_builtin; go_must (refine wpList_append_rows_St kA HS4.out 0 rfl rfl (.tmp 30) (.tmp 33) 42 (.agg (aV (zA 0))) 24 rfl Tryd.underlying42 infoA (aV_size _) (by decide) (by decide) (l.drop k) AD (l.length - k) (c - k) rfl rfl (HC2.out _ _ HS4.out) (by rw [List.length_append, HL1.out]; simp only [List.length_singleton]; omega) ?_; intro v1 w5 hv1 HS5; rw [HIN.out] at hv1 HS5; obtain ⟨B2, c2, rfl⟩ := hv1.out; have HS6 : Hid (St w0 w5 (obAd (.slice B2 (insA a l).length c2) (insA a l) :: obB b (aV a) 32 :: Γ)) := HS5; clear hv1 HS5))
        | (have _g := HS3; at_builtin; go_must (refine wpList_append_St kA HS3.out 0 rfl rfl (.tmp 26) (.tmp 28) 42 (.agg (aV (zA 0))) 24 rfl Tryd.underlying42 infoA (aV_size _) (by decide) (by decide) a (aL a) rfl rfl rfl (by rw [HL1.out]; omega) ?_; intro v1 w4 hg HS4; rw [HL1.out] at hg; obtain ⟨X1, c4, rfl⟩ := hg.out.slice; clear hg))
        | (at_builtin; go_must (refine wpList_append_new_St kA flA (HSd.out _) rfl (.tmp 21) (.tmp 24) 42 (.agg (aV (zA 0))) 24 rfl Tryd.underlying42 infoA (aV_size _) (by decide) (by decide) (l.take k) _ k c rfl rfl (HCT.out _ (HSd.out _)) (by omega) ?_; intro v1 w3 hv1 HS2; rw [HL1.out] at hv1; obtain ⟨B1, c1, rfl⟩ := hv1.out; have HS3 : Hid (St w0 w3 (obAd (.slice B1 k c1) (l.take k) :: obB b (aV a) 32 :: Γ)) := Lib.hid HS2.out.front1; clear hv1 HS2))
        | (refine gate_ (.load 32 (.tmp 3)) rfl ?_; go_must (refine ld_A (.tmp 3) rfl rfl (range_A (HS3.out.get 1 rfl)) rfl ?_)))
      go_ret
      exact ⟨B2, c2, rfl, HS6.out.sub (List.Sublist.cons_cons _ (List.sublist_cons_self _ _))⟩
set_option maxHeartbeats 8000000 in
theorem rall_raw (x : RcSt) (h : St w0 w (x.G ++ Δ)) (hl : x.L.length ≤ 100) :
    Calls Tryd.prog 15 #[.pointer (some ⟨x.p, 0, none⟩)] w fun e w' => ∃ B c', e = .returned (.slice B (allL x.L x.L.length).length c') ∧ St w0 w' (obAd (.slice B (allL x.L x.L.length).length c') (allL x.L x.L.length) :: (x.G ++ Δ)) := by
  obtain ⟨p, B, c, E, A, last, L⟩ := x
  replace hl : L.length ≤ 100 := hl
  show Calls Tryd.prog _ #[.pointer (some ⟨p, 0, none⟩)] w fun e w' => ∃ B' c', e = .returned (.slice B' (allL L L.length).length c') ∧ St w0 w' (obAd (.slice B' (allL L L.length).length c') (allL L L.length) :: (RcSt.G ⟨p, B, c, E, A, last, L⟩ ++ Δ))
  have HS0 : Hid (St w0 w (obAd (.slice none (allL L 0).length 0) (allL L 0) :: (RcSt.G ⟨p, B, c, E, A, last, L⟩ ++ Δ))) := Lib.hid ((h.newW (d := kA) (e := 32) flA).front1)
  clear h
  go_enter Tryd.func15, Tryd.ntmps15
  go_wp2_with fail
  go_loopw [3, 4] (fun v s4 wr => ∃ (k : Nat) (B' : Option Addr) (c' : Nat), k ≤ L.length ∧ s4 = .int .i64 k ∧ v = .slice B' (allL L k).length c' ∧ Hid (St w0 wr (obAd (.slice B' (allL L k).length c') (allL L k) :: (RcSt.G ⟨p, B, c, E, A, last, L⟩ ++ Δ)))) (fun _ s4 _ => L.length - (intOf s4).toNat)
  case atStart => exact ⟨0, none, 0, Nat.zero_le _, rfl, rfl, HS0⟩
  case round =>
    clear HS0
    obtain ⟨k, B', c', hk, rfl, rfl, HS⟩ := hrel
    have hk0 : (0 : Int) ≤ (k : Int) := by omega
    have c2 : wr.cell? ⟨p, 2, none⟩ = some (.slice B L.length c) := HS.out.cellB 1 rfl 2 rfl
    by_cases hkt : k < L.length
    · have hkz : (k : Int) < (L.length : Int) := by omega
      obtain ⟨g, rfl, he⟩ := HS.out.en 2 rfl k hkt
      have HR := Lib.hid he.a
      have HPT := Lib.hid (put_raw HS.out 0 rfl (by rw [all_len L hk]; omega) L[k].1)
      rw [← all_step hkt] at HPT
      clear he
      generalize L[k].1 = y at *
      go_wp2_with (first
        | (refine gate_ (.load 32 (.tmp 21)) rfl ?_; go_must (refine ld_A (.tmp 21) rfl rfl HR.out rfl ?_))
        | (go_at_call 33; refine HPT.out.mono ?_; rintro e w2 ⟨B2, c2, rfl, hs⟩; have HS2 := Lib.hid (hs.sub (List.Sublist.cons_cons _ (List.sublist_cons_self _ _))); clear hs))
      go_roundw
      case rel => exact ⟨k + 1, B2, c2, by omega, by go_num, rfl, HS2⟩
      case measure => simp [intOf]; omega
    · obtain rfl : k = L.length := by omega
      have hkz : ¬ (L.length : Int) < (L.length : Int) := by omega
      go_wp2_with fail
      go_ret
      exact ⟨B', c', rfl, HS.out⟩
end
end Go.Proofs.YtdinkhhaomblcaaDoor.SL
