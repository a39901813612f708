/- The reference wheel's At, least, Next, New. No condition but sizes. -/
import Derived.Test.YtadhceoaoopcjaaR1
namespace Go.Proofs.Ytadhceoaoopcjaa.SL
open Go.RowKit Go.Proofs.YtadhceoaoopcjaaW.PrintWords Go.Proofs.YtadhceoaoopcjaaW.PrintLast Go.Proofs.YtadhceoaoopcjaaW.PrintMore
theorem RT_at {w : World} {base : Nat} {v : Value} {l : List Du} {ok : Nat → Prop} (h : kD.R 97 w base ok v l) (k : Nat) (x : Du) (hk : l[k]? = some x) :
    ∃ g c, v = .slice (some ⟨g, 0, none⟩) l.length c ∧ w.cell? ⟨g, k * 3, none⟩ = some (.int .i64 x.id) ∧ w.cell? ⟨g, k * 3 + 1, none⟩ = some (.int .i64 x.t) ∧ w.cell? ⟨g, k * 3 + 2, none⟩ = some (.int .i64 x.x) := by
  have hkl := (List.getElem?_eq_some_iff.1 hk).1
  obtain ⟨inner, ho⟩ := Kd.R_own h
  obtain ⟨g, cap, hv, _, _⟩ := ho.form (by omega)
  obtain ⟨A, c, hv2, hc, hC⟩ := Kd.R_reads h
  rw [hv] at hv2
  injection hv2 with e1 e2 e3
  subst e1 e3
  obtain ⟨ad, cs, hA, _, hK, hcs⟩ := Kd.C_get hC x (k : Int) (by omega) (by omega)
  obtain rfl : ad = ⟨g, 0, none⟩ := (Option.some.inj hA).symm
  obtain rfl : cs = dL (l.getD (k : Int).toNat x) := hK
  rw [Int.toNat_natCast, List.getD_eq_getElem?_getD, hk] at hcs
  have hadd : ∀ i, (⟨g, 0, none⟩ : Addr).add i = ⟨g, i, none⟩ := fun i => by unfold Addr.add; split <;> simp_all
  refine ⟨g, cap, hv, ?_, ?_, ?_⟩
  · have := hcs 0 _ rfl
    rw [hadd] at this
    exact this
  · have := hcs 1 _ rfl
    rw [hadd] at this
    exact this
  · have := hcs 2 _ rfl
    rw [hadd] at this
    exact this
section
variable {w0 w : World} {Γ Δ : List Ob}
theorem St.cellT (h : St w0 w Γ) (i : Nat) {A : Option Addr} {n c : Nat} {l : List Du} (hi : Γ[i]? = some (obTi (.slice A n c) l)) (k : Nat) (y : Du) (hk : l[k]? = some y) :
    ∃ g, A = some ⟨g, 0, none⟩ ∧ w.cell? ⟨g, k * 3, none⟩ = some (.int .i64 y.id) ∧ w.cell? ⟨g, k * 3 + 1, none⟩ = some (.int .i64 y.t) ∧ w.cell? ⟨g, k * 3 + 2, none⟩ = some (.int .i64 y.x) := by
  obtain ⟨g, c', hv, h0, h1, h2⟩ := RT_at (show kD.R _ _ _ _ _ _ from h.get i hi) k y hk
  injection hv with e1 e2 e3
  exact ⟨g, e1, h0, h1, h2⟩
theorem find_hit {s : Wh} (h : WOk s) {y : Du} (hy : y ∈ s.L) : findW s y.id = some y := by
  cases hf : findW s y.id with
  | none => exact absurd rfl (findW_none hf y hy)
  | some d =>
    obtain ⟨hd, e⟩ := findW_some hf
    rw [h.one hd hy e]
set_option maxHeartbeats 4000000 in
theorem rat_raw (x : RSt) (hk : WOk x.s) (h : St w0 w (x.G ++ Δ)) (id : Int) : Calls Try.prog 42 #[.pointer (some ⟨x.p, 0, none⟩), .int .i64 id] w fun e w' => e = .returned (.tuple #[.int .i64 (((findW x.s id).map (·.t)).getD 0), .bool (findW x.s id).isSome]) ∧ w' = w := by
  obtain ⟨c0, c1, c2⟩ := RSt.cells h
  obtain ⟨p, A, c, s⟩ := x
  have HK := Lib.hid hk
  have H := Lib.hid h
  have hl : s.L.length ≤ 4096 := hk.len
  replace c2 : w.cell? ⟨p, 2, none⟩ = some (.slice A s.L.length c) := c2
  obtain ⟨L, hL⟩ : ∃ L, s.L = L := ⟨_, rfl⟩
  have HL := Lib.hid hL
  rw [hL] at c2 hl
  obtain ⟨r, hr⟩ : ∃ r, findW s id = r := ⟨_, rfl⟩
  show Calls Try.prog _ #[.pointer (some ⟨p, 0, none⟩), .int .i64 id] w fun e w' => e = .returned (.tuple #[.int .i64 (((findW s id).map (·.t)).getD 0), .bool (findW s id).isSome]) ∧ w' = w
  have HR := Lib.hid hr
  rw [hr]
  clear h hk c0 c1 hL hr
  go_enter Try.func42, Try.ntmps42
  go_wp2
  go_loop [6] (fun s6 => ∃ k : Nat, k ≤ L.length ∧ s6 = .int .i64 k ∧ Hid (∀ j y, j < k → L[j]? = some y → y.id ≠ id)) (fun s6 => L.length - (intOf s6).toNat)
  case atStart => exact ⟨0, Nat.zero_le _, rfl, Lib.hid fun j y hj => absurd hj (Nat.not_lt_zero _)⟩
  case round =>
    obtain ⟨k, hkl, rfl, HN⟩ := hrel
    have hk0 : (0 : Int) ≤ (k : Int) := by omega
    by_cases hkt : k < L.length
    · have hkz : (k : Int) < (L.length : Int) := by omega
      have HY : Hid (L[k]? = some L[k]) := Lib.hid (List.getElem?_eq_getElem hkt)
      obtain ⟨g, rfl, y0, y1, y2⟩ := H.out.cellT 1 rfl k L[k] (by rw [HL.out]; exact HY.out)
      have HM : Hid (L[k] ∈ L) := Lib.hid (List.getElem_mem hkt)
      generalize L[k] = y at *
      by_cases he : y.id = id
      · have hb : (y.id == id) = true := by simpa using he
        have hfind : r = some y := by rw [← HR.out, ← he]; exact find_hit HK.out (by rw [HL.out]; exact HM.out)
        have HF := Lib.hid hfind
        clear hfind he
        go_wp2
        go_ret2
        rw [HF.out]
        exact ⟨rfl, rfl⟩
      · have hb : (y.id == id) = false := by simpa using he
        have HE := Lib.hid he
        clear he
        go_wp2
        go_round
        case rel => exact ⟨k + 1, by omega, by go_num, Lib.hid fun j u hj hu => by
          rcases Nat.lt_or_eq_of_le (Nat.le_of_lt_succ hj) with h1 | rfl
          · exact HN.out j u h1 hu
          · obtain rfl : y = u := Option.some.inj (HY.out.symm.trans hu)
            exact HE.out⟩
        case measure => simp [intOf]; omega
    · obtain rfl : k = L.length := by omega
      have hkz : ¬ (L.length : Int) < (L.length : Int) := by omega
      have hfind : r = none := by
        rw [← HR.out]
        refine find_none fun d hd e => ?_
        rw [HL.out] at hd
        obtain ⟨j, hj, rfl⟩ := List.getElem_of_mem hd
        exact HN.out j _ hj (List.getElem?_eq_getElem hj) e
      have HF := Lib.hid hfind
      clear hfind
      go_wp2
      go_ret2
      rw [HF.out]
      exact ⟨rfl, rfl⟩
set_option maxHeartbeats 4000000 in
theorem least_raw (x : RSt) (hk : x.s.L.length ≤ 4096) (h : St w0 w (x.G ++ Δ)) : Calls Try.prog 52 #[.pointer (some ⟨x.p, 0, none⟩)] w fun e w' => e = .returned (.int .i64 (bestI x.s.L x.s.L.length)) ∧ Below w.heap.size w w' := by
  obtain ⟨p, A, c, s⟩ := x
  have hl : s.L.length ≤ 4096 := hk
  have H := Lib.hid h
  obtain ⟨L, hL⟩ : ∃ L, s.L = L := ⟨_, rfl⟩
  have HL := Lib.hid hL
  have HC : Hid (∀ W, Below w.heap.size w W → W.cell? ⟨p, 2, none⟩ = some (.slice A L.length c)) := Lib.hid fun W hb => by
    have := (RSt.cells (H.out.below hb)).2.2
    rw [← hL]
    exact this
  rw [hL] at hl
  have c2 := HC.out w (Below.refl _ _)
  show Calls Try.prog _ #[.pointer (some ⟨p, 0, none⟩)] w fun e w' => e = .returned (.int .i64 (bestI s.L s.L.length)) ∧ Below w.heap.size w w'
  rw [hL]
  clear h hk hL
  have HB : Hid (Below w.heap.size w w) := Lib.hid (Below.refl _ _)
  go_enter Try.func52, Try.ntmps52
  go_wp2_with fail
  go_loopw [3, 4] (fun s3 s4 wr => ∃ k : Nat, k ≤ L.length ∧ s4 = .int .i64 k ∧ s3 = .int .i64 (bestI L k) ∧ Hid (Below w.heap.size w wr)) (fun _ s4 _ => L.length - (intOf s4).toNat)
  case atStart => exact ⟨0, Nat.zero_le _, rfl, rfl, HB⟩
  case round =>
    clear HB c2
    obtain ⟨k, hkl, rfl, rfl, HB⟩ := hrel
    have hk0 : (0 : Int) ≤ (k : Int) := by omega
    have c2 := HC.out wr HB.out
    by_cases hkt : k < L.length
    · have hkz : (k : Int) < (L.length : Int) := by omega
      obtain ⟨r1, r2, r3⟩ := bestI_rng L k
      have hbs : bestI L (k + 1) = if bestI L k < 0 ∨ (L.getD k ⟨0, 0, 0⟩).t < (L.getD (bestI L k).toNat ⟨0, 0, 0⟩).t then (k : Int) else bestI L k := rfl
      have HBS := Lib.hid hbs
      obtain ⟨yk, hyk⟩ : ∃ y, L[k]? = some y := ⟨L[k], List.getElem?_eq_getElem hkt⟩
      have hgk : L.getD k ⟨0, 0, 0⟩ = yk := by rw [List.getD_eq_getElem?_getD, hyk]; rfl
      rw [hgk] at HBS
      generalize hb : bestI L k = b at *
      clear hbs
      by_cases hneg : b < 0
      · rw [if_pos (.inl hneg)] at HBS
        have d2 := HC.out _ HB.out.drew
        clear hyk hgk r1 r2 r3 hb
        go_wp2_with fail
        go_region
        go_wp2_with fail
        go_roundw
        case rel => exact ⟨k + 1, by omega, by go_num, by rw [HBS.out], Lib.hid HB.out.drew⟩
        case measure => simp [intOf]; omega
      · obtain ⟨B, rfl⟩ : ∃ B : Nat, b = (B : Int) := ⟨b.toNat, by omega⟩
        rw [Int.toNat_natCast] at HBS
        have hBl : B < L.length := by omega
        obtain ⟨yb, hyb⟩ : ∃ y, L[B]? = some y := ⟨L[B], List.getElem?_eq_getElem hBl⟩
        have hgb : L.getD B ⟨0, 0, 0⟩ = yb := by rw [List.getD_eq_getElem?_getD, hyb]; rfl
        rw [hgb] at HBS
        have HT : Hid (∀ W, Below w.heap.size w W → ∃ g, A = some ⟨g, 0, none⟩ ∧ W.cell? ⟨g, k * 3 + 1, none⟩ = some (.int .i64 yk.t) ∧ W.cell? ⟨g, B * 3 + 1, none⟩ = some (.int .i64 yb.t)) := Lib.hid fun W hW => by
          obtain ⟨g, e, _, q1, _⟩ := (H.out.below hW).cellT 1 rfl k yk (by rw [HL.out]; exact hyk)
          obtain ⟨g', e', _, q2, _⟩ := (H.out.below hW).cellT 1 rfl B yb (by rw [HL.out]; exact hyb)
          obtain rfl : g = g' := by rw [e] at e'; injection e' with e'; injection e'
          exact ⟨g, e, q1, q2⟩
        obtain ⟨g, rfl, f1, f2⟩ := HT.out wr HB.out
        have HF : Hid (∀ W, Below w.heap.size w W → W.cell? ⟨p, 2, none⟩ = some (.slice (some ⟨g, 0, none⟩) L.length c) ∧ W.cell? ⟨g, k * 3 + 1, none⟩ = some (.int .i64 yk.t) ∧ W.cell? ⟨g, B * 3 + 1, none⟩ = some (.int .i64 yb.t)) := Lib.hid fun W hW => by
          obtain ⟨g', e', f3, f4⟩ := HT.out W hW
          obtain rfl : g = g' := by injection e' with e'; injection e'
          exact ⟨HC.out W hW, f3, f4⟩
        have hB0 : (0 : Int) ≤ (B : Int) := by omega
        have hBz : (B : Int) < (L.length : Int) := by omega
        clear HT hyk hgk hyb hgb r1 r2 r3 hb hneg hBl f1 f2
        by_cases hlt : yk.t < yb.t
        · rw [if_pos (.inr hlt)] at HBS
          go_wp2_with fail
          go_region_held3 (fun W => W.cell? ⟨p, 2, none⟩ = some (.slice (some ⟨g, 0, none⟩) L.length c) ∧ W.cell? ⟨g, k * 3 + 1, none⟩ = some (.int .i64 yk.t) ∧ W.cell? ⟨g, B * 3 + 1, none⟩ = some (.int .i64 yb.t)) (first | exact HF.out _ HB.out | exact HF.out _ HB.out.drew) (fail)
          go_wp2_with fail
          go_roundw
          case rel => exact ⟨k + 1, by omega, by go_num, by rw [HBS.out], Lib.hid HB.out.drew⟩
          case measure => simp [intOf]; omega
        · rw [if_neg (by omega)] at HBS
          go_wp2_with fail
          go_region_held3 (fun W => W.cell? ⟨p, 2, none⟩ = some (.slice (some ⟨g, 0, none⟩) L.length c) ∧ W.cell? ⟨g, k * 3 + 1, none⟩ = some (.int .i64 yk.t) ∧ W.cell? ⟨g, B * 3 + 1, none⟩ = some (.int .i64 yb.t)) (first | exact HF.out _ HB.out | exact HF.out _ HB.out.drew) (fail)
          go_wp2_with fail
          go_roundw
          case rel => exact ⟨k + 1, by omega, by go_num, by rw [HBS.out], Lib.hid HB.out.drew⟩
          case measure => simp [intOf]; omega
    · obtain rfl : k = L.length := by omega
      have hkz : ¬ (L.length : Int) < (L.length : Int) := by omega
      go_wp2_with fail
      go_ret
      exact ⟨rfl, HB.out⟩
end
end Go.Proofs.Ytadhceoaoopcjaa.SL
