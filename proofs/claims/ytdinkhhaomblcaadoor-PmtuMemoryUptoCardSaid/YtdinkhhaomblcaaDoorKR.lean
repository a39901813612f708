/- What a pair of watches keeps while much is heard, in plain Lean. No program in sight. -/
import Derived.Test.YtdinkhhaomblcaaDoorKO
import Derived.Test.YtdinkhhaomblcaaDoorKJ
namespace Go.Proofs.YtdinkhhaomblcaaDoor.SL
open Go.RowKit Go.Proofs.YtdinkhhaomblcaaDoorW.PrintWords Go.Proofs.YtdinkhhaomblcaaDoorW.PrintLast Go.Proofs.YtdinkhhaomblcaaDoorW.PrintMore
theorem room_len {E A first now k : Int} {c : Ca} (h : WI E A first now c k) (a : Ad) (v : Bel) : ((putM (roomM c a) a v).length : Int) = if (lookM c.M a).isNone ∧ (c.M.length : Int) < E then (c.M.length : Int) + 1 else c.M.length := by
  have hE := h.e
  have hlen := h.ok.len
  have hE1 := h.ok.e1
  unfold roomM
  by_cases hn : (lookM c.M a).isNone
  · by_cases hr : (c.M.length : Int) < E
    · rw [if_neg (fun e => absurd e.2 (by omega)), len_put, if_pos hn, if_pos ⟨hn, hr⟩]
      omega
    · rw [if_pos ⟨hn, by omega⟩, len_put, if_neg (fun e => hr e.2 : ¬ ((lookM c.M a).isNone = true ∧ (c.M.length : Int) < E))]
      have hf := forget_len h.ok (by omega)
      have hz : (lookM (forgetS c) a).isNone := by
        cases hl : lookM (forgetS c) a with
        | none => rfl
        | some x =>
          have hm := (look_mem (nd_del h.ok.nd _)).1 hl
          have := (mem_del h.ok.nd _).1 hm
          have h2 := (look_mem h.ok.nd).2 this.1
          rw [h2] at hn
          cases hn
      rw [if_pos hz]
      omega
  · rw [if_neg (fun e => hn e.1), len_put, if_neg hn, if_neg (fun e => hn e.1)]
/-- A Hear leaves no fewer. -/
theorem WI.hearLen {E A first now nw k : Int} {c : Ca} (h : WI E A first now c k) (h1 : now ≤ nw) (h2 : nw ≤ 1099511627776) {n : Int} (hn : 0 ≤ n ∧ n < 12) (m l : Int) :
    ∃ f c', hearS c (dstA n) first (meantS (dstA n) m l).1 (meantS (dstA n) m l).2 nw = (f, 0, c') ∧ WI E A first nw c' (k + 1) ∧ c.M.length ≤ c'.M.length := by
  obtain ⟨c', hr, hw, hM⟩ := h.hear h1 h2 hn m l
  refine ⟨_, c', hr, hw, ?_⟩
  split at hM
  · have := room_len h (dstA n) ⟨(meantS (dstA n) m l).1, first, nw, c.hrd + 1⟩
    rw [hM.1]
    split at this <;> omega
  · rw [hM.1]
    exact Nat.le_refl _
/-- The first watch: i destinations, heard once each. -/
structure MemW (c : Ca) (i : Nat) : Prop where
  w : WI 8 10 5280 0 c i
  l : c.M.length = i
  ky : ∀ x ∈ c.M, ∃ n : Int, (0 ≤ n ∧ n < i) ∧ x.1 = dstA n
theorem MemW.hear {c : Ca} {i : Nat} (h : MemW c i) (hi : i < 6) :
    ∃ f c', hearS c (dstA i) 5280 (meantS (dstA i) (1300 + (i : Int)) 0).1 (meantS (dstA i) (1300 + (i : Int)) 0).2 0 = (f, 0, c') ∧ MemW c' (i + 1) := by
  have hi12 : (0 : Int) ≤ (i : Int) ∧ (i : Int) < 12 := by omega
  obtain ⟨c', hr, hw, hM⟩ := h.w.hear (nw := 0) (by decide) (by decide) hi12 (1300 + (i : Int)) 0
  have hno : lookM c.M (dstA i) = none := by
    cases hl : lookM c.M (dstA i) with
    | none => rfl
    | some x =>
      have hm := (look_mem h.w.ok.nd).1 hl
      obtain ⟨n, hn, e⟩ := h.ky _ hm
      have := dst_inj hi12 ⟨hn.1, by omega⟩ e
      omega
  have he : estS c.M 5280 i = 5280 := by rw [h.w.est, hno]
  have hmr : meantS (dstA i) (1300 + (i : Int)) 0 = (1300 + (i : Int), true) := meant_room (by omega)
  have hlow : (meantS (dstA i) (1300 + (i : Int)) 0).2 = true ∧ (meantS (dstA i) (1300 + (i : Int)) 0).1 < estS c.M 5280 i := by
    rw [hmr, he]
    exact ⟨rfl, by show 1300 + (i : Int) < 5280; omega⟩
  rw [if_pos hlow] at hM
  refine ⟨_, c', hr, ⟨hw, ?_, ?_⟩⟩
  · have := room_len h.w (dstA i) ⟨(meantS (dstA i) (1300 + (i : Int)) 0).1, 5280, 0, c.hrd + 1⟩
    rw [if_pos ⟨by rw [hno]; rfl, by have := h.l; omega⟩] at this
    rw [hM.1]
    have := h.l
    omega
  · intro x hx
    rw [hM.1] at hx
    have hnd := (room_ok (v := ⟨(meantS (dstA i) (1300 + (i : Int)) 0).1, 5280, 0, c.hrd + 1⟩) h.w.ok (dstA i))
    rcases (mem_put hnd.1 x).1 hx with rfl | ⟨hx, _⟩
    · exact ⟨i, by omega, rfl⟩
    · obtain ⟨n, hn, e⟩ := h.ky x (hnd.2.1 x hx)
      exact ⟨n, by omega, e⟩
/-- The second watch: at least one. -/
structure MemV (c : Ca) (i : Nat) : Prop where
  w : WI 4 10 4280 0 c i
  l : i = 0 ∨ 1 ≤ c.M.length
theorem MemV.hear {c : Ca} {i : Nat} (h : MemV c i) (hi : i < 6) :
    ∃ f c', hearS c (dstA (2 * (i : Int))) 4280 (meantS (dstA (2 * (i : Int))) (1400 + (i : Int)) 0).1 (meantS (dstA (2 * (i : Int))) (1400 + (i : Int)) 0).2 0 = (f, 0, c') ∧ MemV c' (i + 1) := by
  have hi12 : (0 : Int) ≤ 2 * (i : Int) ∧ 2 * (i : Int) < 12 := by omega
  obtain ⟨c', hr, hw, hM⟩ := h.w.hear (nw := 0) (by decide) (by decide) hi12 (1400 + (i : Int)) 0
  refine ⟨_, c', hr, ⟨hw, .inr ?_⟩⟩
  have hmr : meantS (dstA (2 * (i : Int))) (1400 + (i : Int)) 0 = (1400 + (i : Int), true) := meant_room (by omega)
  split at hM
  · have := room_len h.w (dstA (2 * (i : Int))) ⟨(meantS (dstA (2 * (i : Int))) (1400 + (i : Int)) 0).1, 4280, 0, c.hrd + 1⟩
    rw [hM.1]
    by_cases h0 : 1 ≤ c.M.length
    · split at this <;> omega
    · have hn : (lookM c.M (dstA (2 * (i : Int)))).isNone = true := by
        cases hl : lookM c.M (dstA (2 * (i : Int))) with
        | none => rfl
        | some x =>
          have hm := (look_mem h.w.ok.nd).1 hl
          have := List.length_pos_of_mem hm
          omega
      rw [if_pos ⟨hn, by omega⟩] at this
      omega
  · rename_i hno
    rw [hM.1]
    rcases h.l with h0 | h0
    · refine absurd ?_ hno
      rw [hmr]
      refine ⟨rfl, ?_⟩
      rw [h.w.est]
      cases hl : lookM c.M (dstA (2 * (i : Int))) with
      | none => show 1400 + (i : Int) < 4280; omega
      | some x =>
        have hm := (look_mem h.w.ok.nd).1 hl
        have h3 := (h.w.ok.ent _ hm).2.2
        have := h.w.hr
        omega
    · exact h0
theorem keys_len' {E A first now k : Int} {c : Ca} (h : WI E A first now c k) : (ordS (c.M.map (·.1))).length = c.M.length := by
  rw [(ordS_spec h.ok.nd).2.length_eq, List.length_map]
/-- Two watches: which stands first. -/
theorem St.swapW {w0 w : World} {a1 b1 c1 g a2 b2 c2 : Ob} {Δ : List Ob} (h : St w0 w (a1 :: b1 :: c1 :: g :: a2 :: b2 :: c2 :: Δ)) : St w0 w (a2 :: b2 :: c2 :: g :: a1 :: b1 :: c1 :: Δ) := by
  refine h.perm ?_
  have h1 : List.Perm (([a1, b1, c1, g] ++ [a2, b2, c2]) ++ Δ) (([a2, b2, c2] ++ [a1, b1, c1, g]) ++ Δ) := List.perm_append_comm.append_right Δ
  have h2 : List.Perm ([a1, b1, c1] ++ g :: Δ) (g :: ([a1, b1, c1] ++ Δ)) := List.perm_middle
  exact (h1.trans ((h2.cons c2).cons b2 |>.cons a2)).symm
theorem St.perm3 (a1 b1 c1 g a2 b2 c2 : Ob) : List.Perm [a1, b1, c1, g, a2, b2, c2] [a2, b2, c2, a1, b1, c1, g] :=
  (List.perm_append_comm (l₁ := [a1, b1, c1, g]) (l₂ := [a2, b2, c2]))
/-- The lists, written full; then lengthened by m, those ahead of k by 80. -/
def mkW (j : Nat) : Ad := zA (-1 - (j : Int))
def mkM (j : Nat) : Ad := zA (-101 - (j : Int))
def fcA (ct : Nat → List Ad) (j : Nat) : List Ad := List.replicate (ct j).length (mkW j)
theorem fcA_len (ct : Nat → List Ad) (j : Nat) : (fcA ct j).length = (ct j).length := by simp [fcA]
theorem fcA_get (ct : Nat → List Ad) (j k : Nat) (h : k < (ct j).length) : (fcA ct j)[k]? = some (mkW j) := by simp [fcA, h]
def lgA (ct : Nat → List Ad) (k m j : Nat) : List Ad := fcA ct j ++ List.replicate (if j < k then 80 else if j = k then m else 0) (mkM j)
theorem lgA_zero (ct : Nat → List Ad) (n j : Nat) (h : j < n) : stC ct (fcA ct) n j = lgA ct 0 0 j := by
  rw [stC, if_pos h, lgA, if_neg (by omega)]
  split <;> simp
theorem lgA_next (ct : Nat → List Ad) (k j : Nat) : lgA ct k 80 j = lgA ct (k + 1) 0 j := by
  unfold lgA
  congr 2
  by_cases h1 : j < k
  · rw [if_pos h1, if_pos (by omega)]
  · rw [if_neg h1]
    by_cases h2 : j = k
    · rw [if_pos h2, if_pos (by omega)]
    · rw [if_neg h2, if_neg (by omega), ite_self]
theorem lgA_at (ct : Nat → List Ad) (k m : Nat) : lgA ct k m k = fcA ct k ++ List.replicate m (mkM k) := by
  unfold lgA
  rw [if_neg (by omega), if_pos rfl]
theorem lgA_step (ct : Nat → List Ad) (k m j : Nat) : lgA ct k (m + 1) j = if j = k then (fcA ct k ++ List.replicate m (mkM k)) ++ [mkM k] else lgA ct k m j := by
  by_cases h : j = k
  · subst h
    rw [if_pos rfl, lgA_at, List.append_assoc, rep_snoc]
  · rw [if_neg h]
    unfold lgA
    rw [if_neg h, if_neg h]
theorem lgA_len (ct : Nat → List Ad) (k m j : Nat) : (lgA ct k m j).length = (ct j).length + (if j < k then 80 else if j = k then m else 0) := by
  unfold lgA
  rw [List.length_append, fcA_len, List.length_replicate]
theorem lgA_lo (ct : Nat → List Ad) (n j k : Nat) (h : k < (ct j).length) : (lgA ct n 0 j)[k]? = some (mkW j) := by
  unfold lgA
  rw [List.getElem?_append_left (by rw [fcA_len]; exact h), fcA_get ct j k h]
theorem lgA_hi (ct : Nat → List Ad) (n j k : Nat) (hj : j < n) (h : (ct j).length ≤ k) (h2 : k < (ct j).length + 80) : (lgA ct n 0 j)[k]? = some (mkM j) := by
  unfold lgA
  rw [List.getElem?_append_right (by rw [fcA_len]; exact h), if_pos hj, List.getElem?_replicate, if_pos (by rw [fcA_len]; omega)]
/-- An address' version, in a list. -/
theorem cellAd {w : World} {A : Option Addr} {n : Nat} {l : List Ad} (hC : kA.C w A n l) (hn : n = l.length) (i : Nat) {x : Ad} (hx : l[i]? = some x) : ∃ ad, A = some ad ∧ w.cell? (ad.add (i * 17)) = some (.int .i64 x.v) := by
  subst hn
  have hi := (List.getElem?_eq_some_iff.1 hx).1
  obtain ⟨ad, c, hA, _, hK, hc⟩ := Kd.C_get hC x (i : Int) (by omega) (by omega)
  obtain rfl : c = aL (l.getD (i : Int).toNat x) := hK
  rw [Int.toNat_natCast, List.getD_eq_getElem?_getD, hx] at hc
  have := hc 0 _ rfl
  have h2 : w.cell? (ad.add (i * kA.sz)) = some (.int .i64 x.v) := by simpa using this
  exact ⟨ad, hA, h2⟩
theorem cellNum {w : World} {A : Option Addr} {n : Nat} {l : List Int} (hC : kI.C w A n l) (hn : n = l.length) (i : Nat) {x : Int} (hx : l[i]? = some x) : ∃ ad, A = some ad ∧ w.cell? (ad.add i) = some (.int .i64 x) := by
  subst hn
  have hi := (List.getElem?_eq_some_iff.1 hx).1
  obtain ⟨ad, c, hA, _, hK, hc⟩ := Kd.C_get hC x (i : Int) (by omega) (by omega)
  obtain rfl : c = [.int .i64 (l.getD (i : Int).toNat x)] := hK
  rw [Int.toNat_natCast, List.getD_eq_getElem?_getD, hx] at hc
  have := hc 0 _ rfl
  exact ⟨ad, hA, by simpa [Kd.int, Kd.scalar] using this⟩
theorem sizA17 : (Tryd.prog.info? 32).map (·.size) = some 17 := by kernel_rfl
theorem built_v (v : Int) : Tryd.prog.built 32 [(0, .int .i64 v)] = some (aV (zA v)) := by kernel_rfl
/-- The five lists stand as a family. -/
theorem fam5 (s0 s1 s2 s3 s4 : Hdr) (r0 r1 r2 r3 r4 : List Ad) : fam 5 (famL kA 32 flA [s0, s1, s2, s3, s4] (fun j => [r0, r1, r2, r3, r4].getD j [])) = [obAd (hv s0) r0, obAd (hv s1) r1, obAd (hv s2) r2, obAd (hv s3) r3, obAd (hv s4) r4] := rfl
end Go.Proofs.YtdinkhhaomblcaaDoor.SL
