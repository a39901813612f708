/- The watch: a piece of news is heard. No condition but sizes. -/
import Derived.Test.YtdinkhhaomblcaaDoorKC
import Derived.Test.YtdinkhhaomblcaaDoorRow
namespace Go.Proofs.YtdinkhhaomblcaaDoor.SL
open Go.RowKit Go.Proofs.YtdinkhhaomblcaaDoorW.PrintWords Go.Proofs.YtdinkhhaomblcaaDoorW.PrintLast Go.Proofs.YtdinkhhaomblcaaDoorW.PrintMore
theorem infoI : (Tryd.prog.info? 3).map (fun i => (i.zero, i.size, i.bytes)) = some (some (.int .i64 0), kI.sz, 8) := by kernel_rfl
theorem RI_at {w : World} {base : Nat} {v : Value} {l : List Int} {ok : Nat → Prop} (h : kI.R 3 w base ok v l) (k : Nat) (x : Int) (hk : l[k]? = some x) : ∃ g c, v = .slice (some ⟨g, 0, none⟩) l.length c ∧ w.cell? ⟨g, k, none⟩ = some (.int .i64 x) := by
  have hlt : k < l.length := (List.getElem?_eq_some_iff.1 hk).1
  obtain ⟨_, inner, hown, _⟩ := id h
  obtain ⟨A, c, e, hl, hC⟩ := Kd.R_reads h
  rcases hown.2 with ⟨e2, e0⟩ | ⟨g, cap, cur, e2, _, hg, _⟩
  · omega
  · rw [e] at e2
    injection e2 with e3 _ e5
    subst e3 e5
    obtain ⟨ad, cs, hA, hlen, hK, hc⟩ := Kd.C_get hC x (k : Int) (by omega) (by omega)
    obtain rfl : (⟨g, 0, none⟩ : Addr) = ad := by injection hA
    obtain rfl : cs = [.int .i64 (l.getD (k : Int).toNat x)] := hK
    refine ⟨g, c, e, ?_⟩
    have := hc 0 _ rfl
    rw [Int.toNat_natCast, add_plain, List.getD_eq_getElem?_getD, hk] at this
    simpa [Kd.int, Kd.scalar] using this
/-- The number of a destination. -/
def dN (d : Int) : Int := (uI d).tmod 12
theorem dN_rng (d : Int) : 0 ≤ dN d ∧ dN d < 12 := tm_range (uI_pos d) (by decide)
theorem dN_id {k : Int} (h : 0 ≤ k ∧ k < 12) : dN k = k := by
  unfold dN uI
  simp only [IntKind.wrap, IntKind.bits, IntKind.signed]
  rw [Int.tmod_eq_emod_of_nonneg (by simp; omega)]
  simp
  omega
theorem St.newHd {w0 w : World} {Δ : List Ob} {a b c g x : Ob} (h : St w0 w (a :: b :: c :: g :: x :: Δ)) : St w0 w (a :: x :: c :: g :: Δ) := by
  have h1 : St w0 w (a :: c :: g :: x :: Δ) := h.sub ((List.sublist_cons_self b (c :: g :: x :: Δ)).cons_cons a)
  exact h1.perm ((((List.Perm.swap c x (g :: Δ))).trans ((List.Perm.swap g x Δ).cons c)).cons a)
section
variable {w0 w : World} {Δ : List Ob} {wp p b : Nat} {E A first now : Int} {hv : Value} {hd : List Int} {c : Ca}
set_option maxHeartbeats 8000000 in
set_option maxRecDepth 100000 in
theorem c_hears (h : St w0 w (Wat wp p b E A first now hv hd c Δ)) (hk : OkC c) (hh : c.hrd < 4000000000000000000) (x : Nw) (hx : -9223372036854775808 ≤ x.t ∧ x.t ≤ 9223372036854775807) (hn : 0 ≤ now ∧ now ≤ 1000000000000) (hdl : hd.length < 100000) {f : Bool} {c' : Ca}
    (hr : hearS c (dstA (dN x.d)) first (meantS (dstA (dN x.d)) x.m x.l).1 (meantS (dstA (dN x.d)) x.m x.l).2 (nxt now x.t) = (f, 0, c')) :
    Calls Tryd.prog 20 #[.pointer (some ⟨wp, 0, none⟩), .agg (nL x).toArray] w fun e w' => ∃ hv' hd', e = .returned (.tuple #[.int .i64 (dN x.d), .bool f, .bool true]) ∧ hd'.length ≤ hd.length + 1 ∧ St w0 w' (Wat wp p b E A first (nxt now x.t) hv' hd' c' Δ) := by
  obtain ⟨Ah, ch, hhv, _⟩ := Kd.R_reads (show kI.R 3 w 0 (fun _ => True) hv hd from h.get 1 rfl)
  subst hhv
  have HBX := Lib.hid (St.inW (h.boxF (nL x).toArray 55))
  have HK := Lib.hid (And.intro hk hh)
  have HX := Lib.hid hx
  have HN := Lib.hid hn
  obtain ⟨kd, hkd, ka, kb⟩ : ∃ k : Int, (IntKind.u64.wrap x.d).tmod 12 = k ∧ 0 ≤ k ∧ k < 12 := ⟨_, rfl, dN_rng x.d⟩
  have HD : Hid (dN x.d = kd) := Lib.hid hkd
  rw [HD.out] at hr ⊢
  have HR := Lib.hid hr
  obtain ⟨nw, hnw⟩ : ∃ nw : Int, nxt now x.t = nw := ⟨_, rfl⟩
  have HW := Lib.hid hnw
  rw [hnw] at HR ⊢
  have hdl' : (hd.length : Int) < 100000 := by omega
  have HL := Lib.hid hdl
  clear h hk hh hx hn hr hnw hdl
  go_enter Tryd.func20, Tryd.ntmps20
  have q1 : (w.alloc (.cells (nL x).toArray 55)).cell? ⟨w.heap.size, 1, none⟩ = some (.int .i64 x.d) := HBX.out.cellB 4 rfl 1 rfl
  have q4 : (w.alloc (.cells (nL x).toArray 55)).cell? ⟨w.heap.size, 4, none⟩ = some (.int .i64 x.t) := HBX.out.cellB 4 rfl 4 rfl
  have k4 : (w.alloc (.cells (nL x).toArray 55)).cell? ⟨wp, 4, none⟩ = some (.int .i64 now) := HBX.out.cellB 0 rfl 4 rfl
  have f4 := HBX.out.freeB 0 rfl 4
  go_wp2_with (go_at_call 18; refine (c_later HBX.out 0 rfl x.t HX.out HN.out).mono ?_; rw [HW.out]; rintro e w1 ⟨rfl, rfl⟩)
  have HS1 : Hid (St w0 ((w.alloc (.cells (nL x).toArray 55)).setCell ⟨wp, 4, none⟩ (.int .i64 nw)) (Wat wp p b E A first nw (.slice Ah hd.length ch) hd c (obB w.heap.size (nL x).toArray 55 :: Δ))) := Lib.hid (HBX.out.setB 0 rfl 4 (.int .i64 nw))
  generalize (w.alloc (.cells (nL x).toArray 55)).setCell ⟨wp, 4, none⟩ (.int .i64 nw) = w1 at HS1 ⊢
  clear HBX q1 q4 k4 f4
  have HSd := Lib.hid HS1.out.drew
  go_region_held3 (fun W => W.cell? ⟨wp, 0, none⟩ = some (.pointer (some ⟨p, 0, none⟩)) ∧ W.cell? ⟨wp, 3, none⟩ = some (.int .i64 first) ∧ W.cell? ⟨wp, 4, none⟩ = some (.int .i64 nw) ∧ W.cell? ⟨w.heap.size, 2, none⟩ = some (.int .i64 x.m) ∧ W.cell? ⟨w.heap.size, 3, none⟩ = some (.int .i64 x.l))
    (first | exact ⟨HS1.out.cellB 0 rfl 0 rfl, HS1.out.cellB 0 rfl 3 rfl, HS1.out.cellB 0 rfl 4 rfl, HS1.out.cellB 4 rfl 2 rfl, HS1.out.cellB 4 rfl 3 rfl⟩ | exact ⟨HSd.out.cellB 0 rfl 0 rfl, HSd.out.cellB 0 rfl 3 rfl, HSd.out.cellB 0 rfl 4 rfl, HSd.out.cellB 4 rfl 2 rfl, HSd.out.cellB 4 rfl 3 rfl⟩ | exact ⟨HS2.out.cellB 0 rfl 0 rfl, HS2.out.cellB 0 rfl 3 rfl, HS2.out.cellB 0 rfl 4 rfl, HS2.out.cellB 4 rfl 2 rfl, HS2.out.cellB 4 rfl 3 rfl⟩ | exact ⟨HS3.out.cellB 0 rfl 0 rfl, HS3.out.cellB 0 rfl 3 rfl, HS3.out.cellB 0 rfl 4 rfl, HS3.out.cellB 4 rfl 2 rfl, HS3.out.cellB 4 rfl 3 rfl⟩)
    (first
      | (go_at_call 22; refine (c_dst HSd.out kd).mono ?_; rintro e w2 ⟨rfl, hs⟩; have HS2 := Lib.hid hs; clear hs)
      | (go_at_call 27; refine (c_hearK HS2.out 2 rfl 3 rfl HK.out.1 HK.out.2 (dstA kd) first x.m x.l nw HR.out).mono ?_; rintro e w3 ⟨rfl, hs⟩; have HS3 : Hid (St w0 w3 (Wat wp p b E A first nw (.slice Ah hd.length ch) hd c' (obB w.heap.size (nL x).toArray 55 :: Δ))) := Lib.hid hs; clear hs))
  cases f with
  | false =>
    go_wp2_with fail
    go_ret3
    exact ⟨_, hd, rfl, by omega, HS3.out.offW⟩
  | true =>
    have k5 : w3.cell? ⟨wp, 5, none⟩ = some (.slice Ah hd.length ch) := HS3.out.cellB 0 rfl 5 rfl
    go_wp2_with fail
    clear k5
    have HSL : Hid (St w0 w3 (Wat wp p b E A first nw (.slice Ah hd.length ch) hd c' (obI (.slice none 0 0) [] :: obB w.heap.size (nL x).toArray 55 :: Δ))) := Lib.hid (St.inW ((HS3.out.newW (e := 3) flI).front1))
    go_loopw [10, 11] (fun v i wr => ∃ (k : Nat) (xs : List Int), k ≤ hd.length ∧ i = .int .i64 k ∧ Hid (xs.length ≤ k) ∧ Hid (St w0 wr (Wat wp p b E A first nw (.slice Ah hd.length ch) hd c' (obI v xs :: obB w.heap.size (nL x).toArray 55 :: Δ)))) (fun _ i _ => hd.length - (intOf i).toNat)
    case atStart => exact ⟨0, [], Nat.zero_le _, rfl, Lib.hid (Nat.le_refl _), HSL⟩
    case round =>
      obtain ⟨k, xs, hk, rfl, HXL, HSa⟩ := hrel
      clear HSL
      have k5 : wr.cell? ⟨wp, 5, none⟩ = some (.slice Ah hd.length ch) := HSa.out.cellB 0 rfl 5 rfl
      by_cases hlt : k < hd.length
      · have hltz : (k : Int) < (hd.length : Int) := by omega
        have hk0 : (0 : Int) ≤ (k : Int) := by omega
        obtain ⟨g, cc, hv2, hcell⟩ := RI_at (show kI.R 3 wr 0 (fun _ => True) (.slice Ah hd.length ch) hd from HSa.out.get 1 rfl) k _ (List.getElem?_eq_getElem hlt)
        injection hv2 with hA h2 h3
        subst hA h3
        clear h2
        generalize hd[k] = y at hcell
        by_cases hq : y = kd
        · have hb : (y != kd) = false := by simpa using hq
          clear hq
          go_wp2_with fail
          go_roundw
          case rel => exact ⟨k + 1, xs, by omega, by go_num, Lib.hid (by have := HXL.out; omega), HSa⟩
          case measure => simp [intOf]; omega
        · have hb : (y != kd) = true := by simpa using hq
          clear hq
          go_wp2_with (at_builtin; go_must (refine wpList_append_St kI HSa.out 4 rfl rfl (.tmp 65) (.tmp 73) 51 (.int .i64 0) 8 rfl Tryd.underlying51 infoI rfl (by decide) (by decide) y [.int .i64 y] rfl rfl rfl (by have := HXL.out; omega) ?_; intro v1 w9 hgr HSb; clear hgr))
          go_roundw
          case rel => exact ⟨k + 1, xs ++ [y], by omega, by go_num, Lib.hid (by have := HXL.out; simp; omega), HSb⟩
          case measure => simp [intOf]; omega
      · have hltz : ¬ (k : Int) < (hd.length : Int) := by omega
        have HXM : Hid (xs.length ≤ hd.length) := Lib.hid (Nat.le_trans HXL.out hk)
        obtain rfl : k = hd.length := by omega
        clear hlt hk HXL
        go_wp2_with (at_builtin; go_must (refine wpList_append_St kI HSa.out 4 rfl rfl (.tmp 76) (.tmp 78) 51 (.int .i64 0) 8 rfl Tryd.underlying51 infoI rfl (by decide) (by decide) kd [.int .i64 kd] rfl rfl rfl (by have := HXM.out; have := HL.out; omega) ?_; intro v1 w9 hgr HSb; obtain ⟨Ag, cg, hvg⟩ := hgr.out.slice; subst hvg; clear hgr; have g5 : w9.cell? ⟨wp, 5, none⟩ = some (.slice Ah hd.length ch) := HSb.out.cellB 0 rfl 5 rfl; have f5 : w9.frozen? ⟨wp, 5, none⟩ = false := HSb.out.freeB 0 rfl 5))
        go_ret3
        have HSe : St w0 (w9.setCell ⟨wp, 5, none⟩ (.slice (some Ag) (xs.length + 1) cg)) (obWt wp p E A first nw (.slice (some Ag) (xs.length + 1) cg) :: obI (.slice Ah hd.length ch) hd :: obC p b c' :: obG :: obI (.slice (some Ag) (xs.length + 1) cg) (xs ++ [kd]) :: obB w.heap.size (nL x).toArray 55 :: Δ) := HSb.out.setB 0 rfl 5 (.slice (some Ag) (xs.length + 1) cg)
        exact ⟨rfl, _, xs ++ [kd], by have := HXM.out; simp; omega, HSe.newHd.offW⟩
end
end Go.Proofs.YtdinkhhaomblcaaDoor.SL
