/- The walk of the statement WheelPlays. No condition. PRINTED BY gen_wplays.py -/
import Derived.Test.YtadhceoaoopcjaaRA
import Derived.Test.YtadhceoaoopcjaaL1
import Derived.Test.YtadhceoaoopcjaaF4
namespace Go.Proofs.Ytadhceoaoopcjaa.SL
open Go.RowKit Go.Proofs.YtadhceoaoopcjaaW.PrintWords Go.Proofs.YtadhceoaoopcjaaW.PrintLast Go.Proofs.YtadhceoaoopcjaaW.PrintMore
def zOp : Op5 := ⟨0, 0, 0, false, 0⟩
structure OpAt (w : World) (ad : Addr) (k : Nat) (x : Op5) : Prop where
  n0 : w.cell? (ad.add (k * 5)) = some (.int .i64 x.k)
  n1 : w.cell? ⟨(ad.add (k * 5)).block, (ad.add (k * 5)).off + 1, none⟩ = some (.int .i64 x.wh)
  n2 : w.cell? ⟨(ad.add (k * 5)).block, (ad.add (k * 5)).off + 2, none⟩ = some (.int .i64 x.n)
  n3 : w.cell? ⟨(ad.add (k * 5)).block, (ad.add (k * 5)).off + 3, none⟩ = some (.bool x.st)
  n4 : w.cell? ⟨(ad.add (k * 5)).block, (ad.add (k * 5)).off + 4, none⟩ = some (.int .i64 x.x)
theorem op_at {w : World} {A : Option Addr} {s : List Op5} (h : kOp.C w A s.length s) (k : Nat) (hk : k < s.length) : ∃ ad, A = some ad ∧ OpAt w ad k (s.getD k zOp) := by
  obtain ⟨ad, c, hA, _, hK, hc⟩ := Kd.C_get h zOp (k : Int) (by omega) (by omega)
  obtain rfl : c = opL (s.getD (k : Int).toNat zOp) := hK
  rw [Int.toNat_natCast] at hc
  have hc' : ∀ j u, (opL (s.getD k zOp))[j]? = some u → w.cell? (ad.add (k * 5 + j)) = some u := hc
  refine ⟨ad, hA, ⟨hc' 0 _ rfl, ?_, ?_, ?_, ?_⟩⟩
  · rw [← add_field _ _ 1 (by omega)]; exact hc' 1 _ rfl
  · rw [← add_field _ _ 2 (by omega)]; exact hc' 2 _ rfl
  · rw [← add_field _ _ 3 (by omega)]; exact hc' 3 _ rfl
  · rw [← add_field _ _ 4 (by omega)]; exact hc' 4 _ rfl
theorem OpAt.below {w w' : World} {ad : Addr} {k : Nat} {x : Op5} (h : OpAt w ad k x) (hb : Below w.heap.size w w') : OpAt w' ad k x := by
  have hlt : ad.block < w.heap.size := by
    have := World.block_lt_of_cell? w _ h.n0
    rwa [add_block'] at this
  have hbl : (ad.add (k * 5)).block = ad.block := add_block' _ _
  have key : ∀ q : Addr, q.block = ad.block → w'.cell? q = w.cell? q := fun q hq => World.cell?_of_block (w := w) (by rw [hq]; exact hb.block _ hlt)
  exact ⟨(key _ hbl).trans h.n0, (key ⟨(ad.add (k * 5)).block, _, none⟩ hbl).trans h.n1, (key ⟨(ad.add (k * 5)).block, _, none⟩ hbl).trans h.n2, (key ⟨(ad.add (k * 5)).block, _, none⟩ hbl).trans h.n3, (key ⟨(ad.add (k * 5)).block, _, none⟩ hbl).trans h.n4⟩
/-- A wheel and the document's beside it, or neither. -/
def PrI (a b : Option Addr) (o : Ob) (i : Int) : Prop := (a = none ∧ b = none ∧ o = obGrp []) ∨ ∃ p q x y s, a = some ⟨p, 0, none⟩ ∧ b = some ⟨q, 0, none⟩ ∧ WSt.Is x p s ∧ RSt.Is y q s ∧ s.last ≤ i ∧ o = obGrp [obWh x, obRf y]
theorem PrI.mono {a b : Option Addr} {o : Ob} {i j : Int} (h : PrI a b o i) (hij : i ≤ j) : PrI a b o j := by
  rcases h with h | ⟨p, q, x, y, s, h1, h2, h3, h4, h5, h6⟩
  · exact .inl h
  · exact .inr ⟨p, q, x, y, s, h1, h2, h3, h4, Int.le_trans h5 hij, h6⟩
def PlI (w0 : World) (B1 B2 B3 : Nat) (n0 n1 i : Int) (w' : World) : Prop := ∃ a0 b0 o0 a1 b1 o1, PrI a0 b0 o0 i ∧ PrI a1 b1 o1 i ∧ St w0 w' [obB B1 #[.int .i64 n0, .int .i64 n1] 50, obB B2 #[.pointer a0, .pointer a1] 51, obB B3 #[.pointer b0, .pointer b1] 53, o0, o1]
theorem PlI.mono {w0 w' : World} {B1 B2 B3 : Nat} {n0 n1 i j : Int} (h : PlI w0 B1 B2 B3 n0 n1 i w') (hij : i ≤ j) : PlI w0 B1 B2 B3 n0 n1 j w' := by
  obtain ⟨a0, b0, o0, a1, b1, o1, h1, h2, h3⟩ := h
  exact ⟨a0, b0, o0, a1, b1, o1, h1.mono hij, h2.mono hij, h3⟩
theorem zero50 (w : World) : (zeroValue 50).run Try.prog w = .ok (.agg #[.int .i64 0, .int .i64 0]) w := by kernel_rfl
theorem zero51 (w : World) : (zeroValue 51).run Try.prog w = .ok (.agg #[.pointer none, .pointer none]) w := by kernel_rfl
theorem zero53 (w : World) : (zeroValue 53).run Try.prog w = .ok (.agg #[.pointer none, .pointer none]) w := by kernel_rfl
theorem size50 : (Try.prog.info? 50).map (·.size) = some 2 := by kernel_rfl
section
variable {w0 w : World} {Γ : List Ob}
theorem c_plays (h : St w0 w Γ) (j : Nat) {p q : Nat} {s : Wh} {x : WSt} {y : RSt} (hj : Γ[j]? = some (obGrp [obWh x, obRf y])) (hx : x.Is p s) (hy : y.Is q s) {i : Int} (hs : s.last ≤ i) (hi : i < 4000000000000000000) (o : Op5) :
    Calls Try.prog 21 #[.pointer (some ⟨p, 0, none⟩), .pointer (some ⟨q, 0, none⟩), .agg (opV o)] w fun e w' => ∃ x' y' s', e = .returned (.bool true) ∧ WSt.Is x' p s' ∧ RSt.Is y' q s' ∧ s'.last ≤ i + 1 ∧ St w0 w' (Γ.set j (obGrp [obWh x', obRf y'])) := by
  have h' : St w0 w (obWh x :: obRf y :: Γ.eraseIdx j) := h.focus hj
  refine (plays_any h' hx hy (by omega) o).mono fun e w' ⟨x', y', s', q1, q2, q3, q4, q5⟩ => ⟨x', y', s', q1, q2, q3, by omega, ?_⟩
  exact St.unfocus hj (G := [obWh x', obRf y']) q5
theorem c_playsV (h : St w0 w Γ) (j : Nat) {p q : Nat} {s : Wh} {x : WSt} {y : RSt} (hj : Γ[j]? = some (obGrp [obWh x, obRf y])) (hx : x.Is p s) (hy : y.Is q s) {i : Int} (hs : s.last ≤ i) (hi : i < 4000000000000000000) {v : Value} (ho : ∃ o, v = .agg (opV o)) :
    Calls Try.prog 21 #[.pointer (some ⟨p, 0, none⟩), .pointer (some ⟨q, 0, none⟩), v] w fun e w' => ∃ x' y' s', e = .returned (.bool true) ∧ WSt.Is x' p s' ∧ RSt.Is y' q s' ∧ s'.last ≤ i + 1 ∧ St w0 w' (Γ.set j (obGrp [obWh x', obRf y'])) := by
  obtain ⟨o, rfl⟩ := ho
  exact c_plays h j hj hx hy hs hi o
theorem St.pair {o0 b1 b2 b3 oo r x : Ob} (h : St w0 w [r, x, b1, b2, b3, o0, oo]) : St w0 w [b1, b2, b3, obGrp [x, r], oo] ∧ St w0 w [b1, b2, b3, o0, obGrp [x, r]] := by
  have h1 : St w0 w ([x, r] ++ [b1, b2, b3, oo]) := h.pick [1, 0, 2, 3, 4, 6] (by decide)
  have h2 : St w0 w ([x, r] ++ [b1, b2, b3, o0]) := h.pick [1, 0, 2, 3, 4, 5] (by decide)
  have h3 := h1.grp
  have h4 := h2.grp
  exact ⟨h3.pick [1, 2, 3, 0, 4] (by decide), h4.pick [1, 2, 3, 4, 0] (by decide)⟩
theorem St.none2 {o0 b1 b2 b3 oo : Ob} (h : St w0 w [b1, b2, b3, o0, oo]) : St w0 w [b1, b2, b3, obGrp [], oo] ∧ St w0 w [b1, b2, b3, o0, obGrp []] := by
  have h1 : St w0 w ([] ++ [b1, b2, b3, oo]) := h.pick [0, 1, 2, 4] (by decide)
  have h2 : St w0 w ([] ++ [b1, b2, b3, o0]) := h.pick [0, 1, 2, 3] (by decide)
  have h3 := h1.grp
  have h4 := h2.grp
  exact ⟨h3.pick [1, 2, 3, 0, 4] (by decide), h4.pick [1, 2, 3, 4, 0] (by decide)⟩
end
set_option maxHeartbeats 64000000 in
set_option maxRecDepth 100000 in
theorem plays_calls (n0 n1 : Int) (a2 : Option Addr) (cap2 : Nat) (z2 : List Op5) (w : World) (hC : kOp.C w a2 z2.length z2) (_ : ∀ x ∈ z2, Op5R x) (hz : z2.length * 40 ≤ 140737488351232) :
    Calls Try.prog 8 #[.int .i64 n0, .int .i64 n1, .slice a2 z2.length cap2] w fun e w' => e = .returned (.bool true) ∧ Below w.heap.size w w' := by
  have HO : Hid (∀ k, k < z2.length → ∃ ad, a2 = some ad ∧ OpAt w ad k (z2.getD k zOp)) := Lib.hid fun k hk => op_at hC k hk
  have hzl : z2.length < 4000000000000 := by omega
  clear hC hz
  go_enter Try.func8, Try.ntmps8
  go_wp2_with (first
    | (go_at_call 9; refine (alive_calls _).mono ?_; rintro e w1 ⟨rfl, hb⟩; have HB0 := Lib.hid hb; clear hb; obtain ⟨B1, hb1⟩ : ∃ B, w1.heap.size = B := ⟨_, rfl⟩; have HN1 := Lib.hid hb1; clear hb1)
    | (refine gate_ (.alloc 50) rfl ?_; go_must (refine wpList_alloc_B rfl 50 rfl _ zero50 B1 HN1.out ((St.nil w).below HB0.out) ?_; intro w2 hz hs; clear hz; have HS1 := Lib.hid hs; clear hs))
    | (refine gate_ (.store 50 (.tmp 7) (.tmp 24)) rfl ?_; go_must (refine wpList_store_B HS1.out 0 rfl rfl rfl 50 (.tmp 7) (.tmp 24) rfl #[.int .i64 n0, .int .i64 n1] rfl rfl size50 rfl (by simp [Value.oneCell']) ?_; intro w3 hs; have HS2 := Lib.hid hs; clear hs; obtain ⟨B2, hb2⟩ : ∃ B, w3.heap.size = B := ⟨_, rfl⟩; have HN2 := Lib.hid hb2; clear hb2))
    | (refine gate_ (.alloc 51) rfl ?_; go_must (refine wpList_alloc_B rfl 51 rfl _ zero51 B2 HN2.out HS2.out ?_; intro w4 hz hs; clear hz; have HS3 := Lib.hid hs; clear hs; obtain ⟨B3, hb3⟩ : ∃ B, w4.heap.size = B := ⟨_, rfl⟩; have HN3 := Lib.hid hb3; clear hb3))
    | (refine gate_ (.alloc 53) rfl ?_; go_must (refine wpList_alloc_B rfl 53 rfl _ zero53 B3 HN3.out HS3.out ?_; intro w5 hz hs; clear hz; have HS4 := Lib.hid hs; clear hs)))
  have HI0 : Hid (PlI w B1 B2 B3 n0 n1 0 w5) := Lib.hid (by
    have h1 : St w w5 ([] ++ [obB B1 #[.int .i64 n0, .int .i64 n1] 50, obB B2 #[.pointer none, .pointer none] 51, obB B3 #[.pointer none, .pointer none] 53]) := HS4.out
    have h2 : St w w5 ([] ++ [obGrp [], obB B1 #[.int .i64 n0, .int .i64 n1] 50, obB B2 #[.pointer none, .pointer none] 51, obB B3 #[.pointer none, .pointer none] 53]) := h1.grp
    have h3 := h2.grp
    exact ⟨none, none, obGrp [], none, none, obGrp [], .inl ⟨rfl, rfl, rfl⟩, .inl ⟨rfl, rfl, rfl⟩, h3.pick [2, 3, 4, 0, 1] (by decide)⟩)
  clear HB0 HN1 HN2 HN3 HS1 HS2 HS3 HS4
  go_loopw [10] (fun s10 wr => ∃ k : Int, (k = 0 ∨ k = 1 ∨ k = 2) ∧ s10 = .int .i64 k ∧ Hid (PlI w B1 B2 B3 n0 n1 0 wr)) (fun s10 _ => 2 - (intOf s10).toNat)
  case atStart => exact ⟨0, .inl rfl, rfl, HI0⟩
  case round =>
    clear HI0
    obtain ⟨k, hk3, rfl, HI⟩ := hrel
    obtain ⟨a0, b0, o0, a1, b1, o1, g0, g1, hst⟩ := HI.out
    have HG := Lib.hid (And.intro g0 g1)
    have HS := Lib.hid hst
    clear g0 g1 hst
    have HFin : Hid (∀ a0 b0 o0 a1 b1 o1 w', PrI a0 b0 o0 0 ∧ PrI a1 b1 o1 0 → St w w' [obB B1 #[.int .i64 n0, .int .i64 n1] 50, obB B2 #[.pointer a0, .pointer a1] 51, obB B3 #[.pointer b0, .pointer b1] 53, o0, o1] → PlI w B1 B2 B3 n0 n1 0 w') := Lib.hid fun a0 b0 o0 a1 b1 o1 w' h1 h2 => ⟨a0, b0, o0, a1, b1, o1, h1.1, h1.2, h2⟩
    clear HI
    rcases hk3 with rfl | rfl | rfl
    · have x0 := HS.out.cellB 0 rfl 0 rfl
      by_cases hg : 0 ≤ n0 ∧ n0 ≤ 1099511627776
      · have HNW := Lib.hid (c_new HS.out n0 hg.1 hg.2)
        have HRN : Hid (∀ W Γ, St w W Γ → Calls Try.prog 20 #[.int .i64 n0] W fun e w' => ∃ p y, e = .returned (.tuple #[.pointer (some ⟨p, 0, none⟩), .int .i64 0]) ∧ RSt.Is y p ⟨n0, 0, []⟩ ∧ St w w' (obRf y :: Γ)) := Lib.hid fun W Γ h => r_new h n0 hg.1 hg.2
        clear hg
        go_wp2_with (first
          | (go_at_call 11; refine HNW.out.mono ?_; rintro e w2 ⟨p, x, rfl, hx, hs⟩; have HX := Lib.hid hx; have x1 := hs.cellB 1 rfl 0 rfl; have HS2 := Lib.hid hs; clear hx hs x0)
          | (go_at_call 20; refine (HRN.out _ _ HS2.out).mono ?_; rintro e w3 ⟨q, y, rfl, hy, hs⟩; have HY := Lib.hid hy; have y1 := hs.cellB 3 rfl 0 rfl; have y2 := hs.freeB 3 rfl 0; have HS3 := Lib.hid (hs.setB 3 rfl 0 (.pointer (some ⟨p, 0, none⟩))); have y3 := HS3.out.cellB 4 rfl 0 rfl; have y4 := HS3.out.freeB 4 rfl 0; have HS4 := Lib.hid (HS3.out.setB 4 rfl 0 (.pointer (some ⟨q, 0, none⟩))); clear hy hs x1 HS2))
        go_roundw
        case rel => exact ⟨1, by decide, by go_num, Lib.hid (HFin.out _ _ _ _ _ _ _ ⟨.inr ⟨p, q, x, y, ⟨n0, 0, []⟩, rfl, rfl, HX.out, HY.out, Int.le_refl _, rfl⟩, HG.out.2⟩ (St.pair HS4.out).1)⟩
        case measure => simp [intOf]
      · have hbd : n0 < 0 ∨ 1099511627776 < n0 := by omega
        have HNW := Lib.hid (c_new_bad HS.out n0 hbd)
        have HRN : Hid (∀ W Γ, St w W Γ → Calls Try.prog 20 #[.int .i64 n0] W fun e w' => e = .returned (.tuple #[.pointer none, .int .i64 1]) ∧ St w w' Γ) := Lib.hid fun W Γ h => r_new_bad h n0 hbd
        clear hg hbd
        go_wp2_with (first
          | (go_at_call 11; refine HNW.out.mono ?_; rintro e w2 ⟨rfl, hs⟩; have x1 := hs.cellB 0 rfl 0 rfl; have HS2 := Lib.hid hs; clear hs x0)
          | (go_at_call 20; refine (HRN.out _ _ HS2.out).mono ?_; rintro e w3 ⟨rfl, hs⟩; have y1 := hs.cellB 1 rfl 0 rfl; have y2 := hs.freeB 1 rfl 0; have HS3 := Lib.hid (hs.setB 1 rfl 0 (.pointer none)); have y3 := HS3.out.cellB 2 rfl 0 rfl; have y4 := HS3.out.freeB 2 rfl 0; have HS4 := Lib.hid (HS3.out.setB 2 rfl 0 (.pointer none)); clear hs x1 HS2))
        go_roundw
        case rel => exact ⟨1, by decide, by go_num, Lib.hid (HFin.out _ _ _ _ _ _ _ ⟨.inl ⟨rfl, rfl, rfl⟩, HG.out.2⟩ (St.none2 HS4.out).1)⟩
        case measure => simp [intOf]
    · have x0 := HS.out.cellB 0 rfl 1 rfl
      by_cases hg : 0 ≤ n1 ∧ n1 ≤ 1099511627776
      · have HNW := Lib.hid (c_new HS.out n1 hg.1 hg.2)
        have HRN : Hid (∀ W Γ, St w W Γ → Calls Try.prog 20 #[.int .i64 n1] W fun e w' => ∃ p y, e = .returned (.tuple #[.pointer (some ⟨p, 0, none⟩), .int .i64 0]) ∧ RSt.Is y p ⟨n1, 0, []⟩ ∧ St w w' (obRf y :: Γ)) := Lib.hid fun W Γ h => r_new h n1 hg.1 hg.2
        clear hg
        go_wp2_with (first
          | (go_at_call 11; refine HNW.out.mono ?_; rintro e w2 ⟨p, x, rfl, hx, hs⟩; have HX := Lib.hid hx; have x1 := hs.cellB 1 rfl 1 rfl; have HS2 := Lib.hid hs; clear hx hs x0)
          | (go_at_call 20; refine (HRN.out _ _ HS2.out).mono ?_; rintro e w3 ⟨q, y, rfl, hy, hs⟩; have HY := Lib.hid hy; have y1 := hs.cellB 3 rfl 1 rfl; have y2 := hs.freeB 3 rfl 1; have HS3 := Lib.hid (hs.setB 3 rfl 1 (.pointer (some ⟨p, 0, none⟩))); have y3 := HS3.out.cellB 4 rfl 1 rfl; have y4 := HS3.out.freeB 4 rfl 1; have HS4 := Lib.hid (HS3.out.setB 4 rfl 1 (.pointer (some ⟨q, 0, none⟩))); clear hy hs x1 HS2))
        go_roundw
        case rel => exact ⟨2, by decide, by go_num, Lib.hid (HFin.out _ _ _ _ _ _ _ ⟨HG.out.1, .inr ⟨p, q, x, y, ⟨n1, 0, []⟩, rfl, rfl, HX.out, HY.out, Int.le_refl _, rfl⟩⟩ (St.pair HS4.out).2)⟩
        case measure => simp [intOf]
      · have hbd : n1 < 0 ∨ 1099511627776 < n1 := by omega
        have HNW := Lib.hid (c_new_bad HS.out n1 hbd)
        have HRN : Hid (∀ W Γ, St w W Γ → Calls Try.prog 20 #[.int .i64 n1] W fun e w' => e = .returned (.tuple #[.pointer none, .int .i64 1]) ∧ St w w' Γ) := Lib.hid fun W Γ h => r_new_bad h n1 hbd
        clear hg hbd
        go_wp2_with (first
          | (go_at_call 11; refine HNW.out.mono ?_; rintro e w2 ⟨rfl, hs⟩; have x1 := hs.cellB 0 rfl 1 rfl; have HS2 := Lib.hid hs; clear hs x0)
          | (go_at_call 20; refine (HRN.out _ _ HS2.out).mono ?_; rintro e w3 ⟨rfl, hs⟩; have y1 := hs.cellB 1 rfl 1 rfl; have y2 := hs.freeB 1 rfl 1; have HS3 := Lib.hid (hs.setB 1 rfl 1 (.pointer none)); have y3 := HS3.out.cellB 2 rfl 1 rfl; have y4 := HS3.out.freeB 2 rfl 1; have HS4 := Lib.hid (HS3.out.setB 2 rfl 1 (.pointer none)); clear hs x1 HS2))
        go_roundw
        case rel => exact ⟨2, by decide, by go_num, Lib.hid (HFin.out _ _ _ _ _ _ _ ⟨HG.out.1, .inl ⟨rfl, rfl, rfl⟩⟩ (St.none2 HS4.out).2)⟩
        case measure => simp [intOf]
    · have HI1 : Hid (PlI w B1 B2 B3 n0 n1 0 wr) := Lib.hid (HFin.out _ _ _ _ _ _ _ HG.out HS.out)
      clear HG HS HFin
      go_wp2_with fail
      go_loopw [15] (fun s15 wr => ∃ i : Nat, i ≤ z2.length ∧ s15 = .int .i64 i ∧ Hid (PlI w B1 B2 B3 n0 n1 i wr)) (fun s15 _ => z2.length - (intOf s15).toNat)
      case atStart => exact ⟨0, Nat.zero_le _, rfl, HI1⟩
      case round =>
        clear HI1
        obtain ⟨i, hi, rfl, HI⟩ := hrel
        have hi0 : (0 : Int) ≤ (i : Int) := by omega
        by_cases hit : i < z2.length
        · have hiz : (i : Int) < (z2.length : Int) := by omega
          obtain ⟨a0, b0, o0, a1, b1, o1, g0, g1, hst⟩ := HI.out
          have HG := Lib.hid (And.intro g0 g1)
          have HS := Lib.hid hst
          have HFin : Hid (∀ a0 b0 o0 a1 b1 o1 w', PrI a0 b0 o0 ((i + 1 : Nat) : Int) ∧ PrI a1 b1 o1 ((i + 1 : Nat) : Int) → St w w' [obB B1 #[.int .i64 n0, .int .i64 n1] 50, obB B2 #[.pointer a0, .pointer a1] 51, obB B3 #[.pointer b0, .pointer b1] 53, o0, o1] → PlI w B1 B2 B3 n0 n1 ((i + 1 : Nat) : Int) w') := Lib.hid fun a0 b0 o0 a1 b1 o1 w' h1 h2 => ⟨a0, b0, o0, a1, b1, o1, h1.1, h1.2, h2⟩
          obtain ⟨ad, rfl, hT⟩ := HO.out i hit
          obtain ⟨y0, y1, y2, y3, y4⟩ := hT.below HS.out.bl
          have HT := Lib.hid hT
          clear g0 g1 hst HI hT
          generalize z2.getD i zOp = o at *
          have had := i64_and1 o.wh
          have hmod : o.wh % 2 = 0 ∨ o.wh % 2 = 1 := by omega
          rcases hmod with hm | hm
          · rw [hm] at had
            clear hm
            have HGk := Lib.hid HG.out.1
            have x1 := HS.out.cellB 1 rfl 0 rfl
            rcases HGk.out with ⟨rfl, rfl, rfl⟩ | ⟨p, q, x, y, s, rfl, rfl, hx, hy, hl, rfl⟩
            · go_wp2_with fail
              go_roundw
              case rel => exact ⟨i + 1, by omega, by go_num, Lib.hid (HFin.out _ _ _ _ _ _ _ ⟨.inl ⟨rfl, rfl, rfl⟩, HG.out.2.mono (by omega)⟩ HS.out)⟩
              case measure => simp [intOf]; omega
            · have HX := Lib.hid hx
              have HY := Lib.hid hy
              have HL := Lib.hid hl
              have HLT : Hid (((i : Nat) : Int) < 4000000000000000000) := Lib.hid (by omega)
              have HCell : Hid (∀ W, OpAt W ad i o → W.cell? ⟨B2, 0, none⟩ = some (.pointer (some ⟨p, 0, none⟩)) → W.cell? ⟨B3, 0, none⟩ = some (.pointer (some ⟨q, 0, none⟩)) → W.cell? ⟨B2, 0, none⟩ = some (.pointer (some ⟨p, 0, none⟩)) ∧ W.cell? ⟨B3, 0, none⟩ = some (.pointer (some ⟨q, 0, none⟩)) ∧ W.cell? (ad.add (i * 5)) = some (.int .i64 o.k) ∧ W.cell? ⟨(ad.add (i * 5)).block, (ad.add (i * 5)).off + 1, none⟩ = some (.int .i64 o.wh) ∧ W.cell? ⟨(ad.add (i * 5)).block, (ad.add (i * 5)).off + 2, none⟩ = some (.int .i64 o.n) ∧ W.cell? ⟨(ad.add (i * 5)).block, (ad.add (i * 5)).off + 3, none⟩ = some (.bool o.st) ∧ W.cell? ⟨(ad.add (i * 5)).block, (ad.add (i * 5)).off + 4, none⟩ = some (.int .i64 o.x)) := Lib.hid fun W h1 h2 h3 => ⟨h2, h3, h1.n0, h1.n1, h1.n2, h1.n3, h1.n4⟩
              clear hx hy hl
              go_wp2_with fail
              go_region_held3 (fun W => W.cell? ⟨B2, 0, none⟩ = some (.pointer (some ⟨p, 0, none⟩)) ∧ W.cell? ⟨B3, 0, none⟩ = some (.pointer (some ⟨q, 0, none⟩)) ∧ W.cell? (ad.add (i * 5)) = some (.int .i64 o.k) ∧ W.cell? ⟨(ad.add (i * 5)).block, (ad.add (i * 5)).off + 1, none⟩ = some (.int .i64 o.wh) ∧ W.cell? ⟨(ad.add (i * 5)).block, (ad.add (i * 5)).off + 2, none⟩ = some (.int .i64 o.n) ∧ W.cell? ⟨(ad.add (i * 5)).block, (ad.add (i * 5)).off + 3, none⟩ = some (.bool o.st) ∧ W.cell? ⟨(ad.add (i * 5)).block, (ad.add (i * 5)).off + 4, none⟩ = some (.int .i64 o.x))
                (first | exact HCell.out _ (HT.out.below HS.out.bl) (HS.out.cellB 1 rfl 0 rfl) (HS.out.cellB 2 rfl 0 rfl) | exact HCell.out _ (HT.out.below HS.out.drew.bl) (HS.out.drew.cellB 1 rfl 0 rfl) (HS.out.drew.cellB 2 rfl 0 rfl))
                (first
                  | (go_at_call 21; refine (c_playsV (w0 := w) (by first | exact HS.out | exact HS.out.drew) 3 (by rfl) HX.out HY.out HL.out HLT.out ⟨o, rfl⟩).mono ?_; rintro e w9 ⟨x', y', s', rfl, hx, hy, hl, hs⟩; have HX := Lib.hid hx; have HY := Lib.hid hy; have HL := Lib.hid hl; have HS := Lib.hid hs; clear hx hy hl hs))
              all_goals
                go_wp2_with fail
                go_roundw
                case rel => exact ⟨i + 1, by omega, by go_num, Lib.hid (HFin.out _ _ _ _ _ _ _ ⟨.inr ⟨p, q, x', y', s', rfl, rfl, HX.out, HY.out, by have := HL.out; omega, rfl⟩, HG.out.2.mono (by omega)⟩ HS.out)⟩
                case measure => simp [intOf]; omega
          · rw [hm] at had
            clear hm
            have HGk := Lib.hid HG.out.2
            have x1 := HS.out.cellB 1 rfl 1 rfl
            rcases HGk.out with ⟨rfl, rfl, rfl⟩ | ⟨p, q, x, y, s, rfl, rfl, hx, hy, hl, rfl⟩
            · go_wp2_with fail
              go_roundw
              case rel => exact ⟨i + 1, by omega, by go_num, Lib.hid (HFin.out _ _ _ _ _ _ _ ⟨HG.out.1.mono (by omega), .inl ⟨rfl, rfl, rfl⟩⟩ HS.out)⟩
              case measure => simp [intOf]; omega
            · have HX := Lib.hid hx
              have HY := Lib.hid hy
              have HL := Lib.hid hl
              have HLT : Hid (((i : Nat) : Int) < 4000000000000000000) := Lib.hid (by omega)
              have HCell : Hid (∀ W, OpAt W ad i o → W.cell? ⟨B2, 1, none⟩ = some (.pointer (some ⟨p, 0, none⟩)) → W.cell? ⟨B3, 1, none⟩ = some (.pointer (some ⟨q, 0, none⟩)) → W.cell? ⟨B2, 1, none⟩ = some (.pointer (some ⟨p, 0, none⟩)) ∧ W.cell? ⟨B3, 1, none⟩ = some (.pointer (some ⟨q, 0, none⟩)) ∧ W.cell? (ad.add (i * 5)) = some (.int .i64 o.k) ∧ W.cell? ⟨(ad.add (i * 5)).block, (ad.add (i * 5)).off + 1, none⟩ = some (.int .i64 o.wh) ∧ W.cell? ⟨(ad.add (i * 5)).block, (ad.add (i * 5)).off + 2, none⟩ = some (.int .i64 o.n) ∧ W.cell? ⟨(ad.add (i * 5)).block, (ad.add (i * 5)).off + 3, none⟩ = some (.bool o.st) ∧ W.cell? ⟨(ad.add (i * 5)).block, (ad.add (i * 5)).off + 4, none⟩ = some (.int .i64 o.x)) := Lib.hid fun W h1 h2 h3 => ⟨h2, h3, h1.n0, h1.n1, h1.n2, h1.n3, h1.n4⟩
              clear hx hy hl
              go_wp2_with fail
              go_region_held3 (fun W => W.cell? ⟨B2, 1, none⟩ = some (.pointer (some ⟨p, 0, none⟩)) ∧ W.cell? ⟨B3, 1, none⟩ = some (.pointer (some ⟨q, 0, none⟩)) ∧ W.cell? (ad.add (i * 5)) = some (.int .i64 o.k) ∧ W.cell? ⟨(ad.add (i * 5)).block, (ad.add (i * 5)).off + 1, none⟩ = some (.int .i64 o.wh) ∧ W.cell? ⟨(ad.add (i * 5)).block, (ad.add (i * 5)).off + 2, none⟩ = some (.int .i64 o.n) ∧ W.cell? ⟨(ad.add (i * 5)).block, (ad.add (i * 5)).off + 3, none⟩ = some (.bool o.st) ∧ W.cell? ⟨(ad.add (i * 5)).block, (ad.add (i * 5)).off + 4, none⟩ = some (.int .i64 o.x))
                (first | exact HCell.out _ (HT.out.below HS.out.bl) (HS.out.cellB 1 rfl 1 rfl) (HS.out.cellB 2 rfl 1 rfl) | exact HCell.out _ (HT.out.below HS.out.drew.bl) (HS.out.drew.cellB 1 rfl 1 rfl) (HS.out.drew.cellB 2 rfl 1 rfl))
                (first
                  | (go_at_call 21; refine (c_playsV (w0 := w) (by first | exact HS.out | exact HS.out.drew) 4 (by rfl) HX.out HY.out HL.out HLT.out ⟨o, rfl⟩).mono ?_; rintro e w9 ⟨x', y', s', rfl, hx, hy, hl, hs⟩; have HX := Lib.hid hx; have HY := Lib.hid hy; have HL := Lib.hid hl; have HS := Lib.hid hs; clear hx hy hl hs))
              all_goals
                go_wp2_with fail
                go_roundw
                case rel => exact ⟨i + 1, by omega, by go_num, Lib.hid (HFin.out _ _ _ _ _ _ _ ⟨HG.out.1.mono (by omega), .inr ⟨p, q, x', y', s', rfl, rfl, HX.out, HY.out, by have := HL.out; omega, rfl⟩⟩ HS.out)⟩
                case measure => simp [intOf]; omega
        · obtain rfl : i = z2.length := by omega
          have hiz : ¬ (z2.length : Int) < (z2.length : Int) := by omega
          clear HO
          go_wp2_with fail
          go_loopw [18] (fun s18 wr => ∃ k : Int, (k = 0 ∨ k = 1 ∨ k = 2) ∧ s18 = .int .i64 k ∧ Hid (PlI w B1 B2 B3 n0 n1 (4000000000000 + 3 * k) wr)) (fun s18 _ => 2 - (intOf s18).toNat)
          case atStart => exact ⟨0, .inl rfl, rfl, Lib.hid (HI.out.mono (by omega))⟩
          case round =>
            clear HI
            obtain ⟨k, hk3, rfl, HI⟩ := hrel
            obtain ⟨a0, b0, o0, a1, b1, o1, g0, g1, hst⟩ := HI.out
            have HG := Lib.hid (And.intro g0 g1)
            have HS := Lib.hid hst
            have HFin : Hid (∀ M a0 b0 o0 a1 b1 o1 w', PrI a0 b0 o0 M ∧ PrI a1 b1 o1 M → St w w' [obB B1 #[.int .i64 n0, .int .i64 n1] 50, obB B2 #[.pointer a0, .pointer a1] 51, obB B3 #[.pointer b0, .pointer b1] 53, o0, o1] → PlI w B1 B2 B3 n0 n1 M w') := Lib.hid fun M a0 b0 o0 a1 b1 o1 w' h1 h2 => ⟨a0, b0, o0, a1, b1, o1, h1.1, h1.2, h2⟩
            clear g0 g1 hst
            clear HI
            rcases hk3 with rfl | rfl | rfl
            · have HGk := Lib.hid HG.out.1
              have x1 := HS.out.cellB 1 rfl 0 rfl
              rcases HGk.out with ⟨rfl, rfl, rfl⟩ | ⟨p, q, x, y, s, rfl, rfl, hx, hy, hl, rfl⟩
              · go_wp2_with fail
                go_roundw
                case rel => exact ⟨1, by decide, by go_num, Lib.hid (HFin.out _ _ _ _ _ _ _ _ ⟨.inl ⟨rfl, rfl, rfl⟩, HG.out.2.mono (by decide)⟩ HS.out)⟩
                case measure => simp [intOf]
              · have HX := Lib.hid hx
                have HY := Lib.hid hy
                have HL : Hid (s.last ≤ 4000000000000 + 3 * 0) := Lib.hid hl
                clear hx hy hl
                go_wp2_with fail
                go_region_held3 (fun W => W.cell? ⟨B2, 0, none⟩ = some (.pointer (some ⟨p, 0, none⟩)) ∧ W.cell? ⟨B3, 0, none⟩ = some (.pointer (some ⟨q, 0, none⟩)))
                  (first | exact ⟨HS.out.cellB 1 rfl 0 rfl, HS.out.cellB 2 rfl 0 rfl⟩ | exact ⟨HS.out.drew.cellB 1 rfl 0 rfl, HS.out.drew.cellB 2 rfl 0 rfl⟩)
                  (first
                    | (go_at_call 21; first | (refine (c_playsV (w0 := w) (by first | exact HS.out | exact HS.out.drew) 3 (by rfl) HX.out HY.out HL.out (by decide) (by first | exact ⟨⟨4, 0, 0, false, 0⟩, rfl⟩ | exact ⟨⟨3, 0, 1099511627776, false, 0⟩, rfl⟩)).mono ?_; rintro e w9 ⟨x', y', s', rfl, hx, hy, hl, hs⟩; have HX := Lib.hid hx; have HY := Lib.hid hy; have HL := Lib.hid hl; have HS := Lib.hid hs; clear hx hy hl hs)))
                all_goals
                  go_wp2_with fail
                  go_roundw
                  case rel => exact ⟨1, by decide, by go_num, Lib.hid (HFin.out _ _ _ _ _ _ _ _ ⟨.inr ⟨p, q, x', y', s', rfl, rfl, HX.out, HY.out, by have := HL.out; omega, rfl⟩, HG.out.2.mono (by decide)⟩ HS.out)⟩
                  case measure => simp [intOf]
            · have HGk := Lib.hid HG.out.2
              have x1 := HS.out.cellB 1 rfl 1 rfl
              rcases HGk.out with ⟨rfl, rfl, rfl⟩ | ⟨p, q, x, y, s, rfl, rfl, hx, hy, hl, rfl⟩
              · go_wp2_with fail
                go_roundw
                case rel => exact ⟨2, by decide, by go_num, Lib.hid (HFin.out _ _ _ _ _ _ _ _ ⟨HG.out.1.mono (by decide), .inl ⟨rfl, rfl, rfl⟩⟩ HS.out)⟩
                case measure => simp [intOf]
              · have HX := Lib.hid hx
                have HY := Lib.hid hy
                have HL : Hid (s.last ≤ 4000000000000 + 3 * 1) := Lib.hid hl
                clear hx hy hl
                go_wp2_with fail
                go_region_held3 (fun W => W.cell? ⟨B2, 1, none⟩ = some (.pointer (some ⟨p, 0, none⟩)) ∧ W.cell? ⟨B3, 1, none⟩ = some (.pointer (some ⟨q, 0, none⟩)))
                  (first | exact ⟨HS.out.cellB 1 rfl 1 rfl, HS.out.cellB 2 rfl 1 rfl⟩ | exact ⟨HS.out.drew.cellB 1 rfl 1 rfl, HS.out.drew.cellB 2 rfl 1 rfl⟩)
                  (first
                    | (go_at_call 21; first | (refine (c_playsV (w0 := w) (by first | exact HS.out | exact HS.out.drew) 4 (by rfl) HX.out HY.out HL.out (by decide) (by first | exact ⟨⟨4, 0, 0, false, 0⟩, rfl⟩ | exact ⟨⟨3, 0, 1099511627776, false, 0⟩, rfl⟩)).mono ?_; rintro e w9 ⟨x', y', s', rfl, hx, hy, hl, hs⟩; have HX := Lib.hid hx; have HY := Lib.hid hy; have HL := Lib.hid hl; have HS := Lib.hid hs; clear hx hy hl hs)))
                all_goals
                  go_wp2_with fail
                  go_roundw
                  case rel => exact ⟨2, by decide, by go_num, Lib.hid (HFin.out _ _ _ _ _ _ _ _ ⟨HG.out.1.mono (by decide), .inr ⟨p, q, x', y', s', rfl, rfl, HX.out, HY.out, by have := HL.out; omega, rfl⟩⟩ HS.out)⟩
                  case measure => simp [intOf]
            · go_wp2_with fail
              go_ret
              exact ⟨rfl, HS.out.bl⟩
end Go.Proofs.Ytadhceoaoopcjaa.SL
