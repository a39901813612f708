/- The walk of the statement PmtuPlays. No condition but that the table stands in its variable, and sizes. PRINTED BY gen_pplays.py -/
import Derived.Test.YtdinkhhaomblcaaDoorZ9
import Derived.Test.YtdinkhhaomblcaaDoorGF
namespace Go.Proofs.YtdinkhhaomblcaaDoor.SL
open Go.RowKit Go.Proofs.YtdinkhhaomblcaaDoorW.PrintWords Go.Proofs.YtdinkhhaomblcaaDoorW.PrintLast Go.Proofs.YtdinkhhaomblcaaDoorW.PrintMore
theorem i64_and1 (n : Int) : bits .and .i64 n 1 = n % 2 := by
  have hn : (BitVec.ofInt 64 n).toNat = (n % 18446744073709551616).toNat := BitVec.toNat_ofInt ..
  have hm : (BitVec.ofInt 64 (1 : Int)).toNat = 2 ^ 1 - 1 := by decide
  have hw : ∀ x : Int, 0 ≤ x → x < 2 → IntKind.i64.wrap x = x := fun x h1 h2 => IntWalk.i64_in _ (by omega)
  show IntKind.i64.wrap ((BitVec.ofInt 64 n &&& BitVec.ofInt 64 1).toNat : Int) = _
  rw [BitVec.toNat_and, hn, hm, Nat.and_two_pow_sub_one_eq_mod, hw _ (by omega) (by omega)]
  omega
abbrev kO8 : Kd Op8 := kF 25 o8L o8L_len o8L_one
def zO8 : Op8 := ⟨0, 0, 0, 0, zA 0, 0, 0, 0, 0⟩
/-- The k-th operation's cells, whole. -/
def OpR (w : World) (ad : Addr) (k : Nat) (x : Op8) : Prop := ∀ j u, (o8L x)[j]? = some u → w.cell? ((ad.add (k * 25)).add j) = some u
theorem add_add2 (a : Addr) (m n : Nat) : (a.add m).add n = a.add (m + n) := by
  unfold Addr.add
  by_cases hm : m = 0 <;> by_cases hn : n = 0 <;> simp [hm, hn, Nat.add_assoc]
theorem op_r {w : World} {A : Option Addr} {s : List Op8} (h : kO8.C w A s.length s) (k : Nat) (hk : k < s.length) : ∃ ad, A = some ad ∧ OpR w ad k (s.getD k zO8) := by
  obtain ⟨ad, c, hA, _, hK, hc⟩ := Kd.C_get h zO8 (k : Int) (by omega) (by omega)
  obtain rfl : c = o8L (s.getD (k : Int).toNat zO8) := hK
  rw [Int.toNat_natCast] at hc
  have hc' : ∀ j u, (o8L (s.getD k zO8))[j]? = some u → w.cell? (ad.add (k * 25 + j)) = some u := hc
  exact ⟨ad, hA, fun j u hu => by rw [add_add2]; exact hc' j u hu⟩
theorem OpR.lt {w : World} {ad : Addr} {k : Nat} {x : Op8} (h : OpR w ad k x) : ad.block < w.heap.size := by
  have := World.block_lt_of_cell? w _ (h 0 _ rfl)
  rwa [add_block', add_block'] at this
theorem OpR.below {w w' : World} {ad : Addr} {k : Nat} {x : Op8} (h : OpR w ad k x) (hb : Below w.heap.size w w') : OpR w' ad k x := fun j u hu => by
  rw [World.cell?_of_block (w := w) (by rw [add_block', add_block']; exact hb.block _ h.lt)]
  exact h j u hu
theorem sizO8 : (Tryd.prog.info? 34).map (·.size) = some 25 := by kernel_rfl
theorem zero34 (w : World) : (zeroValue 34).run Tryd.prog w = .ok (.agg (o8V zO8)) w := by kernel_rfl
theorem zero25 (w : World) : (zeroValue 25).run Tryd.prog w = .ok (.agg #[.pointer none, .pointer none]) w := by kernel_rfl
theorem zero27 (w : World) : (zeroValue 27).run Tryd.prog w = .ok (.agg #[.pointer none, .pointer none]) w := by kernel_rfl
theorem o8V_one (x : Op8) : (o8V x).all (·.oneCell') = true := Array.all_eq_true_iff_forall_mem.2 fun u hu => o8L_one x u (by simpa [o8V] using hu)
theorem sizP : (Tryd.prog.info? 29).map (·.size) = some 2 := by kernel_rfl
theorem lvO {w : World} {a : Addr} {x : Op8} (h : ∀ j u, (o8L x)[j]? = some u → w.cell? (a.add j) = some u) : (loadVar 34 a).run Tryd.prog w = .ok (.agg (o8V x)) w := by
  have hl : (loadCells a (o8L x).length).run Tryd.prog w = .ok (o8L x).toArray w := run_loadCells_list (P := Tryd.prog) w a (o8L x) h
  have hu := Tryd.underlying34
  have hi := sizO8
  rw [o8L_len] at hl
  cases hq : Tryd.prog.info? 34 with
  | none => simp [hq] at hi
  | some i =>
    have hs : i.size = 25 := by simpa [hq] using hi
    have hagg : (isAgg 34).run Tryd.prog w = .ok true w := by
      unfold isAgg
      rw [Sem.run_bind, run_underlying hu w]
      rfl
    simp [loadVar, Sem.run_bind, hagg, sizeOf, typeInfo, hq, hs, hl, o8V]
theorem lvpc (a : Addr) : loadVar 24 a = (do if ← isAgg 24 then pure (.agg (← loadCells a (← sizeOf 24))) else load a) := rfl
theorem lvpr (a : Addr) : loadVar 26 a = (do if ← isAgg 26 then pure (.agg (← loadCells a (← sizeOf 26))) else load a) := rfl
theorem range_O0 {w : World} {b : Nat} {x : Op8} {T : TypeId} {fr : Nat × Nat} (h : w.heap[b]? = some (.cells (o8V x) T fr)) : w.rangeAt b 0 (o8L x) := rangeAt_row h 0 _ fun j u hu => by
  unfold o8V
  rw [List.getElem?_toArray, Nat.zero_add]
  exact hu
theorem lvOb {w : World} {b k : Nat} {x : Op8} (h : w.rangeAt b k (o8L x)) : (loadVar 34 ⟨b, k, none⟩).run Tryd.prog w = .ok (.agg (o8V x)) w :=
  run_loadVar_mid w b k _ (o8L x) _ h Tryd.underlying34 rfl (by rw [o8L_len]; exact sizO8)
section
variable {ops : Array Oper} {rest : List Oper} {o : Oper} {a : Act} {Q : Exit → Act → World → Prop} {w W : World}
theorem ld_P (x : Operand) (hgd : o.guard = none) (ho : o.op = .load 29 x) {b : Nat} {y : Op8} {T : TypeId} {fr : Nat × Nat} (hc : w.heap[b]? = some (.cells (o8V y) T fr)) (hx : a.eval x = .pointer (some ⟨b, 2, none⟩)) (h : wpList Tryd.prog ops Q rest (a.put o.dst (paV y.E y.A)) w) : wpList Tryd.prog ops Q (o :: rest) a w :=
  wpList_load_mid hgd _ x ho b 2 hx [.int .i64 y.E, .int .i64 y.A] _ (rangeAt_row hc 2 _ fun j u hu => by
    match j, hu with
    | 0, hu => obtain rfl := Option.some.inj hu; rfl
    | 1, hu => obtain rfl := Option.some.inj hu; rfl) Tryd.underlying29 rfl sizP h
end
/-- A cache and the document's beside it, or neither. -/
def PrJ (a b : Option Addr) (o : Ob) (i : Int) : Prop := (a = none ∧ b = none ∧ o = obGrp []) ∨ ∃ p m q c y, a = some ⟨p, 0, none⟩ ∧ b = some ⟨q, 0, none⟩ ∧ RcSt.Is y q c ∧ OkC c ∧ AllB c ∧ c.hrd ≤ i ∧ o = obGrp [obC p m c, obRc y]
theorem PrJ.mono {a b : Option Addr} {o : Ob} {i j : Int} (h : PrJ a b o i) (hij : i ≤ j) : PrJ a b o j := by
  rcases h with h | ⟨p, m, q, c, y, h1, h2, h3, h4, h5, h6, h7⟩
  · exact .inl h
  · exact .inr ⟨p, m, q, c, y, h1, h2, h3, h4, h5, Int.le_trans h6 hij, h7⟩
def PlJ (w0 : World) (B1 B2 : Nat) (i : Int) (w' : World) : Prop := ∃ a0 b0 o0 a1 b1 o1, PrJ a0 b0 o0 i ∧ PrJ a1 b1 o1 i ∧ St w0 w' [obB B1 #[.pointer a0, .pointer a1] 25, obB B2 #[.pointer b0, .pointer b1] 27, o0, o1, obG]
section
variable {w0 w : World} {Γ : List Ob} {p b q : Nat} {c : Ca} {y : RcSt}
theorem c_one (h : St w0 w Γ) (j : Nat) (hj : Γ[j]? = some (obGrp [obC p b c, obRc y])) (g : Nat) (hg : (Γ.eraseIdx j)[g]? = some obG) (hy : y.Is q c) (hk : OkC c) (hab : AllB c) {i : Int} (hi : c.hrd ≤ i) (hi2 : i < 4000000000000000000) {v : Value} {o : Op8} (hv : v = .agg (o8V o)) (hd : BOk o.d) :
    Calls Tryd.prog 12 #[.pointer (some ⟨p, 0, none⟩), .pointer (some ⟨q, 0, none⟩), v] w fun e w' => ∃ c' y', e = .returned (.bool true) ∧ RcSt.Is y' q c' ∧ OkC c' ∧ AllB c' ∧ c'.hrd ≤ i + 1 ∧ St w0 w' (Γ.set j (obGrp [obC p b c', obRc y'])) := by
  subst hv
  have h' : St w0 w (obC p b c :: obRc y :: Γ.eraseIdx j) := h.focus hj
  refine (one_any h' g hg hy hk hab (by omega) o hd).mono fun e w' ⟨c', y', q1, q2, q3, q4, q5, q6⟩ => ⟨c', y', q1, q2, q3, q4, by omega, ?_⟩
  exact St.unfocus hj (G := [obC p b c', obRc y']) q6
theorem set_sameP {j : Nat} {x : Ob} (hj : Γ[j]? = some x) : Γ.set j x = Γ := set_same hj
theorem c_allP (h : St w0 w Γ) (j : Nat) (hj : Γ[j]? = some (obGrp [obC p b c, obRc y])) (hk : OkC c) (hab : AllB c) {l : List Ad} (hl : ordS (c.M.map (·.1)) = l) :
    Calls Tryd.prog 14 #[.pointer (some ⟨p, 0, none⟩)] w fun r w' => ∃ A cp, r = .returned (.slice A l.length cp) ∧ St w0 w' (obAd (.slice A l.length cp) l :: Γ) := by
  have h' : St w0 w (obC p b c :: obRc y :: Γ.eraseIdx j) := h.focus hj
  refine (c_allG h' 0 rfl hk hab hl).mono fun r w' ⟨A, cp, he, hs⟩ => ⟨A, cp, he, ?_⟩
  have h1 : St w0 w' ([obC p b c, obRc y] ++ (obAd (.slice A l.length cp) l :: Γ.eraseIdx j)) := hs.perm (List.perm_middle (l₁ := [obC p b c, obRc y]))
  have h2 := h1.grp.perm (List.Perm.swap _ _ _)
  exact h2.perm ((perm_out hj).symm.cons _)
theorem r_allP (h : St w0 w Γ) (j : Nat) (hj : Γ[j]? = some (obGrp [obC p b c, obRc y])) (hy : y.Is q c) (hk : OkC c) {l : List Ad} (hl : ordS (c.M.map (·.1)) = l) :
    Calls Tryd.prog 15 #[.pointer (some ⟨q, 0, none⟩)] w fun r w' => ∃ A cp, r = .returned (.slice A l.length cp) ∧ St w0 w' (obAd (.slice A l.length cp) l :: Γ) := by
  have h' : St w0 w (obC p b c :: obRc y :: Γ.eraseIdx j) := h.focus hj
  refine (r_all h' 1 rfl hy hk hl).mono fun r w' ⟨A, cp, he, hs⟩ => ⟨A, cp, he, ?_⟩
  have h1 : St w0 w' ([obC p b c, obRc y] ++ (obAd (.slice A l.length cp) l :: Γ.eraseIdx j)) := hs.perm (List.perm_middle (l₁ := [obC p b c, obRc y]))
  have h2 := h1.grp.perm (List.Perm.swap _ _ _)
  exact h2.perm ((perm_out hj).symm.cons _)
theorem St.pairJ {r x bx b1 b2 o0 oo gg : Ob} (h : St w0 w [r, x, bx, b1, b2, o0, oo, gg]) : St w0 w [bx, b1, b2, obGrp [x, r], oo, gg] ∧ St w0 w [bx, b1, b2, o0, obGrp [x, r], gg] := by
  have h1 : St w0 w ([x, r] ++ [bx, b1, b2, oo, gg]) := h.pick [1, 0, 2, 3, 4, 6, 7] (by decide)
  have h2 : St w0 w ([x, r] ++ [bx, b1, b2, o0, gg]) := h.pick [1, 0, 2, 3, 4, 5, 7] (by decide)
  have h3 := h1.grp
  have h4 := h2.grp
  exact ⟨h3.pick [1, 2, 3, 0, 4, 5] (by decide), h4.pick [1, 2, 3, 4, 0, 5] (by decide)⟩
end
attribute [-go_sem] loadVar
attribute [local go_sem] lv3 lv64 lvpc lvpr
attribute [local go_sem ↓] Go.wp_at_zero Go.wp_at_succ
set_option maxHeartbeats 64000000 in
set_option maxRecDepth 100000 in
theorem plays_calls (A0 : Option Addr) (cp : Nat) (z : List Op8) (w : World) (hT : Tab w) (h0 : kO8.C w A0 z.length z) (hok : ∀ o ∈ z, BOk o.d) (hlen : z.length ≤ 4000000000000) :
    Calls Tryd.prog 3 #[.slice A0 z.length cp] w fun e w' => e = .returned (.bool true) ∧ Below w.heap.size w w' := by
  have HO : Hid (∀ k, k < z.length → ∃ ad, A0 = some ad ∧ OpR w ad k (z.getD k zO8)) := Lib.hid fun k hk => op_r h0 k hk
  have HOK : Hid (∀ k, k < z.length → BOk (z.getD k zO8).d) := Lib.hid fun k hk => by
    rw [List.getD_eq_getElem?_getD, List.getElem?_eq_getElem hk]
    exact hok _ (List.getElem_mem hk)
  have HT := Lib.hid hT
  clear hT h0 hok
  go_enter Tryd.func3, Tryd.ntmps3
  go_wp2_with (first
    | (go_at_call 9; refine (alive_calls _ HT.out).mono ?_; rintro e w1 ⟨rfl, hb⟩; have HS0 : Hid (St w w1 [obG]) := Lib.hid ((St.tab w HT.out).below hb); clear hb; obtain ⟨B1, hb1⟩ : ∃ B, w1.heap.size = B := ⟨_, rfl⟩; have HN1 := Lib.hid hb1; clear hb1)
    | (refine gate_ (.alloc 25) rfl ?_; go_must (refine wpList_alloc_B rfl 25 rfl _ zero25 B1 HN1.out HS0.out ?_; intro w4 hz hs; clear hz; have HS3 := Lib.hid hs; clear hs; obtain ⟨B2, hb2⟩ : ∃ B, w4.heap.size = B := ⟨_, rfl⟩; have HN2 := Lib.hid hb2; clear hb2))
    | (refine gate_ (.alloc 27) rfl ?_; go_must (refine wpList_alloc_B rfl 27 rfl _ zero27 B2 HN2.out HS3.out ?_; intro w5 hz hs; clear hz; have HS4 := Lib.hid hs; clear hs)))
  have HI0 : Hid (PlJ w B1 B2 0 w5) := Lib.hid (by
    have h1 : St w w5 ([] ++ [obG, obB B1 #[.pointer none, .pointer none] 25, obB B2 #[.pointer none, .pointer none] 27]) := HS4.out
    have h2 : St w w5 ([] ++ [obGrp [], obG, obB B1 #[.pointer none, .pointer none] 25, obB B2 #[.pointer none, .pointer none] 27]) := h1.grp
    have h3 := h2.grp
    exact ⟨none, none, obGrp [], none, none, obGrp [], .inl ⟨rfl, rfl, rfl⟩, .inl ⟨rfl, rfl, rfl⟩, h3.pick [3, 4, 0, 1, 2] (by decide)⟩)
  clear HN1 HN2 HS0 HS3 HS4 HT
  go_loopw [6] (fun s6 wr => ∃ i : Nat, i ≤ z.length ∧ s6 = .int .i64 i ∧ Hid (PlJ w B1 B2 i wr)) (fun s6 _ => z.length - (intOf s6).toNat)
  case atStart => exact ⟨0, Nat.zero_le _, rfl, HI0⟩
  case round =>
    clear HI0
    obtain ⟨i, hi, rfl, HI⟩ := hrel
    have hi0 : (0 : Int) ≤ (i : Int) := by omega
    by_cases hit : i < z.length
    · have hiz : (i : Int) < (z.length : Int) := by omega
      obtain ⟨a0, b0, o0, a1, b1, o1, g0, g1, hst⟩ := HI.out
      have HG := Lib.hid (And.intro g0 g1)
      have HS := Lib.hid hst
      have HFin : Hid (∀ a0 b0 o0 a1 b1 o1 w', PrJ a0 b0 o0 ((i + 1 : Nat) : Int) ∧ PrJ a1 b1 o1 ((i + 1 : Nat) : Int) → St w w' [obB B1 #[.pointer a0, .pointer a1] 25, obB B2 #[.pointer b0, .pointer b1] 27, o0, o1, obG] → PlJ w B1 B2 ((i + 1 : Nat) : Int) w') := Lib.hid fun a0 b0 o0 a1 b1 o1 w' h1 h2 => ⟨a0, b0, o0, a1, b1, o1, h1.1, h1.2, h2⟩
      obtain ⟨ad, rfl, hT⟩ := HO.out i hit
      have hOp := hT.below HS.out.bl
      have HBO := Lib.hid (HOK.out i hit)
      clear g0 g1 hst HI hT
      generalize z.getD i zO8 = o at *
      have had := i64_and1 o.t
      have hmod : o.t % 2 = 0 ∨ o.t % 2 = 1 := by omega
      have hLD : ∀ W : World, OpR W ad i o → (loadVar 34 (ad.add (i * 25))).run Tryd.prog W = .ok (.agg (o8V o)) W := fun W h => lvO h
      obtain ⟨B7, hb7⟩ : ∃ B, wr.heap.size = B := ⟨_, rfl⟩
      have HN7 := Lib.hid hb7
      clear hb7
      have HLT : Hid (((i : Nat) : Int) < 4000000000000000000) := Lib.hid (by omega)
      rcases hmod with hm | hm
      · rw [hm] at had
        clear hm
        have HGk := Lib.hid HG.out.1
        by_cases hk1 : o.k = 1
        · have hkk : (o.k == 1) = true := by simpa using hk1
          by_cases hb : o.E < 1 ∨ 64 < o.E ∨ o.A < 1 ∨ 1099511627776 < o.A
          · have HNW : Hid (∀ W Γ, St w W Γ → Calls Tryd.prog 10 #[paV o.E o.A] W fun e w' => e = .returned (.tuple #[.pointer none, .int .i64 1]) ∧ St w w' Γ) := Lib.hid fun W Γ h => c_new_no h o.E o.A hb
            have HRN : Hid (∀ W Γ, St w W Γ → Calls Tryd.prog 11 #[paV o.E o.A] W fun e w' => e = .returned (.tuple #[.pointer none, .int .i64 1]) ∧ St w w' Γ) := Lib.hid fun W Γ h => r_new_no h o.E o.A hb
            clear hb
            rcases HGk.out with ⟨rfl, rfl, rfl⟩ | ⟨p, mm, q, c, y, rfl, rfl, hy, hk, hab, hh, rfl⟩
            · go_wp2_with (first
                | (refine gate_ (.alloc 34) rfl ?_; go_must (refine wpList_alloc_B rfl 34 rfl _ zero34 B7 HN7.out HS.out ?_; intro w3 hz hs; clear hz; have HS1 := Lib.hid hs.front1; clear hs))
                | (refine gate_ (.store 34 (.tmp 7) (.tmp 27)) rfl ?_; go_must (refine wpList_store_B HS1.out 0 rfl rfl rfl 34 (.tmp 7) (.tmp 27) rfl (o8V o) rfl rfl (by rw [o8V_size]; exact sizO8) (by rw [o8V_size]; exact o8V_size _) (o8V_one _) ?_; intro w4 hs; have HS2 := Lib.hid hs; have k0 := hs.cellB 0 rfl 0 (show (o8V o)[0]? = some (.int .i64 o.k) from rfl); have k1 := hs.cellB 0 rfl 1 (show (o8V o)[1]? = some (.int .i64 o.t) from rfl); clear hs HS1))
                | (refine gate_ (.load 29 (.tmp 35)) rfl ?_; go_must (refine ld_P (.tmp 35) rfl rfl (HS2.out.get 0 rfl) rfl ?_))
                | (refine gate_ (.load 29 (.tmp 41)) rfl ?_; go_must (refine ld_P (.tmp 41) rfl rfl (HS2.out.get 0 rfl) rfl ?_))
                | (go_at_call 10; refine (HNW.out _ _ HS2.out).mono ?_; rintro e w5 ⟨rfl, hs⟩; replace HS2 := Lib.hid hs; clear hs)
                | (go_at_call 11; refine (HRN.out _ _ HS2.out).mono ?_; rintro e w6 ⟨rfl, hs⟩; have y5 := hs.cellB 1 rfl 0 rfl; replace HS2 := Lib.hid hs; clear hs))
              go_roundw
              case rel => exact ⟨i + 1, by omega, by go_num, Lib.hid (HFin.out _ _ _ _ _ _ _ ⟨.inl ⟨rfl, rfl, rfl⟩, HG.out.2.mono (by omega)⟩ (HS2.out.sub (List.sublist_cons_self _ _)))⟩
              case measure => simp [intOf]; omega
            · have HY := Lib.hid hy
              have HKK := Lib.hid (And.intro hk hab)
              have HH := Lib.hid hh
              clear hy hk hab hh
              go_wp2_with (first
                | (refine gate_ (.alloc 34) rfl ?_; go_must (refine wpList_alloc_B rfl 34 rfl _ zero34 B7 HN7.out HS.out ?_; intro w3 hz hs; clear hz; have HS1 := Lib.hid hs.front1; clear hs))
                | (refine gate_ (.store 34 (.tmp 7) (.tmp 27)) rfl ?_; go_must (refine wpList_store_B HS1.out 0 rfl rfl rfl 34 (.tmp 7) (.tmp 27) rfl (o8V o) rfl rfl (by rw [o8V_size]; exact sizO8) (by rw [o8V_size]; exact o8V_size _) (o8V_one _) ?_; intro w4 hs; have HS2 := Lib.hid hs; have k0 := hs.cellB 0 rfl 0 (show (o8V o)[0]? = some (.int .i64 o.k) from rfl); have k1 := hs.cellB 0 rfl 1 (show (o8V o)[1]? = some (.int .i64 o.t) from rfl); clear hs HS1))
                | (refine gate_ (.load 29 (.tmp 35)) rfl ?_; go_must (refine ld_P (.tmp 35) rfl rfl (HS2.out.get 0 rfl) rfl ?_))
                | (refine gate_ (.load 29 (.tmp 41)) rfl ?_; go_must (refine ld_P (.tmp 41) rfl rfl (HS2.out.get 0 rfl) rfl ?_))
                | (go_at_call 10; refine (HNW.out _ _ HS2.out).mono ?_; rintro e w5 ⟨rfl, hs⟩; replace HS2 := Lib.hid hs; clear hs)
                | (go_at_call 11; refine (HRN.out _ _ HS2.out).mono ?_; rintro e w6 ⟨rfl, hs⟩; have y5 := hs.cellB 1 rfl 0 rfl; replace HS2 := Lib.hid hs; clear hs))
              have hLD2 : ∀ W : World, W.rangeAt B7 0 (o8L o) → (loadVar 34 ⟨B7, 0, none⟩).run Tryd.prog W = .ok (.agg (o8V o)) W := fun W h => lvOb h
              replace HS2 := Lib.hid HS2.out
              go_region_held3 (fun W => W.cell? ⟨B1, 0, none⟩ = some (.pointer (some ⟨p, 0, none⟩)) ∧ W.cell? ⟨B2, 0, none⟩ = some (.pointer (some ⟨q, 0, none⟩)) ∧ W.rangeAt B7 0 (o8L o))
                (first | exact ⟨HS2.out.cellB 1 rfl 0 rfl, HS2.out.cellB 2 rfl 0 rfl, range_O0 (HS2.out.get 0 rfl)⟩ | exact ⟨HS2.out.drew.cellB 1 rfl 0 rfl, HS2.out.drew.cellB 2 rfl 0 rfl, range_O0 (HS2.out.drew.get 0 rfl)⟩)
                (first
                  | (go_at_call 12; refine (c_one (w0 := w) (by first | exact HS2.out | exact HS2.out.drew) 3 (by rfl) 4 (by rfl) HY.out HKK.out.1 HKK.out.2 HH.out HLT.out rfl HBO.out).mono ?_; rintro e w9 ⟨c', y', rfl, hy, hk, hab, hh, hs⟩; have HY := Lib.hid hy; have HKK := Lib.hid (And.intro hk hab); have HH := Lib.hid hh; have HS2 := Lib.hid hs; clear hy hk hab hh hs))
              all_goals
                go_wp2_with fail
                go_roundw
                case rel => exact ⟨i + 1, by omega, by go_num, Lib.hid (HFin.out _ _ _ _ _ _ _ ⟨.inr ⟨p, mm, q, c', y', rfl, rfl, HY.out, HKK.out.1, HKK.out.2, by have := HH.out; omega, rfl⟩, HG.out.2.mono (by omega)⟩ (HS2.out.sub (List.sublist_cons_self _ _)))⟩
                case measure => simp [intOf]; omega
          · have HNW : Hid (∀ W Γ, St w W Γ → Calls Tryd.prog 10 #[paV o.E o.A] W fun e w' => ∃ p m, e = .returned (.tuple #[.pointer (some ⟨p, 0, none⟩), .int .i64 0]) ∧ St w w' (obC p m ⟨o.E, o.A, [], 0, 0⟩ :: Γ)) := Lib.hid fun W Γ h => (c_new_yes h o.E o.A hb).mono fun e w' ⟨p, m, he, hs⟩ => ⟨p, m, he, hs.front1⟩
            have HRN : Hid (∀ W Γ, St w W Γ → Calls Tryd.prog 11 #[paV o.E o.A] W fun e w' => ∃ q y, e = .returned (.tuple #[.pointer (some ⟨q, 0, none⟩), .int .i64 0]) ∧ RcSt.Is y q ⟨o.E, o.A, [], 0, 0⟩ ∧ St w w' (obRc y :: Γ)) := Lib.hid fun W Γ h => r_new_yes h o.E o.A hb
            have HKK : Hid (OkC ⟨o.E, o.A, [], 0, 0⟩ ∧ AllB ⟨o.E, o.A, [], 0, 0⟩) := Lib.hid ⟨okNew hb, fun x hx => by cases hx⟩
            clear hb
            go_wp2_with (first
              | (refine gate_ (.alloc 34) rfl ?_; go_must (refine wpList_alloc_B rfl 34 rfl _ zero34 B7 HN7.out HS.out ?_; intro w3 hz hs; clear hz; have HS1 := Lib.hid hs.front1; clear hs))
              | (refine gate_ (.store 34 (.tmp 7) (.tmp 27)) rfl ?_; go_must (refine wpList_store_B HS1.out 0 rfl rfl rfl 34 (.tmp 7) (.tmp 27) rfl (o8V o) rfl rfl (by rw [o8V_size]; exact sizO8) (by rw [o8V_size]; exact o8V_size _) (o8V_one _) ?_; intro w4 hs; have HS2 := Lib.hid hs; have k0 := hs.cellB 0 rfl 0 (show (o8V o)[0]? = some (.int .i64 o.k) from rfl); have k1 := hs.cellB 0 rfl 1 (show (o8V o)[1]? = some (.int .i64 o.t) from rfl); clear hs HS1))
              | (refine gate_ (.load 29 (.tmp 35)) rfl ?_; go_must (refine ld_P (.tmp 35) rfl rfl (HS2.out.get 0 rfl) rfl ?_))
              | (refine gate_ (.load 29 (.tmp 41)) rfl ?_; go_must (refine ld_P (.tmp 41) rfl rfl (HS5.out.get 1 rfl) rfl ?_))
              | (go_at_call 10; refine (HNW.out _ _ HS2.out).mono ?_; rintro e w5 ⟨p, mm, rfl, hs⟩; have HS5 := Lib.hid hs; clear hs)
              | (go_at_call 11; refine (HRN.out _ _ HS5.out).mono ?_; rintro e w6 ⟨q, y, rfl, hy, hs⟩; have HY := Lib.hid hy; have y1 := hs.cellB 3 rfl 0 rfl; have y2 := hs.freeB 3 rfl 0; have HS6 := Lib.hid (hs.setB 3 rfl 0 (.pointer (some ⟨p, 0, none⟩))); have y3 := HS6.out.cellB 4 rfl 0 rfl; have y4 := HS6.out.freeB 4 rfl 0; have hs7 := (St.pairJ (HS6.out.setB 4 rfl 0 (.pointer (some ⟨q, 0, none⟩)))).1; have y5 := hs7.cellB 1 rfl 0 rfl; have HS2 := Lib.hid hs7; clear hy hs hs7 HS5))
            have hLD2 : ∀ W : World, W.rangeAt B7 0 (o8L o) → (loadVar 34 ⟨B7, 0, none⟩).run Tryd.prog W = .ok (.agg (o8V o)) W := fun W h => lvOb h
            go_region_held3 (fun W => W.cell? ⟨B1, 0, none⟩ = some (.pointer (some ⟨p, 0, none⟩)) ∧ W.cell? ⟨B2, 0, none⟩ = some (.pointer (some ⟨q, 0, none⟩)) ∧ W.rangeAt B7 0 (o8L o))
              (first | exact ⟨HS2.out.cellB 1 rfl 0 rfl, HS2.out.cellB 2 rfl 0 rfl, range_O0 (HS2.out.get 0 rfl)⟩ | exact ⟨HS2.out.drew.cellB 1 rfl 0 rfl, HS2.out.drew.cellB 2 rfl 0 rfl, range_O0 (HS2.out.drew.get 0 rfl)⟩)
              (first
                | (go_at_call 12; refine (c_one (w0 := w) (by first | exact HS2.out | exact HS2.out.drew) 3 (by rfl) 4 (by rfl) HY.out HKK.out.1 HKK.out.2 (Int.le_refl _) (show (0 : Int) < 4000000000000000000 by decide) rfl HBO.out).mono ?_; rintro e w9 ⟨c', y', rfl, hy, hk, hab, hh, hs⟩; have HY := Lib.hid hy; have HKK := Lib.hid (And.intro hk hab); have HH : Hid (c'.hrd ≤ 0 + 1) := Lib.hid hh; have HS2 := Lib.hid hs; clear hy hk hab hh hs))
            all_goals
              go_wp2_with fail
              go_roundw
              case rel => exact ⟨i + 1, by omega, by go_num, Lib.hid (HFin.out _ _ _ _ _ _ _ ⟨.inr ⟨p, mm, q, c', y', rfl, rfl, HY.out, HKK.out.1, HKK.out.2, by have := HH.out; omega, rfl⟩, HG.out.2.mono (by omega)⟩ (HS2.out.sub (List.sublist_cons_self _ _)))⟩
              case measure => simp [intOf]; omega
        · have hkk : (o.k == 1) = false := by simpa using hk1
          clear hk1
          rcases HGk.out with ⟨rfl, rfl, rfl⟩ | ⟨p, mm, q, c, y, rfl, rfl, hy, hk, hab, hh, rfl⟩
          · go_wp2_with (first
              | (refine gate_ (.alloc 34) rfl ?_; go_must (refine wpList_alloc_B rfl 34 rfl _ zero34 B7 HN7.out HS.out ?_; intro w3 hz hs; clear hz; have HS1 := Lib.hid hs.front1; clear hs))
              | (refine gate_ (.store 34 (.tmp 7) (.tmp 27)) rfl ?_; go_must (refine wpList_store_B HS1.out 0 rfl rfl rfl 34 (.tmp 7) (.tmp 27) rfl (o8V o) rfl rfl (by rw [o8V_size]; exact sizO8) (by rw [o8V_size]; exact o8V_size _) (o8V_one _) ?_; intro w4 hs; have HS2 := Lib.hid hs; have k0 := hs.cellB 0 rfl 0 (show (o8V o)[0]? = some (.int .i64 o.k) from rfl); have k1 := hs.cellB 0 rfl 1 (show (o8V o)[1]? = some (.int .i64 o.t) from rfl); have y5 := hs.cellB 1 rfl 0 rfl; clear hs HS1)))
            go_roundw
            case rel => exact ⟨i + 1, by omega, by go_num, Lib.hid (HFin.out _ _ _ _ _ _ _ ⟨.inl ⟨rfl, rfl, rfl⟩, HG.out.2.mono (by omega)⟩ (HS2.out.sub (List.sublist_cons_self _ _)))⟩
            case measure => simp [intOf]; omega
          · have HY := Lib.hid hy
            have HKK := Lib.hid (And.intro hk hab)
            have HH := Lib.hid hh
            clear hy hk hab hh
            go_wp2_with (first
              | (refine gate_ (.alloc 34) rfl ?_; go_must (refine wpList_alloc_B rfl 34 rfl _ zero34 B7 HN7.out HS.out ?_; intro w3 hz hs; clear hz; have HS1 := Lib.hid hs.front1; clear hs))
              | (refine gate_ (.store 34 (.tmp 7) (.tmp 27)) rfl ?_; go_must (refine wpList_store_B HS1.out 0 rfl rfl rfl 34 (.tmp 7) (.tmp 27) rfl (o8V o) rfl rfl (by rw [o8V_size]; exact sizO8) (by rw [o8V_size]; exact o8V_size _) (o8V_one _) ?_; intro w4 hs; have HS2 := Lib.hid hs; have k0 := hs.cellB 0 rfl 0 (show (o8V o)[0]? = some (.int .i64 o.k) from rfl); have k1 := hs.cellB 0 rfl 1 (show (o8V o)[1]? = some (.int .i64 o.t) from rfl); have y5 := hs.cellB 1 rfl 0 rfl; clear hs HS1)))
            have hLD2 : ∀ W : World, W.rangeAt B7 0 (o8L o) → (loadVar 34 ⟨B7, 0, none⟩).run Tryd.prog W = .ok (.agg (o8V o)) W := fun W h => lvOb h
            replace HS2 := Lib.hid HS2.out
            go_region_held3 (fun W => W.cell? ⟨B1, 0, none⟩ = some (.pointer (some ⟨p, 0, none⟩)) ∧ W.cell? ⟨B2, 0, none⟩ = some (.pointer (some ⟨q, 0, none⟩)) ∧ W.rangeAt B7 0 (o8L o))
              (first | exact ⟨HS2.out.cellB 1 rfl 0 rfl, HS2.out.cellB 2 rfl 0 rfl, range_O0 (HS2.out.get 0 rfl)⟩ | exact ⟨HS2.out.drew.cellB 1 rfl 0 rfl, HS2.out.drew.cellB 2 rfl 0 rfl, range_O0 (HS2.out.drew.get 0 rfl)⟩)
              (first
                | (go_at_call 12; refine (c_one (w0 := w) (by first | exact HS2.out | exact HS2.out.drew) 3 (by rfl) 4 (by rfl) HY.out HKK.out.1 HKK.out.2 HH.out HLT.out rfl HBO.out).mono ?_; rintro e w9 ⟨c', y', rfl, hy, hk, hab, hh, hs⟩; have HY := Lib.hid hy; have HKK := Lib.hid (And.intro hk hab); have HH := Lib.hid hh; have HS2 := Lib.hid hs; clear hy hk hab hh hs))
            all_goals
              go_wp2_with fail
              go_roundw
              case rel => exact ⟨i + 1, by omega, by go_num, Lib.hid (HFin.out _ _ _ _ _ _ _ ⟨.inr ⟨p, mm, q, c', y', rfl, rfl, HY.out, HKK.out.1, HKK.out.2, by have := HH.out; omega, rfl⟩, HG.out.2.mono (by omega)⟩ (HS2.out.sub (List.sublist_cons_self _ _)))⟩
              case measure => simp [intOf]; omega
      · rw [hm] at had
        clear hm
        have HGk := Lib.hid HG.out.2
        by_cases hk1 : o.k = 1
        · have hkk : (o.k == 1) = true := by simpa using hk1
          by_cases hb : o.E < 1 ∨ 64 < o.E ∨ o.A < 1 ∨ 1099511627776 < o.A
          · have HNW : Hid (∀ W Γ, St w W Γ → Calls Tryd.prog 10 #[paV o.E o.A] W fun e w' => e = .returned (.tuple #[.pointer none, .int .i64 1]) ∧ St w w' Γ) := Lib.hid fun W Γ h => c_new_no h o.E o.A hb
            have HRN : Hid (∀ W Γ, St w W Γ → Calls Tryd.prog 11 #[paV o.E o.A] W fun e w' => e = .returned (.tuple #[.pointer none, .int .i64 1]) ∧ St w w' Γ) := Lib.hid fun W Γ h => r_new_no h o.E o.A hb
            clear hb
            rcases HGk.out with ⟨rfl, rfl, rfl⟩ | ⟨p, mm, q, c, y, rfl, rfl, hy, hk, hab, hh, rfl⟩
            · go_wp2_with (first
                | (refine gate_ (.alloc 34) rfl ?_; go_must (refine wpList_alloc_B rfl 34 rfl _ zero34 B7 HN7.out HS.out ?_; intro w3 hz hs; clear hz; have HS1 := Lib.hid hs.front1; clear hs))
                | (refine gate_ (.store 34 (.tmp 7) (.tmp 27)) rfl ?_; go_must (refine wpList_store_B HS1.out 0 rfl rfl rfl 34 (.tmp 7) (.tmp 27) rfl (o8V o) rfl rfl (by rw [o8V_size]; exact sizO8) (by rw [o8V_size]; exact o8V_size _) (o8V_one _) ?_; intro w4 hs; have HS2 := Lib.hid hs; have k0 := hs.cellB 0 rfl 0 (show (o8V o)[0]? = some (.int .i64 o.k) from rfl); have k1 := hs.cellB 0 rfl 1 (show (o8V o)[1]? = some (.int .i64 o.t) from rfl); clear hs HS1))
                | (refine gate_ (.load 29 (.tmp 35)) rfl ?_; go_must (refine ld_P (.tmp 35) rfl rfl (HS2.out.get 0 rfl) rfl ?_))
                | (refine gate_ (.load 29 (.tmp 41)) rfl ?_; go_must (refine ld_P (.tmp 41) rfl rfl (HS2.out.get 0 rfl) rfl ?_))
                | (go_at_call 10; refine (HNW.out _ _ HS2.out).mono ?_; rintro e w5 ⟨rfl, hs⟩; replace HS2 := Lib.hid hs; clear hs)
                | (go_at_call 11; refine (HRN.out _ _ HS2.out).mono ?_; rintro e w6 ⟨rfl, hs⟩; have y5 := hs.cellB 1 rfl 1 rfl; replace HS2 := Lib.hid hs; clear hs))
              go_roundw
              case rel => exact ⟨i + 1, by omega, by go_num, Lib.hid (HFin.out _ _ _ _ _ _ _ ⟨HG.out.1.mono (by omega), .inl ⟨rfl, rfl, rfl⟩⟩ (HS2.out.sub (List.sublist_cons_self _ _)))⟩
              case measure => simp [intOf]; omega
            · have HY := Lib.hid hy
              have HKK := Lib.hid (And.intro hk hab)
              have HH := Lib.hid hh
              clear hy hk hab hh
              go_wp2_with (first
                | (refine gate_ (.alloc 34) rfl ?_; go_must (refine wpList_alloc_B rfl 34 rfl _ zero34 B7 HN7.out HS.out ?_; intro w3 hz hs; clear hz; have HS1 := Lib.hid hs.front1; clear hs))
                | (refine gate_ (.store 34 (.tmp 7) (.tmp 27)) rfl ?_; go_must (refine wpList_store_B HS1.out 0 rfl rfl rfl 34 (.tmp 7) (.tmp 27) rfl (o8V o) rfl rfl (by rw [o8V_size]; exact sizO8) (by rw [o8V_size]; exact o8V_size _) (o8V_one _) ?_; intro w4 hs; have HS2 := Lib.hid hs; have k0 := hs.cellB 0 rfl 0 (show (o8V o)[0]? = some (.int .i64 o.k) from rfl); have k1 := hs.cellB 0 rfl 1 (show (o8V o)[1]? = some (.int .i64 o.t) from rfl); clear hs HS1))
                | (refine gate_ (.load 29 (.tmp 35)) rfl ?_; go_must (refine ld_P (.tmp 35) rfl rfl (HS2.out.get 0 rfl) rfl ?_))
                | (refine gate_ (.load 29 (.tmp 41)) rfl ?_; go_must (refine ld_P (.tmp 41) rfl rfl (HS2.out.get 0 rfl) rfl ?_))
                | (go_at_call 10; refine (HNW.out _ _ HS2.out).mono ?_; rintro e w5 ⟨rfl, hs⟩; replace HS2 := Lib.hid hs; clear hs)
                | (go_at_call 11; refine (HRN.out _ _ HS2.out).mono ?_; rintro e w6 ⟨rfl, hs⟩; have y5 := hs.cellB 1 rfl 1 rfl; replace HS2 := Lib.hid hs; clear hs))
              have hLD2 : ∀ W : World, W.rangeAt B7 0 (o8L o) → (loadVar 34 ⟨B7, 0, none⟩).run Tryd.prog W = .ok (.agg (o8V o)) W := fun W h => lvOb h
              replace HS2 := Lib.hid HS2.out
              go_region_held3 (fun W => W.cell? ⟨B1, 1, none⟩ = some (.pointer (some ⟨p, 0, none⟩)) ∧ W.cell? ⟨B2, 1, none⟩ = some (.pointer (some ⟨q, 0, none⟩)) ∧ W.rangeAt B7 0 (o8L o))
                (first | exact ⟨HS2.out.cellB 1 rfl 1 rfl, HS2.out.cellB 2 rfl 1 rfl, range_O0 (HS2.out.get 0 rfl)⟩ | exact ⟨HS2.out.drew.cellB 1 rfl 1 rfl, HS2.out.drew.cellB 2 rfl 1 rfl, range_O0 (HS2.out.drew.get 0 rfl)⟩)
                (first
                  | (go_at_call 12; refine (c_one (w0 := w) (by first | exact HS2.out | exact HS2.out.drew) 4 (by rfl) 4 (by rfl) HY.out HKK.out.1 HKK.out.2 HH.out HLT.out rfl HBO.out).mono ?_; rintro e w9 ⟨c', y', rfl, hy, hk, hab, hh, hs⟩; have HY := Lib.hid hy; have HKK := Lib.hid (And.intro hk hab); have HH := Lib.hid hh; have HS2 := Lib.hid hs; clear hy hk hab hh hs))
              all_goals
                go_wp2_with fail
                go_roundw
                case rel => exact ⟨i + 1, by omega, by go_num, Lib.hid (HFin.out _ _ _ _ _ _ _ ⟨HG.out.1.mono (by omega), .inr ⟨p, mm, q, c', y', rfl, rfl, HY.out, HKK.out.1, HKK.out.2, by have := HH.out; omega, rfl⟩⟩ (HS2.out.sub (List.sublist_cons_self _ _)))⟩
                case measure => simp [intOf]; omega
          · have HNW : Hid (∀ W Γ, St w W Γ → Calls Tryd.prog 10 #[paV o.E o.A] W fun e w' => ∃ p m, e = .returned (.tuple #[.pointer (some ⟨p, 0, none⟩), .int .i64 0]) ∧ St w w' (obC p m ⟨o.E, o.A, [], 0, 0⟩ :: Γ)) := Lib.hid fun W Γ h => (c_new_yes h o.E o.A hb).mono fun e w' ⟨p, m, he, hs⟩ => ⟨p, m, he, hs.front1⟩
            have HRN : Hid (∀ W Γ, St w W Γ → Calls Tryd.prog 11 #[paV o.E o.A] W fun e w' => ∃ q y, e = .returned (.tuple #[.pointer (some ⟨q, 0, none⟩), .int .i64 0]) ∧ RcSt.Is y q ⟨o.E, o.A, [], 0, 0⟩ ∧ St w w' (obRc y :: Γ)) := Lib.hid fun W Γ h => r_new_yes h o.E o.A hb
            have HKK : Hid (OkC ⟨o.E, o.A, [], 0, 0⟩ ∧ AllB ⟨o.E, o.A, [], 0, 0⟩) := Lib.hid ⟨okNew hb, fun x hx => by cases hx⟩
            clear hb
            go_wp2_with (first
              | (refine gate_ (.alloc 34) rfl ?_; go_must (refine wpList_alloc_B rfl 34 rfl _ zero34 B7 HN7.out HS.out ?_; intro w3 hz hs; clear hz; have HS1 := Lib.hid hs.front1; clear hs))
              | (refine gate_ (.store 34 (.tmp 7) (.tmp 27)) rfl ?_; go_must (refine wpList_store_B HS1.out 0 rfl rfl rfl 34 (.tmp 7) (.tmp 27) rfl (o8V o) rfl rfl (by rw [o8V_size]; exact sizO8) (by rw [o8V_size]; exact o8V_size _) (o8V_one _) ?_; intro w4 hs; have HS2 := Lib.hid hs; have k0 := hs.cellB 0 rfl 0 (show (o8V o)[0]? = some (.int .i64 o.k) from rfl); have k1 := hs.cellB 0 rfl 1 (show (o8V o)[1]? = some (.int .i64 o.t) from rfl); clear hs HS1))
              | (refine gate_ (.load 29 (.tmp 35)) rfl ?_; go_must (refine ld_P (.tmp 35) rfl rfl (HS2.out.get 0 rfl) rfl ?_))
              | (refine gate_ (.load 29 (.tmp 41)) rfl ?_; go_must (refine ld_P (.tmp 41) rfl rfl (HS5.out.get 1 rfl) rfl ?_))
              | (go_at_call 10; refine (HNW.out _ _ HS2.out).mono ?_; rintro e w5 ⟨p, mm, rfl, hs⟩; have HS5 := Lib.hid hs; clear hs)
              | (go_at_call 11; refine (HRN.out _ _ HS5.out).mono ?_; rintro e w6 ⟨q, y, rfl, hy, hs⟩; have HY := Lib.hid hy; have y1 := hs.cellB 3 rfl 1 rfl; have y2 := hs.freeB 3 rfl 1; have HS6 := Lib.hid (hs.setB 3 rfl 1 (.pointer (some ⟨p, 0, none⟩))); have y3 := HS6.out.cellB 4 rfl 1 rfl; have y4 := HS6.out.freeB 4 rfl 1; have hs7 := (St.pairJ (HS6.out.setB 4 rfl 1 (.pointer (some ⟨q, 0, none⟩)))).2; have y5 := hs7.cellB 1 rfl 1 rfl; have HS2 := Lib.hid hs7; clear hy hs hs7 HS5))
            have hLD2 : ∀ W : World, W.rangeAt B7 0 (o8L o) → (loadVar 34 ⟨B7, 0, none⟩).run Tryd.prog W = .ok (.agg (o8V o)) W := fun W h => lvOb h
            go_region_held3 (fun W => W.cell? ⟨B1, 1, none⟩ = some (.pointer (some ⟨p, 0, none⟩)) ∧ W.cell? ⟨B2, 1, none⟩ = some (.pointer (some ⟨q, 0, none⟩)) ∧ W.rangeAt B7 0 (o8L o))
              (first | exact ⟨HS2.out.cellB 1 rfl 1 rfl, HS2.out.cellB 2 rfl 1 rfl, range_O0 (HS2.out.get 0 rfl)⟩ | exact ⟨HS2.out.drew.cellB 1 rfl 1 rfl, HS2.out.drew.cellB 2 rfl 1 rfl, range_O0 (HS2.out.drew.get 0 rfl)⟩)
              (first
                | (go_at_call 12; refine (c_one (w0 := w) (by first | exact HS2.out | exact HS2.out.drew) 4 (by rfl) 4 (by rfl) HY.out HKK.out.1 HKK.out.2 (Int.le_refl _) (show (0 : Int) < 4000000000000000000 by decide) rfl HBO.out).mono ?_; rintro e w9 ⟨c', y', rfl, hy, hk, hab, hh, hs⟩; have HY := Lib.hid hy; have HKK := Lib.hid (And.intro hk hab); have HH : Hid (c'.hrd ≤ 0 + 1) := Lib.hid hh; have HS2 := Lib.hid hs; clear hy hk hab hh hs))
            all_goals
              go_wp2_with fail
              go_roundw
              case rel => exact ⟨i + 1, by omega, by go_num, Lib.hid (HFin.out _ _ _ _ _ _ _ ⟨HG.out.1.mono (by omega), .inr ⟨p, mm, q, c', y', rfl, rfl, HY.out, HKK.out.1, HKK.out.2, by have := HH.out; omega, rfl⟩⟩ (HS2.out.sub (List.sublist_cons_self _ _)))⟩
              case measure => simp [intOf]; omega
        · have hkk : (o.k == 1) = false := by simpa using hk1
          clear hk1
          rcases HGk.out with ⟨rfl, rfl, rfl⟩ | ⟨p, mm, q, c, y, rfl, rfl, hy, hk, hab, hh, rfl⟩
          · go_wp2_with (first
              | (refine gate_ (.alloc 34) rfl ?_; go_must (refine wpList_alloc_B rfl 34 rfl _ zero34 B7 HN7.out HS.out ?_; intro w3 hz hs; clear hz; have HS1 := Lib.hid hs.front1; clear hs))
              | (refine gate_ (.store 34 (.tmp 7) (.tmp 27)) rfl ?_; go_must (refine wpList_store_B HS1.out 0 rfl rfl rfl 34 (.tmp 7) (.tmp 27) rfl (o8V o) rfl rfl (by rw [o8V_size]; exact sizO8) (by rw [o8V_size]; exact o8V_size _) (o8V_one _) ?_; intro w4 hs; have HS2 := Lib.hid hs; have k0 := hs.cellB 0 rfl 0 (show (o8V o)[0]? = some (.int .i64 o.k) from rfl); have k1 := hs.cellB 0 rfl 1 (show (o8V o)[1]? = some (.int .i64 o.t) from rfl); have y5 := hs.cellB 1 rfl 1 rfl; clear hs HS1)))
            go_roundw
            case rel => exact ⟨i + 1, by omega, by go_num, Lib.hid (HFin.out _ _ _ _ _ _ _ ⟨HG.out.1.mono (by omega), .inl ⟨rfl, rfl, rfl⟩⟩ (HS2.out.sub (List.sublist_cons_self _ _)))⟩
            case measure => simp [intOf]; omega
          · have HY := Lib.hid hy
            have HKK := Lib.hid (And.intro hk hab)
            have HH := Lib.hid hh
            clear hy hk hab hh
            go_wp2_with (first
              | (refine gate_ (.alloc 34) rfl ?_; go_must (refine wpList_alloc_B rfl 34 rfl _ zero34 B7 HN7.out HS.out ?_; intro w3 hz hs; clear hz; have HS1 := Lib.hid hs.front1; clear hs))
              | (refine gate_ (.store 34 (.tmp 7) (.tmp 27)) rfl ?_; go_must (refine wpList_store_B HS1.out 0 rfl rfl rfl 34 (.tmp 7) (.tmp 27) rfl (o8V o) rfl rfl (by rw [o8V_size]; exact sizO8) (by rw [o8V_size]; exact o8V_size _) (o8V_one _) ?_; intro w4 hs; have HS2 := Lib.hid hs; have k0 := hs.cellB 0 rfl 0 (show (o8V o)[0]? = some (.int .i64 o.k) from rfl); have k1 := hs.cellB 0 rfl 1 (show (o8V o)[1]? = some (.int .i64 o.t) from rfl); have y5 := hs.cellB 1 rfl 1 rfl; clear hs HS1)))
            have hLD2 : ∀ W : World, W.rangeAt B7 0 (o8L o) → (loadVar 34 ⟨B7, 0, none⟩).run Tryd.prog W = .ok (.agg (o8V o)) W := fun W h => lvOb h
            replace HS2 := Lib.hid HS2.out
            go_region_held3 (fun W => W.cell? ⟨B1, 1, none⟩ = some (.pointer (some ⟨p, 0, none⟩)) ∧ W.cell? ⟨B2, 1, none⟩ = some (.pointer (some ⟨q, 0, none⟩)) ∧ W.rangeAt B7 0 (o8L o))
              (first | exact ⟨HS2.out.cellB 1 rfl 1 rfl, HS2.out.cellB 2 rfl 1 rfl, range_O0 (HS2.out.get 0 rfl)⟩ | exact ⟨HS2.out.drew.cellB 1 rfl 1 rfl, HS2.out.drew.cellB 2 rfl 1 rfl, range_O0 (HS2.out.drew.get 0 rfl)⟩)
              (first
                | (go_at_call 12; refine (c_one (w0 := w) (by first | exact HS2.out | exact HS2.out.drew) 4 (by rfl) 4 (by rfl) HY.out HKK.out.1 HKK.out.2 HH.out HLT.out rfl HBO.out).mono ?_; rintro e w9 ⟨c', y', rfl, hy, hk, hab, hh, hs⟩; have HY := Lib.hid hy; have HKK := Lib.hid (And.intro hk hab); have HH := Lib.hid hh; have HS2 := Lib.hid hs; clear hy hk hab hh hs))
            all_goals
              go_wp2_with fail
              go_roundw
              case rel => exact ⟨i + 1, by omega, by go_num, Lib.hid (HFin.out _ _ _ _ _ _ _ ⟨HG.out.1.mono (by omega), .inr ⟨p, mm, q, c', y', rfl, rfl, HY.out, HKK.out.1, HKK.out.2, by have := HH.out; omega, rfl⟩⟩ (HS2.out.sub (List.sublist_cons_self _ _)))⟩
              case measure => simp [intOf]; omega
    · obtain rfl : i = z.length := by omega
      have hiz : ¬ (z.length : Int) < (z.length : Int) := by omega
      clear HO HOK
      go_wp2_with fail
      go_loopw [14] (fun s14 wr => ∃ k : Int, (k = 0 ∨ k = 1 ∨ k = 2) ∧ s14 = .int .i64 k ∧ Hid (PlJ w B1 B2 4000000000000 wr)) (fun s14 _ => 2 - (intOf s14).toNat)
      case atStart =>
        obtain ⟨a0, b0, o0, a1, b1, o1, g0, g1, hst⟩ := HI.out
        exact ⟨0, .inl rfl, rfl, Lib.hid ⟨a0, b0, o0, a1, b1, o1, g0.mono (by omega), g1.mono (by omega), hst⟩⟩
      case round =>
        clear HI
        obtain ⟨k, hk3, rfl, HI⟩ := hrel
        obtain ⟨a0, b0, o0, a1, b1, o1, g0, g1, hst⟩ := HI.out
        have HG := Lib.hid (And.intro g0 g1)
        have HS := Lib.hid hst
        have HFin : Hid (∀ M a0 b0 o0 a1 b1 o1 w', PrJ a0 b0 o0 M ∧ PrJ a1 b1 o1 M → St w w' [obB B1 #[.pointer a0, .pointer a1] 25, obB B2 #[.pointer b0, .pointer b1] 27, o0, o1, obG] → PlJ w B1 B2 M w') := Lib.hid fun M a0 b0 o0 a1 b1 o1 w' h1 h2 => ⟨a0, b0, o0, a1, b1, o1, h1.1, h1.2, h2⟩
        clear g0 g1 hst HI
        rcases hk3 with rfl | rfl | rfl
        · have HGk := Lib.hid HG.out.1
          have x1 := HS.out.cellB 0 rfl 0 rfl
          rcases HGk.out with ⟨rfl, rfl, rfl⟩ | ⟨p, mm, q, c, y, rfl, rfl, hy, hk, hab, hh, rfl⟩
          · have HSd := Lib.hid fun n => HS.out.drewN n
            go_wp2_with fail
            go_quiet (fail)
            go_wp2_with fail
            go_roundw
            case rel => exact ⟨1, by decide, by go_num, Lib.hid (HFin.out _ _ _ _ _ _ _ _ HG.out (HSd.out _))⟩
            case measure => simp [intOf]
          · have HY := Lib.hid hy
            have HKK := Lib.hid (And.intro hk hab)
            obtain ⟨tl, htl⟩ : ∃ tl, ordS (c.M.map (·.1)) = tl := ⟨_, rfl⟩
            have Htl := Lib.hid htl
            have HTL : Hid (tl.length ≤ 1000) := Lib.hid (by rw [← htl]; exact allS_len hk)
            have HSG := HS
            clear hy hk hab hh htl
            go_wp2_with fail
            go_region_held3 (fun W => W.cell? ⟨B1, 0, none⟩ = some (.pointer (some ⟨p, 0, none⟩)) ∧ W.cell? ⟨B2, 0, none⟩ = some (.pointer (some ⟨q, 0, none⟩)))
              (first | exact ⟨HS.out.cellB 0 rfl 0 rfl, HS.out.cellB 1 rfl 0 rfl⟩ | exact ⟨HS.out.drew.cellB 0 rfl 0 rfl, HS.out.drew.cellB 1 rfl 0 rfl⟩ | exact ⟨HS.out.cellB 1 rfl 0 rfl, HS.out.cellB 2 rfl 0 rfl⟩ | exact ⟨HS.out.cellB 2 rfl 0 rfl, HS.out.cellB 3 rfl 0 rfl⟩)
              (first
                | (go_at_call 14; first
                  | (refine (c_allP (w0 := w) (by first | exact HS.out | exact HS.out.drew) 2 (by rfl) HKK.out.1 HKK.out.2 Htl.out).mono ?_; rintro e w7 ⟨A1, cp1, rfl, hs⟩; have HS := Lib.hid hs; clear hs)
                  | (refine (c_allP (w0 := w) (by first | exact HS.out | exact HS.out.drew) 3 (by rfl) HKK.out.1 HKK.out.2 Htl.out).mono ?_; rintro e w7 ⟨A1, cp1, rfl, hs⟩; have HS := Lib.hid hs; clear hs))
                | (go_at_call 15; first
                  | (refine (r_allP (w0 := w) (by first | exact HS.out | exact HS.out.drew) 2 (by rfl) HY.out HKK.out.1 Htl.out).mono ?_; rintro e w8 ⟨A2, cp2, rfl, hs⟩; have HS := Lib.hid hs; clear hs)
                  | (refine (r_allP (w0 := w) (by first | exact HS.out | exact HS.out.drew) 3 (by rfl) HY.out HKK.out.1 Htl.out).mono ?_; rintro e w8 ⟨A2, cp2, rfl, hs⟩; have HS := Lib.hid hs; clear hs))
                | (go_at_call 13; first
                  | (refine (c_sameG HS.out 1 0 (by rfl) (by rfl) HTL.out).mono ?_; rintro e w9 ⟨rfl, hs⟩; have HS := Lib.hid hs; clear hs)
                  | (refine (c_sameG HS.out 0 1 (by rfl) (by rfl) HTL.out).mono ?_; rintro e w9 ⟨rfl, hs⟩; have HS := Lib.hid hs; clear hs)))
            all_goals
              go_wp2_with fail
              go_roundw
              case rel => exact ⟨1, by decide, by go_num, Lib.hid (HFin.out _ _ _ _ _ _ _ _ HG.out (HS.out.sub ((List.sublist_cons_self _ _).trans (List.sublist_cons_self _ _))))⟩
              case measure => simp [intOf]
        · have HGk := Lib.hid HG.out.2
          have x1 := HS.out.cellB 0 rfl 1 rfl
          rcases HGk.out with ⟨rfl, rfl, rfl⟩ | ⟨p, mm, q, c, y, rfl, rfl, hy, hk, hab, hh, rfl⟩
          · have HSd := Lib.hid fun n => HS.out.drewN n
            go_wp2_with fail
            go_quiet (fail)
            go_wp2_with fail
            go_roundw
            case rel => exact ⟨2, by decide, by go_num, Lib.hid (HFin.out _ _ _ _ _ _ _ _ HG.out (HSd.out _))⟩
            case measure => simp [intOf]
          · have HY := Lib.hid hy
            have HKK := Lib.hid (And.intro hk hab)
            obtain ⟨tl, htl⟩ : ∃ tl, ordS (c.M.map (·.1)) = tl := ⟨_, rfl⟩
            have Htl := Lib.hid htl
            have HTL : Hid (tl.length ≤ 1000) := Lib.hid (by rw [← htl]; exact allS_len hk)
            have HSG := HS
            clear hy hk hab hh htl
            go_wp2_with fail
            go_region_held3 (fun W => W.cell? ⟨B1, 1, none⟩ = some (.pointer (some ⟨p, 0, none⟩)) ∧ W.cell? ⟨B2, 1, none⟩ = some (.pointer (some ⟨q, 0, none⟩)))
              (first | exact ⟨HS.out.cellB 0 rfl 1 rfl, HS.out.cellB 1 rfl 1 rfl⟩ | exact ⟨HS.out.drew.cellB 0 rfl 1 rfl, HS.out.drew.cellB 1 rfl 1 rfl⟩ | exact ⟨HS.out.cellB 1 rfl 1 rfl, HS.out.cellB 2 rfl 1 rfl⟩ | exact ⟨HS.out.cellB 2 rfl 1 rfl, HS.out.cellB 3 rfl 1 rfl⟩)
              (first
                | (go_at_call 14; first
                  | (refine (c_allP (w0 := w) (by first | exact HS.out | exact HS.out.drew) 3 (by rfl) HKK.out.1 HKK.out.2 Htl.out).mono ?_; rintro e w7 ⟨A1, cp1, rfl, hs⟩; have HS := Lib.hid hs; clear hs)
                  | (refine (c_allP (w0 := w) (by first | exact HS.out | exact HS.out.drew) 4 (by rfl) HKK.out.1 HKK.out.2 Htl.out).mono ?_; rintro e w7 ⟨A1, cp1, rfl, hs⟩; have HS := Lib.hid hs; clear hs))
                | (go_at_call 15; first
                  | (refine (r_allP (w0 := w) (by first | exact HS.out | exact HS.out.drew) 3 (by rfl) HY.out HKK.out.1 Htl.out).mono ?_; rintro e w8 ⟨A2, cp2, rfl, hs⟩; have HS := Lib.hid hs; clear hs)
                  | (refine (r_allP (w0 := w) (by first | exact HS.out | exact HS.out.drew) 4 (by rfl) HY.out HKK.out.1 Htl.out).mono ?_; rintro e w8 ⟨A2, cp2, rfl, hs⟩; have HS := Lib.hid hs; clear hs))
                | (go_at_call 13; first
                  | (refine (c_sameG HS.out 1 0 (by rfl) (by rfl) HTL.out).mono ?_; rintro e w9 ⟨rfl, hs⟩; have HS := Lib.hid hs; clear hs)
                  | (refine (c_sameG HS.out 0 1 (by rfl) (by rfl) HTL.out).mono ?_; rintro e w9 ⟨rfl, hs⟩; have HS := Lib.hid hs; clear hs)))
            all_goals
              go_wp2_with fail
              go_roundw
              case rel => exact ⟨2, by decide, by go_num, Lib.hid (HFin.out _ _ _ _ _ _ _ _ HG.out (HS.out.sub ((List.sublist_cons_self _ _).trans (List.sublist_cons_self _ _))))⟩
              case measure => simp [intOf]
        · go_wp2_with fail
          go_ret
          exact ⟨rfl, HS.out.bl⟩
end Go.Proofs.YtdinkhhaomblcaaDoor.SL
