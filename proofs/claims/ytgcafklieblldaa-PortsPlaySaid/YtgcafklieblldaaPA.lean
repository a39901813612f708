/- The walk of the statement PortsPlay. No condition but sizes and that bytes are bytes. -/
import Derived.Test.YtgcafklieblldaaP9
namespace Go.Proofs.Ytgcafklieblldaa.SL
open Go.RowKit Go.Proofs.YtgcafklieblldaaW.PrintWords Go.Proofs.YtgcafklieblldaaW.PrintLast Go.Proofs.YtgcafklieblldaaW.PrintMore
/-- One of the two pairs of tables. -/
structure SD where
  p : Nat
  q : Nat
  v : Value
  u : Value
  most : Int
  g : Int
  l : List Bd
def pP : Option SD → Value | none => .pointer none | some d => .pointer (some ⟨d.p, 0, none⟩)
def pR : Option SD → Value | none => .pointer none | some d => .pointer (some ⟨d.q, 0, none⟩)
/-- Nothing. -/
def obN : Ob where
  own := []
  all := []
  holds _ := True
  sub := fun _ h => h
  lt := fun _ _ b hb => by cases hb
  stab := fun _ _ _ _ => trivial
def oT : Option SD → Ob | none => obN | some d => obT d.p d.v d.most d.g d.l
def oU : Option SD → Ob | none => obN | some d => obU d.q d.u d.most d.g d.l
def okD (k : Nat) : Option SD → Prop | none => True | some d => Sz d.most d.g d.l k ∧ WF d.l d.g
theorem okD.up {k : Nat} {D : Option SD} (h : okD k D) : okD (k + 1) D := by
  cases D with
  | none => trivial
  | some d => exact ⟨h.1.up (Nat.le_succ k), h.2⟩
theorem okD0 {p q : Nat} {v u : Value} {n : Int} (h : n ≤ 32) : okD 0 (some ⟨p, q, v, u, n, 0, []⟩) := ⟨⟨h, Int.le_refl _, Int.le_refl _, Nat.zero_le _⟩, ⟨Int.le_refl _, fun x hx => by cases hx⟩⟩
theorem and1 (s : Int) : bits .and .i64 s 1 = 0 ∨ bits .and .i64 s 1 = 1 := by
  have h : ((BitVec.ofInt 64 s &&& BitVec.ofInt 64 1).toNat) ≤ 1 := by
    rw [BitVec.toNat_and]
    exact Nat.and_le_right
  have e : bits .and .i64 s 1 = ((BitVec.ofInt 64 s &&& BitVec.ofInt 64 1).toNat : Int) := by
    show IntKind.i64.wrap ((BitVec.ofInt 64 s &&& BitVec.ofInt 64 1).toNat : Int) = _
    rw [IntKind.wrap_i64]
    omega
  omega
/-- The k-th operation's cells, whole. -/
def OpR (w : World) (ad : Addr) (k : Nat) (x : OpT) : Prop := ∀ j u, (oL x)[j]? = some u → w.cell? ((ad.add (k * 20)).add j) = some u
theorem add_add2 (a : Addr) (m n : Nat) : (a.add m).add n = a.add (m + n) := by
  unfold Addr.add
  by_cases hm : m = 0 <;> by_cases hn : n = 0 <;> simp [hm, hn, Nat.add_assoc]
theorem op_r {w : World} {A : Option Addr} {s : List OpT} (h : kO.C w A s.length s) (k : Nat) (hk : k < s.length) : ∃ ad, A = some ad ∧ OpR w ad k (s.getD k zO) := by
  obtain ⟨ad, c, hA, _, hK, hc⟩ := Kd.C_get h zO (k : Int) (by omega) (by omega)
  obtain rfl : c = oL (s.getD (k : Int).toNat zO) := hK
  rw [Int.toNat_natCast] at hc
  have hc' : ∀ j u, (oL (s.getD k zO))[j]? = some u → w.cell? (ad.add (k * 20 + j)) = some u := hc
  exact ⟨ad, hA, fun j u hu => by rw [add_add2]; exact hc' j u hu⟩
theorem OpR.same {w w' : World} {ad : Addr} {k : Nat} {x : OpT} (h : OpR w ad k x) (hb : w'.heap[ad.block]? = w.heap[ad.block]?) : OpR w' ad k x := fun j u hu => by
  rw [World.cell?_of_block (w := w) (by rw [add_block', add_block']; exact hb)]
  exact h j u hu
theorem OpR.lt {w : World} {ad : Addr} {k : Nat} {x : OpT} (h : OpR w ad k x) : ad.block < w.heap.size := by
  have := World.block_lt_of_cell? w _ (h 0 _ rfl)
  rwa [add_block', add_block'] at this
theorem OpR.below {w w' : World} {ad : Addr} {k : Nat} {x : OpT} (h : OpR w ad k x) (hb : Below w.heap.size w w') : OpR w' ad k x := h.same (hb.block _ h.lt)
theorem OpR.who {w : World} {ad : Addr} {k : Nat} {x : OpT} (h : OpR w ad k x) : w.cell? ⟨(ad.add (k * 20)).block, (ad.add (k * 20)).off + 1, none⟩ = some (.int .i64 x.who) := by
  have := h 1 _ rfl
  unfold Addr.add at this ⊢
  rw [if_neg (by decide)] at this
  exact this
theorem sizO : (Try.prog.info? 35).map (·.size) = some 20 := by kernel_rfl
theorem lvO {w : World} {a : Addr} {x : OpT} (h : ∀ j u, (oL x)[j]? = some u → w.cell? (a.add j) = some u) : (loadVar 35 a).run Try.prog w = .ok (.agg (oV x)) w := by
  have hl : (loadCells a (oL x).length).run Try.prog w = .ok (oL x).toArray w := run_loadCells_list (P := Try.prog) w a (oL x) h
  have hu := Try.underlying35
  have hi := sizO
  rw [oL_len] at hl
  cases hq : Try.prog.info? 35 with
  | none => simp [hq] at hi
  | some i =>
    have hs : i.size = 20 := by simpa [hq] using hi
    have hagg : (isAgg 35).run Try.prog w = .ok true w := by
      unfold isAgg
      rw [Sem.run_bind, run_underlying hu w]
      rfl
    simp [loadVar, Sem.run_bind, hagg, sizeOf, typeInfo, hq, hs, hl, oV]
section
variable {w0 w : World} {Γ : List Ob}
theorem St.void {w' : World} (h : St w0 w Γ) (hb : Below w.heap.size w w') : St w0 w' (Γ ++ [obN]) :=
  h.add hb [obN] (fun o ho => by obtain rfl := List.mem_singleton.1 ho; trivial) (fun o ho b hb => by obtain rfl := List.mem_singleton.1 ho; cases hb) (List.pairwise_singleton _ _)
theorem c_newNo (h : St w0 w Γ) (n : Int) (hn : n < 1 ∨ 32 < n) :
    Calls Try.prog 8 #[.int .i64 n] w fun e w' => e = .returned (.tuple #[.pointer none, .int .i64 1]) ∧ St w0 w' (Γ ++ [obN]) :=
  (new_calls_no n w hn).mono fun _ _ ⟨he, hb⟩ => ⟨he, h.void (by rw [hb]; exact Below.refl _ _)⟩
theorem d_newNo (h : St w0 w Γ) (n : Int) (hn : n < 1 ∨ 32 < n) :
    Calls Try.prog 14 #[.int .i64 n] w fun e w' => e = .returned (.tuple #[.pointer none, .int .i64 1]) ∧ St w0 w' (Γ ++ [obN]) :=
  (newR_no n w hn).mono fun _ _ ⟨he, hb⟩ => ⟨he, h.void (by rw [hb]; exact Below.refl _ _)⟩
/-- Both blocks of pointers. -/
structure Two (w : World) (bp br k : Nat) : Prop where
  f1 : w.frozen? ⟨bp, k, none⟩ = false
  f2 : ∀ u, (w.setCell ⟨bp, k, none⟩ u).frozen? ⟨br, k, none⟩ = false
  c1 : ∃ x, w.cell? ⟨bp, k, none⟩ = some x
  c2 : ∃ x, ∀ u, (w.setCell ⟨bp, k, none⟩ u).cell? ⟨br, k, none⟩ = some x
theorem twoOf (h : St w0 w Γ) {bp br : Nat} {a0 a1 b0 b1 : Value} {T S : TypeId} (h1 : Γ[1]? = some (obB bp #[a0, a1] T)) (h2 : Γ[2]? = some (obB br #[b0, b1] S)) (k : Nat) (hk : k < 2) : Two w bp br k := by
  have g1 : w.heap[bp]? = some (.cells #[a0, a1] T (0, 0)) := h.get 1 h1
  have g2 : ∀ u, (w.setCell ⟨bp, k, none⟩ u).heap[br]? = some (.cells #[b0, b1] S (0, 0)) := fun u => (h.setB 1 h1 k u).get 2 (by rw [List.getElem?_set_ne (by decide)]; exact h2)
  refine ⟨blk_frozen g1 k, fun u => blk_frozen (g2 u) k, ?_, ?_⟩
  · rw [blk_cell g1 k]
    match k, hk with
    | 0, _ => exact ⟨_, rfl⟩
    | 1, _ => exact ⟨_, rfl⟩
  · match k, hk with
    | 0, _ => exact ⟨b0, fun u => by rw [blk_cell (g2 u) 0]; rfl⟩
    | 1, _ => exact ⟨b1, fun u => by rw [blk_cell (g2 u) 1]; rfl⟩
end
abbrev ST (w wr : World) (bs bp br : Nat) (one two : Int) (D0 D1 : Option SD) : Prop := St w wr [obB bs #[.int .i64 one, .int .i64 two] 41, obB bp #[pP D0, pP D1] 42, obB br #[pR D0, pR D1] 44, oT D0, oU D0, oT D1, oU D1]
abbrev ST2 (w wr : World) (bp br : Nat) (D0 D1 : Option SD) : Prop := St w wr [obB bp #[pP D0, pP D1] 42, obB br #[pR D0, pR D1] 44, oT D0, oU D0, oT D1, oU D1]
theorem lvpp (a : Addr) : loadVar 24 a = (do if ← isAgg 24 then pure (.agg (← loadCells a (← sizeOf 24))) else load a) := rfl
theorem lvpr (a : Addr) : loadVar 43 a = (do if ← isAgg 43 then pure (.agg (← loadCells a (← sizeOf 43))) else load a) := rfl
attribute [-go_sem] loadVar
attribute [local go_sem] lv3 lvpp lvpr
set_option maxHeartbeats 4000000 in
set_option maxRecDepth 100000 in
theorem play_law (one two : Int) (A : Option Addr) (c : Nat) (s : List OpT) (w : World) (h0 : kO.C w A s.length s) (hok : ∀ o ∈ s, bOk o.a.b) (hsz : s.length ≤ 3000000000000) :
    Calls Try.prog 4 #[.int .i64 one, .int .i64 two, .slice A s.length c] w fun e w' => e = .returned (.bool true) ∧ Below w.heap.size w w' := by
  have HA : Hid (∀ k, k < s.length → ∃ ad, A = some ad ∧ OpR w ad k (s.getD k zO)) := Lib.hid fun k hk => op_r h0 k hk
  have HOK := Lib.hid hok
  have hbig : s.length ≤ 9223372036854775807 := by omega
  have HZ := Lib.hid hsz
  have HS0 := Lib.hid (St.nil w)
  clear hsz h0 hok
  go_enter Try.func4, Try.ntmps4
  go_wp2_with (first | (go_at_call 7; refine (alive_calls _).mono ?_; rintro e w1 ⟨rfl, hs⟩; replace HS0 := Lib.hid (HS0.out.below hs); clear hs))
  have hs := ((HS0.out.box #[.int .i64 one, .int .i64 two] 41).box #[.pointer none, .pointer none] 42).box #[.pointer none, .pointer none] 44
  have e1 : ∀ (W : World) (o : Obj), (W.alloc o).heap.size = W.heap.size + 1 := fun W o => by simp
  rw [e1, e1, e1] at hs
  have HS : Hid (ST w _ w1.heap.size (w1.heap.size + 1) (w1.heap.size + 1 + 1) one two none none) := Lib.hid ((((hs.void (Below.refl _ _)).void (Below.refl _ _)).void (Below.refl _ _)).void (Below.refl _ _))
  clear hs e1 HS0
  generalize ((w1.alloc (.cells #[.int .i64 one, .int .i64 two] 41)).alloc (.cells #[.pointer none, .pointer none] 42)).alloc (.cells #[.pointer none, .pointer none] 44) = W at HS ⊢
  generalize w1.heap.size = bs at HS ⊢
  generalize bs + 1 + 1 = br at HS ⊢
  generalize bs + 1 = bp at HS ⊢
  go_loopw [10, 11, 12, 13, 14] (fun i _ _ _ _ wr => ∃ (k : Int) (D0 D1 : Option SD), (k = 0 ∨ k = 1 ∨ k = 2) ∧ i = .int .i64 k ∧ Hid (okD 0 D0) ∧ Hid (okD 0 D1) ∧ Hid (ST w wr bs bp br one two D0 D1)) (fun i _ _ _ _ _ => 2 - (intOf i).toNat)
  case atStart => exact ⟨0, none, none, .inl rfl, rfl, Lib.hid trivial, Lib.hid trivial, HS⟩
  case round =>
    obtain ⟨k, D0, D1, hk, rfl, O0, O1, HS2⟩ := hrel
    replace HS := HS2
    clear HS2
    rcases hk with rfl | rfl | rfl
    ·
      have cs : wr.cell? ⟨bs, 0, none⟩ = some (.int .i64 one) := by rw [blk_cell (HS.out.get 0 rfl) 0]; rfl
      by_cases hv : 1 ≤ one ∧ one ≤ 32
      · have HV := Lib.hid hv
        clear hv
        go_wp2_with (first | (go_at_call 8; refine (c_new HS.out one HV.out.1 HV.out.2).mono ?_; rintro e w1 ⟨p, rfl, hs⟩; replace cs : w1.cell? ⟨bs, 0, none⟩ = some (.int .i64 one) := (by rw [blk_cell (hs.get 0 rfl) 0]; rfl); replace HS := Lib.hid hs; clear hs) | (go_at_call 14; refine (d_new HS.out one HV.out.1 HV.out.2).mono ?_; rintro e w2 ⟨q, rfl, hs⟩; have h2 : Two w2 bp br 0 := twoOf hs rfl rfl 0 (by decide); obtain ⟨f1, f2, ⟨x1, g1⟩, ⟨x2, g2⟩⟩ := h2; replace HS := Lib.hid hs; clear hs))
        have HS9 := Lib.hid (((HS.out.setB 1 rfl 0 (.pointer (some ⟨p, 0, none⟩))).setB 2 rfl 0 (.pointer (some ⟨q, 0, none⟩))).pick [0, 1, 2, 7, 8, 5, 6] (by decide))
        clear HS f1 f2 g1 g2
        go_roundw
        case rel => exact ⟨1, (some ⟨p, q, .slice none 0 0, .slice none 0 0, one, 0, []⟩), D1, .inr (.inl rfl), by go_num, (Lib.hid (okD0 HV.out.2)), O1, Lib.hid HS9.out⟩
        case measure => simp [intOf]
      · have HV := Lib.hid (show one < 1 ∨ 32 < one by omega)
        clear hv
        go_wp2_with (first | (go_at_call 8; refine (c_newNo HS.out one HV.out).mono ?_; rintro e w1 ⟨rfl, hs⟩; replace cs : w1.cell? ⟨bs, 0, none⟩ = some (.int .i64 one) := (by rw [blk_cell (hs.get 0 rfl) 0]; rfl); replace HS := Lib.hid hs; clear hs) | (go_at_call 14; refine (d_newNo HS.out one HV.out).mono ?_; rintro e w2 ⟨rfl, hs⟩; have h2 : Two w2 bp br 0 := twoOf hs rfl rfl 0 (by decide); obtain ⟨f1, f2, ⟨x1, g1⟩, ⟨x2, g2⟩⟩ := h2; replace HS := Lib.hid hs; clear hs))
        have HS9 := Lib.hid (((HS.out.setB 1 rfl 0 (.pointer none)).setB 2 rfl 0 (.pointer none)).pick [0, 1, 2, 7, 8, 5, 6] (by decide))
        clear HS f1 f2 g1 g2
        go_roundw
        case rel => exact ⟨1, none, D1, .inr (.inl rfl), by go_num, (Lib.hid trivial), O1, Lib.hid HS9.out⟩
        case measure => simp [intOf]
    ·
      have cs : wr.cell? ⟨bs, 1, none⟩ = some (.int .i64 two) := by rw [blk_cell (HS.out.get 0 rfl) 1]; rfl
      by_cases hv : 1 ≤ two ∧ two ≤ 32
      · have HV := Lib.hid hv
        clear hv
        go_wp2_with (first | (go_at_call 8; refine (c_new HS.out two HV.out.1 HV.out.2).mono ?_; rintro e w1 ⟨p, rfl, hs⟩; replace cs : w1.cell? ⟨bs, 1, none⟩ = some (.int .i64 two) := (by rw [blk_cell (hs.get 0 rfl) 1]; rfl); replace HS := Lib.hid hs; clear hs) | (go_at_call 14; refine (d_new HS.out two HV.out.1 HV.out.2).mono ?_; rintro e w2 ⟨q, rfl, hs⟩; have h2 : Two w2 bp br 1 := twoOf hs rfl rfl 1 (by decide); obtain ⟨f1, f2, ⟨x1, g1⟩, ⟨x2, g2⟩⟩ := h2; replace HS := Lib.hid hs; clear hs))
        have HS9 := Lib.hid (((HS.out.setB 1 rfl 1 (.pointer (some ⟨p, 0, none⟩))).setB 2 rfl 1 (.pointer (some ⟨q, 0, none⟩))).pick [0, 1, 2, 3, 4, 7, 8] (by decide))
        clear HS f1 f2 g1 g2
        go_roundw
        case rel => exact ⟨2, D0, (some ⟨p, q, .slice none 0 0, .slice none 0 0, two, 0, []⟩), .inr (.inr rfl), by go_num, O0, (Lib.hid (okD0 HV.out.2)), Lib.hid HS9.out⟩
        case measure => simp [intOf]
      · have HV := Lib.hid (show two < 1 ∨ 32 < two by omega)
        clear hv
        go_wp2_with (first | (go_at_call 8; refine (c_newNo HS.out two HV.out).mono ?_; rintro e w1 ⟨rfl, hs⟩; replace cs : w1.cell? ⟨bs, 1, none⟩ = some (.int .i64 two) := (by rw [blk_cell (hs.get 0 rfl) 1]; rfl); replace HS := Lib.hid hs; clear hs) | (go_at_call 14; refine (d_newNo HS.out two HV.out).mono ?_; rintro e w2 ⟨rfl, hs⟩; have h2 : Two w2 bp br 1 := twoOf hs rfl rfl 1 (by decide); obtain ⟨f1, f2, ⟨x1, g1⟩, ⟨x2, g2⟩⟩ := h2; replace HS := Lib.hid hs; clear hs))
        have HS9 := Lib.hid (((HS.out.setB 1 rfl 1 (.pointer none)).setB 2 rfl 1 (.pointer none)).pick [0, 1, 2, 3, 4, 7, 8] (by decide))
        clear HS f1 f2 g1 g2
        go_roundw
        case rel => exact ⟨2, D0, none, .inr (.inr rfl), by go_num, O0, (Lib.hid trivial), Lib.hid HS9.out⟩
        case measure => simp [intOf]
    ·
      have HS3 : Hid (ST2 w wr bp br D0 D1) := Lib.hid (HS.out.pick [1, 2, 3, 4, 5, 6] (by decide))
      clear HS
      go_wp2_with fail
      go_loopw [15, 16, 17] (fun i _ _ wr => ∃ (j : Nat) (D0 D1 : Option SD), j ≤ s.length ∧ i = .int .i64 j ∧ Hid (okD j D0) ∧ Hid (okD j D1) ∧ Hid (ST2 w wr bp br D0 D1)) (fun i _ _ _ => s.length - (intOf i).toNat)
      case atStart => exact ⟨0, D0, D1, Nat.zero_le _, rfl, O0, O1, HS3⟩
      case round =>
        clear O0 O1 HS3
        obtain ⟨j, D0, D1, hj, rfl, O0, O1, HS⟩ := hrel
        by_cases hlt : j < s.length
        · have hltz : (j : Int) < (s.length : Int) := by omega
          obtain ⟨ad, rfl, hop⟩ := HA.out j hlt
          have HH := Lib.hid hop
          have hop2 := hop.below HS.out.bl
          clear hop
          have hmem : s.getD j zO ∈ s := by rw [List.getD_eq_getElem?_getD, List.getElem?_eq_getElem hlt]; exact List.getElem_mem hlt
          have HBO := Lib.hid (HOK.out _ hmem)
          have HJ : Hid (j ≤ 3000000000001) := Lib.hid (by have := HZ.out; omega)
          clear hmem
          generalize s.getD j zO = x at HH hop2 HBO
          have ow := hop2.who
          have HP := Lib.hid hop2
          clear hop2
          have hLD : ∀ W : World, OpR W ad j x → (loadVar 35 (ad.add (j * 20))).run Try.prog W = .ok (.agg (oV x)) W := fun W h => lvO h
          rcases and1 x.who with hw | hw
          · cases D0 with
            | none =>
              have q0 : wr.cell? ⟨bp, 0, none⟩ = some (.pointer none) := by rw [blk_cell (HS.out.get 0 rfl) 0]; rfl
              go_wp2_with fail
              go_roundw
              case rel => exact ⟨j + 1, none, D1, by omega, by go_num, Lib.hid O0.out.up, Lib.hid O1.out.up, HS⟩
              case measure => simp [intOf]; omega
            | some d =>
              obtain ⟨p, q, v, u, most, g, l⟩ := d
              have q0 : wr.cell? ⟨bp, 0, none⟩ = some (.pointer (some ⟨p, 0, none⟩)) := by rw [blk_cell (HS.out.get 0 rfl) 0]; rfl
              have q1 : wr.cell? ⟨br, 0, none⟩ = some (.pointer (some ⟨q, 0, none⟩)) := by rw [blk_cell (HS.out.get 1 rfl) 0]; rfl
              have HC := Lib.hid (plays_calls (w0 := w) (w := wr.drew) (p := p) (q := q) (v := v) (u := u) x HBO.out (show Sz most g l j from O0.out.1) (show WF l g from O0.out.2) HJ.out (HS.out.drew.pick [2, 3, 0, 1, 4, 5] (by decide)))
              go_wp2_with fail
              go_region_held3 (fun W => W.cell? ⟨bp, 0, none⟩ = some (.pointer (some ⟨p, 0, none⟩)) ∧ W.cell? ⟨br, 0, none⟩ = some (.pointer (some ⟨q, 0, none⟩)) ∧ OpR W ad j x) (first | exact ⟨q0, q1, HP.out⟩ | exact ⟨by rw [blk_cell (HS1.out.get 2 rfl) 0]; rfl, by rw [blk_cell (HS1.out.get 3 rfl) 0]; rfl, HH.out.below HS1.out.bl⟩) (first | (go_at_call 15; refine HC.out.mono ?_; rintro e w1 ⟨v', u', g', l', rfl, HS1, HQ1, HW1⟩))
              go_wp2_with fail
              go_roundw
              case rel => exact ⟨j + 1, some ⟨p, q, v', u', most, g', l'⟩, D1, by omega, by go_num, Lib.hid ⟨HQ1.out, HW1.out⟩, Lib.hid O1.out.up, Lib.hid (HS1.out.pick [2, 3, 0, 1, 4, 5] (by decide))⟩
              case measure => simp [intOf]; omega
          · cases D1 with
            | none =>
              have q0 : wr.cell? ⟨bp, 1, none⟩ = some (.pointer none) := by rw [blk_cell (HS.out.get 0 rfl) 1]; rfl
              go_wp2_with fail
              go_roundw
              case rel => exact ⟨j + 1, D0, none, by omega, by go_num, Lib.hid O0.out.up, Lib.hid O1.out.up, HS⟩
              case measure => simp [intOf]; omega
            | some d =>
              obtain ⟨p, q, v, u, most, g, l⟩ := d
              have q0 : wr.cell? ⟨bp, 1, none⟩ = some (.pointer (some ⟨p, 0, none⟩)) := by rw [blk_cell (HS.out.get 0 rfl) 1]; rfl
              have q1 : wr.cell? ⟨br, 1, none⟩ = some (.pointer (some ⟨q, 0, none⟩)) := by rw [blk_cell (HS.out.get 1 rfl) 1]; rfl
              have HC := Lib.hid (plays_calls (w0 := w) (w := wr.drew) (p := p) (q := q) (v := v) (u := u) x HBO.out (show Sz most g l j from O1.out.1) (show WF l g from O1.out.2) HJ.out (HS.out.drew.pick [4, 5, 0, 1, 2, 3] (by decide)))
              go_wp2_with fail
              go_region_held3 (fun W => W.cell? ⟨bp, 1, none⟩ = some (.pointer (some ⟨p, 0, none⟩)) ∧ W.cell? ⟨br, 1, none⟩ = some (.pointer (some ⟨q, 0, none⟩)) ∧ OpR W ad j x) (first | exact ⟨q0, q1, HP.out⟩ | exact ⟨by rw [blk_cell (HS1.out.get 2 rfl) 1]; rfl, by rw [blk_cell (HS1.out.get 3 rfl) 1]; rfl, HH.out.below HS1.out.bl⟩) (first | (go_at_call 15; refine HC.out.mono ?_; rintro e w1 ⟨v', u', g', l', rfl, HS1, HQ1, HW1⟩))
              go_wp2_with fail
              go_roundw
              case rel => exact ⟨j + 1, D0, some ⟨p, q, v', u', most, g', l'⟩, by omega, by go_num, Lib.hid O0.out.up, Lib.hid ⟨HQ1.out, HW1.out⟩, Lib.hid (HS1.out.pick [2, 3, 4, 5, 0, 1] (by decide))⟩
              case measure => simp [intOf]; omega
        · have hltz : ¬ (j : Int) < (s.length : Int) := by omega
          go_wp2_with fail
          go_ret
          exact ⟨rfl, HS.out.bl⟩
end Go.Proofs.Ytgcafklieblldaa.SL
