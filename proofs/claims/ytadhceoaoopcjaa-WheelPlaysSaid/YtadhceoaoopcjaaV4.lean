/- The walk of a wheel's Advance. No condition but sizes. -/
import Derived.Test.YtadhceoaoopcjaaV3
namespace Go.Proofs.Ytadhceoaoopcjaa.SL
open Go.RowKit Go.Proofs.YtadhceoaoopcjaaW.PrintWords Go.Proofs.YtadhceoaoopcjaaW.PrintLast Go.Proofs.YtadhceoaoopcjaaW.PrintMore
def advE (s : Wh) (tk : Int) : Int := if tk < s.now ∨ 1099511627776 < tk then 1 else 0
def dueL (s : Wh) (tk : Int) : List Du := if advE s tk = 0 then ordT (s.L.filter (dueP tk)) else []
def advS (s : Wh) (tk : Int) : Wh := if advE s tk = 0 then advW s tk else s
/-- What Advance tells, and leaves. -/
def AdvP (w0 : World) (Δ : List Ob) (p : Nat) (s : Wh) (tk : Int) (e : Ending) (w' : World) : Prop :=
  ∃ A c, e = .returned (.tuple #[.slice A (dueL s tk).length c, .int .i64 (advE s tk)]) ∧ WAt w0 (obD (.slice A (dueL s tk).length c) (dueL s tk) :: Δ) p (advS s tk) w'
theorem nx_eq (s : Wh) (tk : Int) : nxD s tk = 64 * ringN tk.toNat s.now.toNat + digN tk.toNat (ringN tk.toNat s.now.toNat) := rfl
section
variable {w0 w : World} {Γ Δ : List Ob}
set_option maxHeartbeats 4000000 in
set_option maxRecDepth 100000 in
theorem adv_bad (x : WSt) (hx : x.Ok) (h : St w0 w (x.G ++ Δ)) (tk : Int) (hb : tk < x.s.now ∨ 1099511627776 < tk) :
    Calls Try.prog 14 #[.pointer (some ⟨x.p, 0, none⟩), .int .i64 tk] w (AdvP w0 Δ x.p x.s tk) := by
  have HE := Lib.hid (show advE x.s tk = 1 from if_pos hb)
  have HL : Hid (dueL x.s tk = []) := Lib.hid (by unfold dueL; rw [HE.out]; rfl)
  have HS : Hid (advS x.s tk = x.s) := Lib.hid (by unfold advS; rw [HE.out]; rfl)
  have HF : Hid (AdvP w0 Δ x.p x.s tk (.returned (.tuple #[.slice none 0 0, .int .i64 1])) w) := Lib.hid (by
    refine ⟨none, 0, by rw [HL.out, HE.out]; rfl, x, rfl, hx, HS.out.symm, ?_⟩
    rw [HL.out]
    have h1 := h.addQuiet [obD (.slice none 0 0) []] fun o ho => by
      obtain rfl := List.mem_singleton.1 ho
      exact ⟨rfl, rfl, Kd.R_nil _ _ _ _ _⟩
    exact h1.perm (List.perm_middle (l₁ := x.G)))
  obtain ⟨p, b, hs, ct, now, last, L⟩ := x
  have c0 := (show St w0 w (obH p b now last hs :: (obMp b (prD L) :: (fam 448 (famD hs ct) ++ Δ))) from h).hNow 0 rfl
  have hb' : tk < now ∨ 1099511627776 < tk := hb
  show Calls Try.prog 14 #[.pointer (some ⟨p, 0, none⟩), .int .i64 tk] w (AdvP w0 Δ p ⟨now, last, L⟩ tk)
  clear h hb hx HE HL HS
  by_cases h1 : tk < now
  · clear hb'
    go_enter Try.func14, Try.ntmps14
    go_wp2
    go_ret2
    exact HF.out
  · have h2 : 1099511627776 < tk := by omega
    clear hb'
    go_enter Try.func14, Try.ntmps14
    go_wp2
    go_ret2
    exact HF.out
/-- While the now's place is dealt out. -/
def AdvJ (w0 : World) (Δ : List Ob) (p b : Nat) (s : Wh) (ct : Nat → List Du) (tk : Int) (vl : Value) (l D : List Du) (k : Nat) (v : Value) (wr : World) : Prop :=
  ∃ hs', hs'.length = 448 ∧ St w0 wr ([obD vl l, obH p b tk s.last hs', obMp b (prD s.L), obD v (D ++ (l.take k).filter (dueP tk))] ++ (fam 448 (famD hs' (advK s ct tk l k)) ++ Δ))
theorem AdvJ.yes {p b : Nat} {s : Wh} {ct : Nat → List Du} {tk : Int} {vl : Value} {l D : List Du} {k : Nat} {v1 : Value} {w1 : World} {hs' : List Hdr} (h1 : hs'.length = 448) (hk : k < l.length) (hd : dueP tk l[k] = true)
    (h : St w0 w1 ([obD vl l, obH p b tk s.last hs', obMp b (prD s.L), obD v1 ((D ++ (l.take k).filter (dueP tk)) ++ [l[k]])] ++ (fam 448 (famD hs' (advK s ct tk l k)) ++ Δ))) : AdvJ w0 Δ p b s ct tk vl l D (k + 1) v1 w1 := by
  rw [List.append_assoc D, ← due_succ_yes hk hd] at h
  exact ⟨hs', h1, St.famCt h fun i _ => advK_due hk hd i⟩
theorem AdvJ.no {p b : Nat} {s : Wh} {ct : Nat → List Du} {tk : Int} {vl : Value} {l D : List Du} {k : Nat} {v : Value} {w1 : World} {hs' : List Hdr} (h1 : hs'.length = 448) (hk : k < l.length) (hd : dueP tk l[k] = false)
    (h : St w0 w1 ([obD vl l, obH p b tk s.last hs', obMp b (prD s.L), obD v (D ++ (l.take k).filter (dueP tk))] ++ (fam 448 (famD hs' (putC (advK s ct tk l k) (plD tk l[k]) l[k])) ++ Δ))) : AdvJ w0 Δ p b s ct tk vl l D (k + 1) v w1 := by
  rw [← due_succ_no hk hd] at h
  exact ⟨hs', h1, St.famCt h fun i _ => advK_put hk hd i⟩
theorem AdvJ.cells {p b : Nat} {s : Wh} {ct : Nat → List Du} {tk : Int} {A : Option Addr} {n c : Nat} {l D : List Du} {k : Nat} {v : Value} {wr : World} (h : AdvJ w0 Δ p b s ct tk (.slice A n c) l D k v wr) (hk : k < l.length) :
    ∃ g, A = some ⟨g, 0, none⟩ ∧ wr.cell? ⟨g, k * 3, none⟩ = some (.int .i64 l[k].id) ∧ wr.cell? ⟨g, k * 3 + 1, none⟩ = some (.int .i64 l[k].t) ∧ wr.cell? ⟨g, k * 3 + 2, none⟩ = some (.int .i64 l[k].x) := by
  obtain ⟨hs', h1, h2⟩ := h
  obtain ⟨g, e1, _, e3⟩ := h2.cellD 0 rfl k hk
  exact ⟨g, e1, e3⟩
theorem AdvJ.hdr {p b : Nat} {s : Wh} {ct : Nat → List Du} {tk : Int} {vl : Value} {A : Option Addr} {n c : Nat} {l D : List Du} {k : Nat} {wr : World} (h : AdvJ w0 Δ p b s ct tk vl l D k (.slice A n c) wr) : n = (D ++ (l.take k).filter (dueP tk)).length := by
  obtain ⟨hs', h1, h2⟩ := h
  exact (Kd.R_reads' (h2.get 3 rfl)).1
theorem append_len {v : Value} {w : World} {l : List Du} (h : kD.R 36 w 0 (fun _ => True) v l) : ∃ A c, v = .slice A l.length c := by
  obtain ⟨A, c, e, _⟩ := Kd.R_reads h
  exact ⟨A, c, e⟩
set_option maxHeartbeats 16000000 in
set_option maxRecDepth 100000 in
theorem adv_good (x : WSt) (hx : x.Ok) (h : St w0 w (x.G ++ Δ)) (tk : Int) (hb1 : x.s.now ≤ tk) (hb2 : tk ≤ 1099511627776) :
    Calls Try.prog 14 #[.pointer (some ⟨x.p, 0, none⟩), .int .i64 tk] w (AdvP w0 Δ x.p x.s tk) := by
  have HE := Lib.hid (show advE x.s tk = 0 from if_neg (by omega))
  have HX := Lib.hid hx
  obtain ⟨p, b, hs, ct, now, last, L⟩ := x
  have h' : St w0 w ([obH p b now last hs, obMp b (prD L)] ++ (fam 448 (famD hs ct) ++ Δ)) := h
  have hN0 : 0 ≤ now := hx.ok.n0
  have hN1 : now ≤ 1099511627776 := hx.ok.n1
  have hb1' : now ≤ tk := hb1
  show Calls Try.prog 14 #[.pointer (some ⟨p, 0, none⟩), .int .i64 tk] w (AdvP w0 Δ p ⟨now, last, L⟩ tk)
  have HLE := Lib.hid hb1'
  have HTK : Hid ((0 ≤ tk ∧ tk ≤ 1099511627776) ∧ (0 ≤ now ∧ now ≤ 1099511627776)) := Lib.hid ⟨⟨by omega, hb2⟩, hN0, hN1⟩
  have HI0 : Hid (AdvI w0 Δ p b now last L hs ct 0 (.slice none 0 0) w) := Lib.hid (by
    have h1 := h'.addQuiet [obD (.slice none 0 0) []] fun o ho => by
      obtain rfl := List.mem_singleton.1 ho
      exact ⟨rfl, rfl, Kd.R_nil _ _ _ _ _⟩
    have h2 : St w0 w ([obH p b now last hs, obMp b (prD L), obD (.slice none 0 0) []] ++ (fam 448 (famD hs ct) ++ Δ)) := h1.perm (((List.Perm.swap _ _ _).cons _).trans (List.Perm.swap _ _ _))
    exact ⟨hs, hx.hl, fun _ _ => rfl, h2.famCt fun i _ => ctN_zero ct i⟩)
  have hR := (ring_spec (nat42 hb2) (nat42 hN1)).1
  have HRG := Lib.hid (ring_calls tk now HTK.out.1 HTK.out.2 w)
  have HAT := Lib.hid fun W => at_calls tk (ringN tk.toNat now.toNat) HTK.out.1 (by omega) W
  have HAN := Lib.hid fun W => at_calls now (ringN tk.toNat now.toNat) HTK.out.2 (by omega) W
  have hD := dig_lt tk.toNat (ringN tk.toNat now.toNat)
  have HLO : Hid (∀ i, i < digN now.toNat (ringN tk.toNat now.toNat) → ct (64 * ringN tk.toNat now.toNat + i) = []) := Lib.hid fun i hi => stand_low HX.out.ok HX.out.st (by omega) hi
  have hDN : digN now.toNat (ringN tk.toNat now.toNat) ≤ digN tk.toNat (ringN tk.toNat now.toNat) := dig_ge (nat42 hb2) (nat42 hN1) (by omega)
  have HNX : Hid (nxD ⟨now, last, L⟩ tk = 64 * ringN tk.toNat now.toNat + digN tk.toNat (ringN tk.toNat now.toNat)) := Lib.hid (nx_eq ⟨now, last, L⟩ tk)
  generalize ringN tk.toNat now.toNat = R at *
  generalize digN tk.toNat R = T at *
  generalize digN now.toNat R = D at *
  have c0 := h'.hNow 0 rfl
  have hlt1 : ¬ tk < now := by omega
  have hlt2 : ¬ 1099511627776 < tk := by omega
  clear h h' hx hb1 hb1' hN0 hN1 hb2
  go_enter Try.func14, Try.ntmps14
  go_wp2_with (go_at_call 23; refine HRG.out.mono ?_; rintro e w1 ⟨rfl, rfl⟩)
  clear c0 hlt1 hlt2 HRG
  go_loopw [7, 34] (fun v s34 wr => ∃ r : Nat, r ≤ R ∧ s34 = .int .i64 r ∧ (∃ A c, v = .slice A (flat ct (64 * r)).length c) ∧ Hid (AdvI w0 Δ p b now last L hs ct (64 * r) v wr)) (fun _ s34 _ => R - (intOf s34).toNat)
  case atStart => exact ⟨0, Nat.zero_le _, rfl, ⟨none, 0, rfl⟩, HI0⟩
  case round =>
    obtain ⟨r, hr, rfl, ⟨A, c, rfl⟩, HI⟩ := hrel
    clear HI0
    have hr0 : (0 : Int) ≤ (r : Int) := by omega
    by_cases hlt : r < R
    · have hltz : (r : Int) < (R : Int) := by omega
      go_wp2_with fail
      obtain ⟨wo, rfl⟩ : ∃ wo : World, wo = wr := ⟨_, rfl⟩
      go_loopw [7, 37] (fun v s37 wr => ∃ i : Nat, i ≤ 64 ∧ s37 = .int .i64 i ∧ (∃ A c, v = .slice A (flat ct (64 * r + i)).length c) ∧ Hid (AdvI w0 Δ p b now last L hs ct (64 * r + i) v wr)) (fun _ s37 _ => 64 - (intOf s37).toNat)
      case atStart => exact ⟨0, Nat.zero_le _, rfl, ⟨A, c, rfl⟩, HI⟩
      case round =>
        clear HI
        obtain ⟨i, hi, rfl, ⟨A, c, rfl⟩, HI⟩ := hrel
        have hi0 : (0 : Int) ≤ (i : Int) := by omega
        by_cases hit : i < 64
        · have hitz : (i : Int) < 64 := by omega
          have hr7 : (r : Int) < 7 := by omega
          obtain ⟨s, hs1⟩ : ∃ s, hd hs (64 * r + i) = s := ⟨_, rfl⟩
          have hq := HI.out.hdr (show 64 * r + i < 448 by omega)
          have HT := Lib.hid (take_adv HI.out (show 64 * r + i < 448 by omega))
          have hln : (flat ct (64 * r + i)).length ≤ 4096 := flat_len HX.out.ok HX.out.st (by omega)
          have hln2 : (ct (64 * r + i)).length ≤ 4096 := WSt.ctLen HX.out (show 64 * r + i < 448 by omega)
          rw [hs1] at HT hq
          obtain ⟨A', q', c'⟩ := s
          replace hq : q' = (ct (64 * r + i)).length := hq
          subst hq
          replace HT : Hid (Calls Try.prog 24 #[.pointer (some ⟨p, 2 + r * 64 + i, none⟩)] wr fun e w' => e = .returned (.slice A' (ct (64 * r + i)).length c') ∧ TakenP w0 Δ p b now last L hs ct (64 * r + i) (.slice A (flat ct (64 * r + i)).length c) w') := Lib.hid (by rw [show 2 + r * 64 + i = 2 + (64 * r + i) by omega]; exact HT.out)
          have HS1 := Lib.hid hs1
          have HFL : Hid ((flat ct (64 * r + i + 1)).length = (flat ct (64 * r + i)).length + (ct (64 * r + i)).length) := Lib.hid (by rw [flat_succ, List.length_append])
          clear HI hs1
          generalize hnn : 64 * r + i = n at *
          have HNN := Lib.hid hnn
          clear hnn
          go_wp2_with (first
            | (go_at_call 24; refine HT.out.mono ?_; rintro e w2 ⟨rfl, hT⟩; obtain ⟨hs', g1, g2, hst⟩ := hT; have HS2 := Lib.hid hst; have G1 := Lib.hid (And.intro g1 g2); clear g1 g2 hst HT)
            | (at_builtin; go_must (refine wpList_append_rows_St kD HS2.out 3 rfl rfl (.tmp 40) (.tmp 48) 32 (.agg (dV ⟨0, 0, 0⟩)) 24 rfl Try.underlying32 infoD rfl (by decide) (by decide) (ct n) A' (ct n).length c' rfl rfl (by have hh := HS2.out.get 0 rfl; rw [HS1.out] at hh; exact (Kd.R_reads' hh).2.2) (by omega) ?_; intro v1 w3 hv1 HS3; obtain ⟨B', c2, rfl⟩ := hv1.out; have HI3 : Hid (AdvI w0 Δ p b now last L hs ct (n + 1) (.slice B' (flat ct n ++ ct n).length c2) w3) := Lib.hid (TakenP.after G1.out.1 G1.out.2 HS3.out); clear hv1 HS3 HS2 G1)))
          go_roundw
          case rel => exact ⟨i + 1, by omega, by go_num, ⟨B', c2, by rw [show 64 * r + (i + 1) = n + 1 by have := HNN.out; omega, HFL.out]⟩, by rw [show 64 * r + (i + 1) = n + 1 by have := HNN.out; omega]; have h5 := HI3; rw [List.length_append] at h5; exact h5⟩
          case measure => simp [intOf]; omega
        · obtain rfl : i = 64 := by omega
          have HI2 : Hid (AdvI w0 Δ p b now last L hs ct (64 * (r + 1)) (.slice A (flat ct (64 * (r + 1))).length c) wr) := Lib.hid (by rw [show 64 * (r + 1) = 64 * r + 64 by omega]; exact HI.out)
          rw [show 64 * r + 64 = 64 * (r + 1) by omega]
          go_wp2_with fail
          go_roundw
          case rel => exact ⟨r + 1, by omega, by go_num, ⟨A, c, rfl⟩, HI2⟩
          case measure => simp [intOf]; omega
    · obtain rfl : r = R := by omega
      have hltz : ¬ (r : Int) < (r : Int) := by omega
      have c0 := HI.out.cellNow
      have HI2 : Hid (AdvI w0 Δ p b now last L hs ct (64 * r + D) (.slice A (flat ct (64 * r + D)).length c) wr) := Lib.hid (by
        have := HI.out.skip HLO.out
        rw [← flat_empty ct (64 * r) D HLO.out] at this
        exact this)
      have HFE : Hid ((flat ct (64 * r)).length = (flat ct (64 * r + D)).length) := Lib.hid (by rw [flat_empty ct (64 * r) D HLO.out])
      clear HI HLO
      go_wp2_with (first | (go_at_call_of 25 (tk); refine (HAT.out _).mono ?_; rintro e w2 ⟨rfl, rfl⟩) | (go_at_call_of 25 (now); refine (HAN.out _).mono ?_; rintro e w3 ⟨rfl, rfl⟩))
      go_loopw [7, 11] (fun v s11 wr => ∃ i : Nat, i ≤ T ∧ s11 = .int .i64 i ∧ (∃ A c, v = .slice A (flat ct (64 * r + i)).length c) ∧ Hid (AdvI w0 Δ p b now last L hs ct (64 * r + i) v wr)) (fun _ s11 _ => T - (intOf s11).toNat)
      case atStart => exact ⟨D, hDN, rfl, ⟨A, c, by rw [HFE.out]⟩, by rw [HFE.out]; exact HI2⟩
      case round =>
        clear HI2 HFE
        obtain ⟨i, hi, rfl, ⟨A, c, rfl⟩, HI⟩ := hrel
        have hi0 : (0 : Int) ≤ (i : Int) := by omega
        have hr7 : (r : Int) < 7 := by omega
        have hitz : (i : Int) < 64 := by omega
        by_cases hit : i < T
        · have hitT : (i : Int) < (T : Int) := by omega
          obtain ⟨s, hs1⟩ : ∃ s, hd hs (64 * r + i) = s := ⟨_, rfl⟩
          have hq := HI.out.hdr (show 64 * r + i < 448 by omega)
          have HT := Lib.hid (take_adv HI.out (show 64 * r + i < 448 by omega))
          have hln : (flat ct (64 * r + i)).length ≤ 4096 := flat_len HX.out.ok HX.out.st (by omega)
          have hln2 : (ct (64 * r + i)).length ≤ 4096 := WSt.ctLen HX.out (show 64 * r + i < 448 by omega)
          rw [hs1] at HT hq
          obtain ⟨A', q', c'⟩ := s
          replace hq : q' = (ct (64 * r + i)).length := hq
          subst hq
          replace HT : Hid (Calls Try.prog 24 #[.pointer (some ⟨p, 2 + r * 64 + i, none⟩)] wr fun e w' => e = .returned (.slice A' (ct (64 * r + i)).length c') ∧ TakenP w0 Δ p b now last L hs ct (64 * r + i) (.slice A (flat ct (64 * r + i)).length c) w') := Lib.hid (by rw [show 2 + r * 64 + i = 2 + (64 * r + i) by omega]; exact HT.out)
          have HS1 := Lib.hid hs1
          have HFL : Hid ((flat ct (64 * r + i + 1)).length = (flat ct (64 * r + i)).length + (ct (64 * r + i)).length) := Lib.hid (by rw [flat_succ, List.length_append])
          clear HI hs1
          generalize hnn : 64 * r + i = n at *
          have HNN := Lib.hid hnn
          clear hnn
          go_wp2_with (first
            | (go_at_call 24; refine HT.out.mono ?_; rintro e w2 ⟨rfl, hT⟩; obtain ⟨hs', g1, g2, hst⟩ := hT; have HS2 := Lib.hid hst; have G1 := Lib.hid (And.intro g1 g2); clear g1 g2 hst HT)
            | (at_builtin; go_must (refine wpList_append_rows_St kD HS2.out 3 rfl rfl (.tmp 66) (.tmp 74) 32 (.agg (dV ⟨0, 0, 0⟩)) 24 rfl Try.underlying32 infoD rfl (by decide) (by decide) (ct n) A' (ct n).length c' rfl rfl (by have hh := HS2.out.get 0 rfl; rw [HS1.out] at hh; exact (Kd.R_reads' hh).2.2) (by omega) ?_; intro v1 w3 hv1 HS3; obtain ⟨B', c2, rfl⟩ := hv1.out; have HI3 : Hid (AdvI w0 Δ p b now last L hs ct (n + 1) (.slice B' (flat ct n ++ ct n).length c2) w3) := Lib.hid (TakenP.after G1.out.1 G1.out.2 HS3.out); clear hv1 HS3 HS2 G1)))
          go_roundw
          case rel => exact ⟨i + 1, by omega, by go_num, ⟨B', c2, by rw [show 64 * r + (i + 1) = n + 1 by have := HNN.out; omega, HFL.out]⟩, by rw [show 64 * r + (i + 1) = n + 1 by have := HNN.out; omega]; have h5 := HI3; rw [List.length_append] at h5; exact h5⟩
          case measure => simp [intOf]; omega
        · obtain rfl : i = T := by omega
          have hitT : ¬ (i : Int) < (i : Int) := by omega
          obtain ⟨s, hs1⟩ : ∃ s, hd hs (64 * r + i) = s := ⟨_, rfl⟩
          have hq := HI.out.hdr (show 64 * r + i < 448 by omega)
          have HT := Lib.hid (take_adv HI.out (show 64 * r + i < 448 by omega))
          have hln : (flat ct (64 * r + i)).length ≤ 4096 := flat_len HX.out.ok HX.out.st (by omega)
          have hln2 : (ct (64 * r + i)).length ≤ 4096 := WSt.ctLen HX.out (show 64 * r + i < 448 by omega)
          rw [hs1] at HT hq
          obtain ⟨A', q', c'⟩ := s
          replace hq : q' = (ct (64 * r + i)).length := hq
          subst hq
          replace HT : Hid (Calls Try.prog 24 #[.pointer (some ⟨p, 2 + r * 64 + i, none⟩)] wr fun e w' => e = .returned (.slice A' (ct (64 * r + i)).length c') ∧ TakenP w0 Δ p b now last L hs ct (64 * r + i) (.slice A (flat ct (64 * r + i)).length c) w') := Lib.hid (by rw [show 2 + r * 64 + i = 2 + (64 * r + i) by omega]; exact HT.out)
          have HS1 := Lib.hid hs1
          have HDP : Hid ((flat ct (64 * r + i) ++ (ct (64 * r + i)).filter (dueP tk)).Perm (L.filter (dueP tk))) := Lib.hid (by
            have := due_perm HX.out.ok HX.out.st (show (⟨now, last, L⟩ : Wh).now ≤ tk from HLE.out) HTK.out.1.2
            rw [HNX.out] at this
            exact this)
          have HAS : Hid (Stand (advW ⟨now, last, L⟩ tk) (advC ⟨now, last, L⟩ ct tk (ct (64 * r + i)))) := Lib.hid (by
            have := adv_stand HX.out.ok HX.out.st (show (⟨now, last, L⟩ : Wh).now ≤ tk from HLE.out) HTK.out.1.2
            rw [HNX.out] at this
            exact this)
          have HMT : Hid (∀ d ∈ ct (64 * r + i), d.t ≤ 1099511627776) := Lib.hid fun d hd => (HX.out.ok.t1 d (((HX.out.st.mem (show 64 * r + i < 448 by omega)).1 hd).1)).2
          clear HI hs1
          generalize hnn : 64 * r + i = n at *
          have HNN := Lib.hid hnn
          clear hnn
          generalize hgl : ct n = l at *
          have HGL := Lib.hid hgl
          clear hgl
          go_wp2_with (go_at_call 24; refine HT.out.mono ?_; rintro e w2 ⟨rfl, hT⟩; obtain ⟨hs', g1, g2, hst⟩ := hT; have HS2 := Lib.hid hst; have G1 := Lib.hid g1; clear g1 g2 hst HT; have f0 := HS2.out.freeB 1 rfl 0; have cc0 := HS2.out.hNow 1 rfl)
          have HS3 : Hid (St w0 (w2.setCell ⟨p, 0, none⟩ (.int .i64 tk)) ([obD (hv (hd hs n)) l, obH p b tk last hs', obMp b (prD L), obD (.slice A (flat ct n).length c) (flat ct n)] ++ (fam 448 (famD hs' (ctN ct (n + 1))) ++ Δ))) := Lib.hid (by have h6 := HS2.out.setNow 1 rfl tk; rw [HGL.out] at h6; exact h6)
          generalize w2.setCell ⟨p, 0, none⟩ (.int .i64 tk) = W3 at HS3 ⊢
          clear HS2 f0 cc0
          have HJ0 : Hid (AdvJ w0 Δ p b ⟨now, last, L⟩ ct tk (.slice A' l.length c') l (flat ct n) 0 (.slice A (flat ct n).length c) W3) := Lib.hid (by
            have h5 := HS3.out
            rw [HS1.out] at h5
            refine ⟨hs', G1.out, ?_⟩
            rw [List.take_zero, List.filter_nil, List.append_nil]
            exact h5.famCt fun i _ => by rw [advK_zero, HNX.out])
          clear HS3 HS1 G1
          generalize hD9 : flat ct n = D9 at *
          have HD9 := Lib.hid hD9
          clear hD9
          have hlz : (0 : Int) ≤ (l.length : Int) := by omega
          go_loopw [7, 90] (fun v s90 wr => ∃ k : Nat, k ≤ l.length ∧ s90 = .int .i64 k ∧ (∃ A c, v = .slice A (D9 ++ (l.take k).filter (dueP tk)).length c) ∧ Hid (AdvJ w0 Δ p b ⟨now, last, L⟩ ct tk (.slice A' l.length c') l D9 k v wr)) (fun _ s90 _ => l.length - (intOf s90).toNat)
          case atStart => exact ⟨0, Nat.zero_le _, rfl, ⟨A, c, by rw [List.take_zero, List.filter_nil, List.append_nil]⟩, HJ0⟩
          case round =>
            clear HJ0
            obtain ⟨k, hk, rfl, ⟨A, c, rfl⟩, HJ⟩ := hrel
            have hk0 : (0 : Int) ≤ (k : Int) := by omega
            by_cases hkt : k < l.length
            · have hktz : (k : Int) < (l.length : Int) := by omega
              obtain ⟨g, rfl, x0, x1, x2⟩ := HJ.out.cells hkt
              obtain ⟨hs', g1, hst⟩ := HJ.out
              have G1 := Lib.hid g1
              have HST := Lib.hid hst
              have hlen3 : (D9 ++ (l.take k).filter (dueP tk)).length ≤ 8192 := by
                have h1 := List.length_filter_le (dueP tk) (l.take k)
                have h2 : (l.take k).length ≤ l.length := by rw [List.length_take]; omega
                rw [List.length_append]
                omega
              have HY := Lib.hid fun (v1 : Value) (w1 : World) (hs2 : List Hdr) h1 => @AdvJ.yes w0 Δ p b ⟨now, last, L⟩ ct tk (.slice (some ⟨g, 0, none⟩) l.length c') l D9 k v1 w1 hs2 h1 hkt
              have HNO := Lib.hid fun (v1 : Value) (w1 : World) (hs2 : List Hdr) h1 => @AdvJ.no w0 Δ p b ⟨now, last, L⟩ ct tk (.slice (some ⟨g, 0, none⟩) l.length c') l D9 k v1 w1 hs2 h1 hkt
              have hyt : l[k].t ≤ 1099511627776 := HMT.out _ (List.getElem_mem _)
              have hpl : (advK ⟨now, last, L⟩ ct tk l k (plD tk l[k])).length < 1000000 := by
                unfold advK advC
                have h1 := List.length_filter_le (fun d => !dueP tk d && isAt tk (plD tk l[k]) d) (l.take k)
                have h2 : (l.take k).length ≤ l.length := by rw [List.length_take]; omega
                have h3 : (if plD tk l[k] ≤ nxD ⟨now, last, L⟩ tk then [] else ct (plD tk l[k])).length ≤ 4096 := by
                  split
                  · exact Nat.zero_le _
                  · exact WSt.ctLen HX.out (plD_lt hyt HTK.out.1.2)
                rw [List.length_append]
                omega
              have HPL := Lib.hid hpl
              clear hpl
              generalize l[k] = y at *
              have HYT := Lib.hid hyt
              have HB := Lib.hid (HST.out.alloc0 (.cells (dV y) 36))
              clear HJ g1 hst hyt
              by_cases hd : y.t ≤ tk
              · have HDY : Hid (dueP tk y = true) := Lib.hid (decide_eq_true hd)
                go_wp2_with (at_builtin; go_must (refine wpList_append_St kD HB.out 3 rfl rfl (.tmp 98) (.tmp 100) 32 (.agg (dV ⟨0, 0, 0⟩)) 24 rfl Try.underlying32 infoD rfl (by decide) (by decide) y (dL y) rfl (by show Value.slice (some ⟨wr.heap.size + 1, 0, none⟩) 1 1 = Value.slice (some ⟨(wr.alloc (.cells (dV y) 36)).heap.size, 0, none⟩) 1 1; rw [show (wr.alloc (.cells (dV y) 36)).heap.size = wr.heap.size + 1 by simp]) rfl (by omega) ?_; intro v1 w9 HG9 HS9; obtain ⟨X1, c9, rfl⟩ := HG9.out.slice; have HJ2 : Hid (AdvJ w0 Δ p b ⟨now, last, L⟩ ct tk (.slice (some ⟨g, 0, none⟩) l.length c') l D9 (k + 1) (.slice (some X1) ((D9 ++ (l.take k).filter (dueP tk)).length + 1) c9) w9) := Lib.hid (HY.out _ _ _ G1.out HDY.out HS9.out); clear HG9 HS9))
                have hl9 := Lib.hid HJ2.out.hdr
                go_roundw
                case rel => exact ⟨k + 1, by omega, by go_num, ⟨some X1, c9, by rw [← hl9.out, List.length_append]⟩, by have h5 := HJ2; rw [List.length_append] at h5; exact h5⟩
                case measure => simp [intOf]; omega
              · have HDY : Hid (dueP tk y = false) := Lib.hid (decide_eq_false hd)
                have HYY : Hid (0 ≤ y.t ∧ y.t ≤ 1099511627776) := Lib.hid ⟨by have := HTK.out; omega, HYT.out⟩
                go_wp2_with (go_at_call 22; refine (put_raw (F := [obD (.slice (some ⟨g, 0, none⟩) l.length c') l, obH p b tk last hs', obMp b (prD L), obD (.slice A (D9 ++ (l.take k).filter (dueP tk)).length c) (D9 ++ (l.take k).filter (dueP tk))]) HB.out 1 rfl G1.out y HYY.out HTK.out.1 rfl HPL.out).mono ?_; rintro e w9 ⟨rfl, s9, hs9⟩; have HJ2 : Hid (AdvJ w0 Δ p b ⟨now, last, L⟩ ct tk (.slice (some ⟨g, 0, none⟩) l.length c') l D9 (k + 1) (.slice A (D9 ++ (l.take k).filter (dueP tk)).length c) w9) := Lib.hid (HNO.out _ _ _ ((List.length_set ..).trans G1.out) HDY.out hs9); clear hs9)
                have hl9 := Lib.hid HJ2.out.hdr
                go_roundw
                case rel => exact ⟨k + 1, by omega, by go_num, ⟨A, c, by rw [← hl9.out, List.length_append]⟩, by have h5 := HJ2; rw [List.length_append] at h5; exact h5⟩
                case measure => simp [intOf]; omega
            · obtain rfl : k = l.length := by omega
              have hktz : ¬ (l.length : Int) < (l.length : Int) := by omega
              obtain ⟨hs', g1, hst⟩ := HJ.out
              obtain ⟨DD, hDD⟩ : ∃ DD, D9 ++ l.filter (dueP tk) = DD := ⟨_, rfl⟩
              have HS5 : Hid (St w0 wr ([obH p b tk last hs', obMp b (prD (cutAll L (DD.take 0))), obD (.slice A DD.length c) DD] ++ (fam 448 (famD hs' (advC ⟨now, last, L⟩ ct tk l)) ++ Δ))) := Lib.hid (by
                rw [List.take_length, hDD] at hst
                have h6 : St w0 wr ([obD (.slice A' l.length c') l, obH p b tk last hs', obMp b (prD L), obD (.slice A DD.length c) DD] ++ (fam 448 (famD hs' (advC ⟨now, last, L⟩ ct tk l)) ++ Δ)) := hst.famCt fun i _ => (advK_all _ _ _ _ _).symm
                exact St.sub (Γ := obD (.slice A' l.length c') l :: _) h6 (List.sublist_cons_self _ _))
              have HPP : Hid (DD.Perm (L.filter (dueP tk))) := Lib.hid (by rw [← hDD]; exact HDP.out)
              have hDL : DD.length ≤ 4096 := by
                rw [HPP.out.length_eq]
                exact Nat.le_trans (List.length_filter_le _ _) HX.out.ok.len
              have hFE : (D9 ++ (l.take l.length).filter (dueP tk)).length = DD.length := by rw [List.take_length, hDD]
              rw [hFE]
              have G1 := Lib.hid g1
              clear HJ hst g1 hDD hFE HDP HMT HAT HAN hkt hk
              go_wp2_with fail
              go_loopw [108] (fun s108 wr => ∃ k : Nat, k ≤ DD.length ∧ s108 = .int .i64 k ∧ Hid (St w0 wr ([obH p b tk last hs', obMp b (prD (cutAll L (DD.take k))), obD (.slice A DD.length c) DD] ++ (fam 448 (famD hs' (advC ⟨now, last, L⟩ ct tk l)) ++ Δ)))) (fun s108 _ => DD.length - (intOf s108).toNat)
              case atStart => exact ⟨0, Nat.zero_le _, rfl, HS5⟩
              case round =>
                clear HS5
                obtain ⟨k, hk, rfl, HS⟩ := hrel
                have hk0 : (0 : Int) ≤ (k : Int) := by omega
                by_cases hkt : k < DD.length
                · have hktz : (k : Int) < (DD.length : Int) := by omega
                  obtain ⟨g, rfl, -, x0, x1, x2⟩ := HS.out.cellD 2 rfl k hkt
                  have HCS : Hid (delM (prD (cutAll L (DD.take k))) DD[k].id = prD (cutAll L (DD.take (k + 1)))) := Lib.hid (by
                    rw [pr_del _ (cutAll_nodup _ _ HX.out.ok.nodup), cutAll_succ L DD hkt])
                  generalize DD[k] = y at *
                  have HB := Lib.hid (HS.out.boxF (dV y) 36)
                  go_wp2_with fail
                  generalize hW5 : wr.alloc (.cells (dV y) 36) = W5 at *
                  generalize wr.heap.size = B at *
                  have H6 := Lib.hid HB.out.drew
                  obtain ⟨W7, hdel, h7⟩ := H6.out.delK 2 rfl y.id 0
                  rw [HCS.out] at h7
                  have H7 := Lib.hid h7
                  clear h7 hW5 HCS x0 x1 x2
                  go_region_held3 (fun W => W.cell? ⟨p, 450, none⟩ = some (.map (some b)) ∧ W.cell? ⟨B, 0, none⟩ = some (.int .i64 y.id)) (first | exact ⟨HB.out.hMap 1 rfl G1.out, HB.out.cellB 0 rfl 0 rfl⟩ | exact ⟨H6.out.hMap 1 rfl G1.out, H6.out.cellB 0 rfl 0 rfl⟩ | exact ⟨H7.out.hMap 1 rfl G1.out, H7.out.cellB 0 rfl 0 rfl⟩) (first | fail)
                  all_goals
                    have H8 : Hid (St w0 W7 ([obH p b tk last hs', obMp b (prD (cutAll L (DD.take (k + 1)))), obD (.slice (some ⟨g, 0, none⟩) DD.length c) DD] ++ (fam 448 (famD hs' (advC ⟨now, last, L⟩ ct tk l)) ++ Δ))) := Lib.hid (St.sub (Γ := obB B (dV y) 36 :: _) H7.out (List.sublist_cons_self _ _))
                    clear HB H6 H7 hdel HS
                    go_wp2_with fail
                    go_roundw
                    case rel => exact ⟨k + 1, by omega, by go_num, H8⟩
                    case measure => simp [intOf]; omega
                · obtain rfl : k = DD.length := by omega
                  have hktz : ¬ (DD.length : Int) < (DD.length : Int) := by omega
                  have HF : Hid (prD (cutAll L (DD.take DD.length)) = prD (advW ⟨now, last, L⟩ tk).L) := Lib.hid (by rw [List.take_length, cutAll_adv HX.out.ok HPP.out])
                  have HNDD : Hid ((DD.map (·.id)).Nodup) := Lib.hid ((HPP.out.map _).nodup_iff.2 (HX.out.ok.nodup.sublist (List.filter_sublist.map _)))
                  have HSO : Hid (Calls Try.prog 26 #[.slice A DD.length c, .func (.func 27) #[] #[]] wr fun e w' => e = .returned (.tuple #[]) ∧ St w0 w' ([obH p b tk last hs', obMp b (prD (advW ⟨now, last, L⟩ tk).L), obD (.slice A DD.length c) (ordT DD)] ++ (fam 448 (famD hs' (advC ⟨now, last, L⟩ ct tk l)) ++ Δ))) := Lib.hid (by
                    have h9 := HS.out
                    rw [HF.out] at h9
                    refine (sort_R (h9.get 2 rfl) (by omega)).mono fun e w' ⟨he, ys, ⟨hs1, hs2⟩, hR, hg⟩ => ⟨he, ?_⟩
                    have := h9.growW 2 rfl hR hg (.inl rfl)
                    rw [ordT_of HNDD.out (ordD_of_sorted ((hs1.map _).nodup_iff.2 HNDD.out) hs2) hs1] at this
                    exact this)
                  clear HS HF
                  go_wp2_with (go_at_call 26; refine HSO.out.mono ?_; rintro e w8 ⟨rfl, hs8⟩; have H8 := Lib.hid hs8; clear hs8)
                  go_ret2
                  have HDE : dueL ⟨now, last, L⟩ tk = ordT DD := by
                    unfold dueL
                    rw [if_pos HE.out]
                    refine (ordT_of (HX.out.ok.nodup.sublist (List.filter_sublist.map _)) (ordT_spec HNDD.out).1 ((ordT_spec HNDD.out).2.trans HPP.out)).symm
                  have hlo : (ordT DD).length = DD.length := (ordT_spec HNDD.out).2.length_eq
                  refine ⟨A, c, by rw [HDE, hlo, HE.out]; rfl, ⟨p, b, hs', advC ⟨now, last, L⟩ ct tk l, advW ⟨now, last, L⟩ tk⟩, rfl, ⟨G1.out, adv_ok HX.out.ok HLE.out HTK.out.1.2, HAS.out⟩, by unfold advS; rw [if_pos HE.out], ?_⟩
                  rw [HDE, hlo]
                  have h9 := H8.out
                  refine h9.perm ?_
                  exact ((List.perm_middle (l₁ := [obH p b tk last hs', obMp b (prD (advW ⟨now, last, L⟩ tk).L)] ++ fam 448 (famD hs' (advC ⟨now, last, L⟩ ct tk l)))).trans (List.perm_middle (l₁ := [obH p b tk last hs', obMp b (prD (advW ⟨now, last, L⟩ tk).L)])).symm)
end
end Go.Proofs.Ytadhceoaoopcjaa.SL
