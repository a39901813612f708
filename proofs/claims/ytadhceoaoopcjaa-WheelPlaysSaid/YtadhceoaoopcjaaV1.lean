/- The walk of a wheel's Next. No condition but sizes. -/
import Derived.Test.YtadhceoaoopcjaaV0
namespace Go.Proofs.Ytadhceoaoopcjaa.SL
open Go.RowKit Go.Proofs.YtadhceoaoopcjaaW.PrintWords Go.Proofs.YtadhceoaoopcjaaW.PrintLast Go.Proofs.YtadhceoaoopcjaaW.PrintMore
def nextS (s : Wh) : Int × Bool := match minT s.L with | none => (0, false) | some m => (m, true)
theorem next_hit {s : Wh} {ct : Nat → List Du} (hk : WOk s) (hs : Stand s ct) {j : Nat} (hj : j < 448) (he : ∀ i, i < j → ct i = []) {d : Du} (hd : d ∈ ct j) (hm : ∀ y ∈ ct j, d.t ≤ y.t) : nextS s = (d.t, true) := by
  unfold nextS
  rw [minT_of ((hs.mem hj).1 hd).1 fun u hu => stand_first hk hs hj he hd hu hm]
theorem next_miss {s : Wh} {ct : Nat → List Du} (hk : WOk s) (hs : Stand s ct) (he : ∀ i, i < 448 → ct i = []) : nextS s = (0, false) := by
  have : s.L = [] := List.eq_nil_iff_forall_not_mem.2 fun d hd => by
    have hl := plD_lt (hk.t1 d hd).2 hk.n1
    have := (hs.mem hl).2 ⟨hd, rfl⟩
    rw [he _ hl] at this
    cases this
  unfold nextS
  rw [this]
  rfl
section
variable {w0 w : World} {Γ Δ : List Ob}
set_option maxHeartbeats 8000000 in
set_option maxRecDepth 100000 in
theorem next_raw (x : WSt) (hx : x.Ok) (h : St w0 w (x.G ++ Δ)) :
    Calls Try.prog 18 #[.pointer (some ⟨x.p, 0, none⟩)] w fun e w' => e = .returned (.tuple #[.int .i64 (nextS x.s).1, .bool (nextS x.s).2]) ∧ St w0 w' (x.G ++ Δ) := by
  have HX := Lib.hid hx
  obtain ⟨p, b, hs, ct, now, last, L⟩ := x
  have h' : St w0 w ([obH p b now last hs, obMp b (prD L)] ++ (fam 448 (famD hs ct) ++ Δ)) := h
  have HS := Lib.hid h'
  show Calls Try.prog 18 #[.pointer (some ⟨p, 0, none⟩)] w fun e w' => e = .returned (.tuple #[.int .i64 (nextS ⟨now, last, L⟩).1, .bool (nextS ⟨now, last, L⟩).2]) ∧ St w0 w' ([obH p b now last hs, obMp b (prD L)] ++ (fam 448 (famD hs ct) ++ Δ))
  have HN : Hid (0 ≤ now ∧ now ≤ 1099511627776) := Lib.hid ⟨hx.ok.n0, hx.ok.n1⟩
  have HHL : Hid (hs.length = 448) := Lib.hid hx.hl
  have c0 := h'.hNow 0 rfl
  have hfd : ∀ (d : Du) (W : World), (Instr.field 36 (.agg #[.int .i64 d.id, .int .i64 d.t, .int .i64 d.x]) 1).run Try.prog W = .ok (.int .i64 d.t) W := fun d W => by kernel_rfl
  clear h h' hx
  go_enter Try.func18, Try.ntmps18
  go_wp2_with fail
  go_loop [7] (fun s7 => ∃ r : Nat, r ≤ 7 ∧ s7 = .int .i64 r ∧ Hid (∀ j, j < 64 * r → ct j = [])) (fun s7 => 7 - (intOf s7).toNat)
  case atStart => exact ⟨0, Nat.zero_le _, rfl, Lib.hid fun j hj => absurd hj (by omega)⟩
  case round =>
    obtain ⟨r, hr, rfl, HE⟩ := hrel
    have hr0 : (0 : Int) ≤ (r : Int) := by omega
    by_cases hlt : r < 7
    · have hltz : (r : Int) < 7 := by omega
      have HA := Lib.hid (at_calls now r HN.out hr w)
      have hD := dig_lt now.toNat r
      have HLO : Hid (∀ j, j < 64 * r + digN now.toNat r → ct j = []) := Lib.hid fun j hj => by
        rcases Nat.lt_or_ge j (64 * r) with h1 | h1
        · exact HE.out j h1
        · obtain ⟨i, rfl⟩ : ∃ i, j = 64 * r + i := ⟨j - 64 * r, by omega⟩
          exact stand_low HX.out.ok HX.out.st hlt (show i < digN now.toNat r by omega)
      generalize digN now.toNat r = D at HA hD HLO
      clear HE
      go_wp2_with (go_at_call 25; refine HA.out.mono ?_; rintro e w1 ⟨rfl, rfl⟩)
      go_loop [5] (fun s5 => ∃ i : Nat, i ≤ 64 ∧ s5 = .int .i64 i ∧ Hid (∀ j, j < 64 * r + i → ct j = [])) (fun s5 => 64 - (intOf s5).toNat)
      case atStart => exact ⟨D, by omega, rfl, HLO⟩
      case round =>
        clear HLO
        obtain ⟨i, hi, rfl, HE⟩ := hrel
        have hi0 : (0 : Int) ≤ (i : Int) := by omega
        by_cases hit : i < 64
        · have hitz : (i : Int) < 64 := by omega
          have hj : 64 * r + i < 448 := by omega
          obtain ⟨s, hs1⟩ : ∃ s, hd hs (64 * r + i) = s := ⟨_, rfl⟩
          have hfam := fam_at [obH p b now last hs, obMp b (prD L)] (famD hs ct) Δ hj
          rw [show famD hs ct (64 * r + i) = obD (hv s) (ct (64 * r + i)) from by show obW _ _ _ _ _ = _; rw [hs1]] at hfam
          have c1 := HS.out.hAt 0 rfl (64 * r + i) (by have := HHL.out; omega)
          rw [hs1] at c1
          obtain ⟨A, q, c⟩ := s
          replace c1 : w1.cell? ⟨p, 2 + r * 64 + i, none⟩ = some (.slice A q c) := by rw [show 2 + r * 64 + i = 2 + (64 * r + i) by omega]; exact c1
          have hq : q = (ct (64 * r + i)).length := (Kd.R_reads' (HS.out.get _ hfam)).1
          have hlen := WSt.ctLen HX.out hj
          replace hlen : (ct (64 * r + i)).length ≤ 4096 := hlen
          by_cases hz : (ct (64 * r + i)).length = 0
          · have hq0 : q = 0 := by omega
            subst hq0
            have HE2 : Hid (∀ j, j < 64 * r + (i + 1) → ct j = []) := Lib.hid fun j hj2 => by
              rcases Nat.lt_or_ge j (64 * r + i) with h1 | h1
              · exact HE.out j h1
              · obtain rfl : j = 64 * r + i := by omega
                exact List.eq_nil_of_length_eq_zero hz
            clear hz hq hfam hlen hs1
            go_wp2_with fail
            go_round
            case rel => exact ⟨i + 1, by omega, by go_num, HE2⟩
            case measure => simp [intOf]; omega
          · have hqp : (0 : Int) < (q : Int) := by omega
            have HM := Lib.hid (min_raw HS.out _ hfam (by omega) (by omega))
            have HQ := Lib.hid hj
            clear hz hq hfam hlen hs1
            go_wp2_with (go_at_call 34; refine HM.out.mono ?_; rintro e w2 ⟨d, rfl, hd1, hd2, hd3⟩; have HNX := Lib.hid (next_hit HX.out.ok HX.out.st HQ.out HE.out hd1 hd2); have HS3 := Lib.hid hd3; clear hd1 hd2 hd3)
            go_ret2
            exact ⟨by rw [HNX.out]; rfl, HS3.out⟩
        · obtain rfl : i = 64 := by omega
          have HE2 : Hid (∀ j, j < 64 * (r + 1) → ct j = []) := Lib.hid fun j hj2 => HE.out j (by omega)
          go_wp2_with fail
          go_round
          case rel => exact ⟨r + 1, by omega, by go_num, HE2⟩
          case measure => simp [intOf]; omega
    · obtain rfl : r = 7 := by omega
      have HNX := Lib.hid (next_miss HX.out.ok HX.out.st HE.out)
      go_wp2_with fail
      go_ret2
      exact ⟨by rw [HNX.out]; rfl, HS.out⟩
end
end Go.Proofs.Ytadhceoaoopcjaa.SL
