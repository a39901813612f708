/- The walks of a wheel's New, Now, Len, At, place, take, put, Add over the objects that the caller holds. No condition but sizes. -/
import Derived.Test.YtadhceoaoopcjaaWO
import Derived.Test.YtadhceoaoopcjaaWB
import Derived.Deep.RegionHeld3
import Derived.Deep.QuietTactic
import Derived.Deep.DrawnRows
import Derived.BigQuiet
namespace Go.Proofs.Ytadhceoaoopcjaa.SL
open Go.RowKit Go.Proofs.YtadhceoaoopcjaaW.PrintWords Go.Proofs.YtadhceoaoopcjaaW.PrintLast Go.Proofs.YtadhceoaoopcjaaW.PrintMore
/-- A wheel as it stands in memory. -/
structure WSt where
  p : Nat
  b : Nat
  hs : List Hdr
  ct : Nat → List Du
  s : Wh
abbrev famD (hs : List Hdr) (ct : Nat → List Du) : Nat → Ob := famL kD 36 flD hs ct
def WSt.G (x : WSt) : List Ob := [obH x.p x.b x.s.now x.s.last x.hs, obMp x.b (prD x.s.L)] ++ fam 448 (famD x.hs x.ct)
def obWh (x : WSt) : Ob := obGrp x.G
structure WSt.Ok (x : WSt) : Prop where
  hl : x.hs.length = 448
  ok : WOk x.s
  st : Stand x.s x.ct
section
variable {w0 w : World} {Γ Δ : List Ob} {p b : Nat} {now last : Int} {hs : List Hdr} {M : Mp}
set_option maxHeartbeats 1000000 in
theorem now_raw (h : St w0 w (obH p b now last hs :: Δ)) : Calls Try.prog 13 #[.pointer (some ⟨p, 0, none⟩)] w fun e w' => e = .returned (.int .i64 now) ∧ w' = w := by
  have c0 := h.hNow 0 rfl
  clear h
  go_enter Try.func13, Try.ntmps13
  go_wp2
  go_ret
  exact ⟨rfl, rfl⟩
set_option maxHeartbeats 1000000 in
theorem len_raw (h : St w0 w (obH p b now last hs :: obMp b M :: Δ)) (hl : hs.length = 448) : Calls Try.prog 15 #[.pointer (some ⟨p, 0, none⟩)] w fun e w' => e = .returned (.int .i64 (M.length : Int)) ∧ w' = w := by
  have c0 := h.hMap 0 rfl hl
  have hln : ∀ ty, (Builtin.len_ #[60] ty #[.map (some b)]).run Try.prog w = .ok (.int .i64 (M.length : Int)) w := fun ty => len_map w b M (h.get 1 rfl) ty
  clear h hl
  go_enter Try.func15, Try.ntmps15
  go_wp2
  go_ret
  exact ⟨rfl, rfl⟩
set_option maxHeartbeats 1000000 in
theorem at_raw (h : St w0 w (obH p b now last hs :: obMp b M :: Δ)) (hl : hs.length = 448) (id : Int) : Calls Try.prog 19 #[.pointer (some ⟨p, 0, none⟩), .int .i64 id] w fun e w' => e = .returned (.tuple #[.int .i64 ((lookM M id).getD 0), .bool (lookM M id).isSome]) ∧ w' = w := by
  have c0 := h.hMap 0 rfl hl
  have hlk := run_lookM (show MpAt w b M from h.get 1 rfl) id true
  simp only [if_true] at hlk
  clear h hl
  go_enter Try.func19, Try.ntmps19
  go_wp2
  go_ret2
  exact ⟨rfl, rfl⟩
set_option maxHeartbeats 2000000 in
theorem place_raw (h : St w0 w (obH p b now last hs :: Δ)) (t : Int) (ht : 0 ≤ t ∧ t ≤ 1099511627776) (hn : 0 ≤ now ∧ now ≤ 1099511627776) : Calls Try.prog 31 #[.pointer (some ⟨p, 0, none⟩), .int .i64 t] w fun e w' => e = .returned (.pointer (some ⟨p, 2 + plN t.toNat now.toNat, none⟩)) ∧ ∃ n, w' = w.drewN n := by
  have c0 := h.hNow 0 rfl
  have hR := (ring_spec (nat42 ht.2) (nat42 hn.2)).1
  have HR := Lib.hid (ring_calls t now ht hn w)
  have HD := fun W => Lib.hid (at_calls t (ringN t.toNat now.toNat) ht (by omega) W)
  have hD := dig_lt t.toNat (ringN t.toNat now.toNat)
  have HP : Hid (plN t.toNat now.toNat = 64 * ringN t.toNat now.toNat + digN t.toNat (ringN t.toNat now.toNat)) := Lib.hid rfl
  generalize ringN t.toNat now.toNat = R at *
  generalize digN t.toNat R = D at *
  generalize plN t.toNat now.toNat = P at *
  clear h ht hn
  have HDQ : Hid (∀ W, Calls Try.prog 25 #[.int .i64 t, .int .i64 (R : Int)] W fun e w' => e = .returned (.int .i64 (D : Int)) ∧ w' = W) := Lib.hid fun W => (HD W).out
  clear HD
  go_enter Try.func31, Try.ntmps31
  go_wp2_with (go_at_call 23; refine HR.out.mono ?_; rintro e w1 ⟨rfl, rfl⟩)
  go_quiet ((go_at_call 25; exact Calls.quiet_of_same (HDQ.out _)))
  go_wp2_with fail
  go_ret
  refine ⟨?_, ?_⟩
  · have := HP.out
    rw [this, show 2 + R * 64 + D = 2 + (64 * R + D) by omega]
    rfl
  · exact ⟨_, rfl⟩
/-- A place is emptied. -/
theorem take_raw (h : St w0 w Γ) (i : Nat) (hi : Γ[i]? = some (obH p b now last hs)) (j : Nat) (hj : j < hs.length) :
    Calls Try.prog 24 #[.pointer (some ⟨p, 2 + j, none⟩)] w fun e w' => e = .returned (hv (hd hs j)) ∧ St w0 w' (Γ.set i (obH p b now last (hs.set j (none, 0, 0)))) := by
  have c0 := h.hAt i hi j hj
  have f0 := h.freeB i hi (2 + j)
  have HS := Lib.hid (h.setAt i hi j hj (none, 0, 0))
  generalize hd hs j = s at c0 ⊢
  obtain ⟨A, n, c⟩ := s
  replace c0 : w.cell? ⟨p, 2 + j, none⟩ = some (.slice A n c) := c0
  clear h hj hi
  go_enter Try.func24, Try.ntmps24
  go_wp2
  go_ret
  exact ⟨rfl, HS.out⟩
end
end Go.Proofs.Ytadhceoaoopcjaa.SL
