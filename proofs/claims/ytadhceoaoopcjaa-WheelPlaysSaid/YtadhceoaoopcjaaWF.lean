/- The walk of a wheel's Add. No condition but sizes. -/
import Derived.Test.YtadhceoaoopcjaaWE
namespace Go.Proofs.Ytadhceoaoopcjaa.SL
open Go.RowKit Go.Proofs.YtadhceoaoopcjaaW.PrintWords Go.Proofs.YtadhceoaoopcjaaW.PrintLast Go.Proofs.YtadhceoaoopcjaaW.PrintMore
/-- A wheel at p that is s. -/
def WAt (w0 : World) (Δ : List Ob) (p : Nat) (s : Wh) (w' : World) : Prop := ∃ x : WSt, x.p = p ∧ x.Ok ∧ x.s = s ∧ St w0 w' (x.G ++ Δ)
def addR (s : Wh) (t : Int) : Int := if addE s t = 0 then s.last + 1 else 0
def addS (s : Wh) (t v : Int) : Wh := if addE s t = 0 then addW s t v else s
section
variable {w0 w : World} {Γ Δ : List Ob}
theorem WSt.len {x : WSt} : (prD x.s.L).length = x.s.L.length := by unfold prD; rw [List.length_map]
theorem WSt.ctLen {x : WSt} (hx : x.Ok) {j : Nat} (hj : j < 448) : (x.ct j).length ≤ 4096 := by
  rw [(hx.st j hj).length_eq]
  exact Nat.le_trans (List.length_filter_le _ _) hx.ok.len
set_option maxHeartbeats 8000000 in
set_option maxRecDepth 100000 in
theorem add_raw (x : WSt) (hx : x.Ok) (hl : x.s.last < 4000000000000000000) (h : St w0 w (x.G ++ Δ)) (t v : Int) :
    Calls Try.prog 12 #[.pointer (some ⟨x.p, 0, none⟩), .int .i64 t, .int .i64 v] w fun e w' => e = .returned (.tuple #[.int .i64 (addR x.s t), .int .i64 (addE x.s t)]) ∧ WAt w0 Δ x.p (addS x.s t v) w' := by
  have HX := Lib.hid hx
  obtain ⟨p, b, hs, ct, now, last, L⟩ := x
  have h' : St w0 w ([obH p b now last hs, obMp b (prD L)] ++ (fam 448 (famD hs ct) ++ Δ)) := h
  have HS := Lib.hid h'
  have c0 := h'.hNow 0 rfl
  have hLL : Hid ((prD L).length = L.length) := Lib.hid (by unfold prD; rw [List.length_map])
  have hln : ∀ ty, (Builtin.len_ #[60] ty #[.map (some b)]).run Try.prog w = .ok (.int .i64 (L.length : Int)) w := fun ty => by
    rw [← hLL.out]; exact len_map w b _ (h'.get 1 rfl) ty
  have c3 := h'.hMap 0 rfl hx.hl
  have c1 := h'.hLast 0 rfl
  have f1 := h'.freeB 0 rfl 1
  have hL4 : L.length ≤ 4096 := hx.ok.len
  have hl0 : 0 ≤ last := hx.ok.l0
  have hl' : last < 4000000000000000000 := hl
  have HR : Hid (addE ⟨now, last, L⟩ t = if t < now ∨ 1099511627776 < t then 1 else if 4096 ≤ (L.length : Int) then 270 else 0) := Lib.hid rfl
  show Calls Try.prog 12 #[.pointer (some ⟨p, 0, none⟩), .int .i64 t, .int .i64 v] w _
  clear h h' hx hl
  by_cases h1 : t < now ∨ 1099511627776 < t
  · have HE : Hid (addE ⟨now, last, L⟩ t = 1) := Lib.hid (HR.out.trans (if_pos h1))
    have HF : Hid (Ending.returned (.tuple #[.int .i64 0, .int .i64 1]) = .returned (.tuple #[.int .i64 (addR ⟨now, last, L⟩ t), .int .i64 (addE ⟨now, last, L⟩ t)]) ∧ WAt w0 Δ p (addS ⟨now, last, L⟩ t v) w) := Lib.hid
      ⟨by unfold addR; rw [HE.out]; rfl, ⟨p, b, hs, ct, now, last, L⟩, rfl, HX.out, by unfold addS; rw [HE.out]; rfl, HS.out⟩
    clear HR
    by_cases h2 : t < now
    · clear h1
      go_enter Try.func12, Try.ntmps12
      go_wp2
      go_ret2
      exact HF.out
    · have h3 : 1099511627776 < t := by omega
      clear h1
      go_enter Try.func12, Try.ntmps12
      go_wp2
      go_ret2
      exact HF.out
  have h2 : ¬ t < now := fun e => h1 (.inl e)
  have h3 : ¬ 1099511627776 < t := fun e => h1 (.inr e)
  have h3' : t ≤ 1099511627776 := by omega
  by_cases h4 : 4096 ≤ (L.length : Int)
  · have HE : Hid (addE ⟨now, last, L⟩ t = 270) := Lib.hid (HR.out.trans ((if_neg h1).trans (if_pos h4)))
    have HF : Hid (Ending.returned (.tuple #[.int .i64 0, .int .i64 270]) = .returned (.tuple #[.int .i64 (addR ⟨now, last, L⟩ t), .int .i64 (addE ⟨now, last, L⟩ t)]) ∧ WAt w0 Δ p (addS ⟨now, last, L⟩ t v) w) := Lib.hid
      ⟨by unfold addR; rw [HE.out]; rfl, ⟨p, b, hs, ct, now, last, L⟩, rfl, HX.out, by unfold addS; rw [HE.out]; rfl, HS.out⟩
    clear HR h1
    go_enter Try.func12, Try.ntmps12
    go_wp2
    go_ret2
    exact HF.out
  have HE : Hid (addE ⟨now, last, L⟩ t = 0) := Lib.hid (HR.out.trans ((if_neg h1).trans (if_neg h4)))
  have h4' : (L.length : Int) < 4096 := by omega
  clear HR h1 h4
  have H1 := Lib.hid (HS.out.setLast 0 rfl (last + 1))
  have HT : Hid ((0 ≤ t ∧ t ≤ 1099511627776) ∧ (0 ≤ now ∧ now ≤ 1099511627776)) := Lib.hid ⟨⟨by have := HX.out.ok.n0; have : 0 ≤ now := this; omega, h3'⟩, HX.out.ok.n0, HX.out.ok.n1⟩
  obtain ⟨k, hk⟩ : ∃ k, plD now ⟨last + 1, t, v⟩ = k := ⟨_, rfl⟩
  have HK := Lib.hid hk
  have HPM : Hid (putM (prD L) (last + 1) t = prD (L ++ [⟨last + 1, t, v⟩])) := Lib.hid (pr_put (d := ⟨last + 1, t, v⟩) fun e he => by have := (HX.out.ok.i1 e he).2; have : e.id ≤ last := this; show e.id ≠ last + 1; omega)
  have HEnd : Hid (∀ (s' : Hdr) (w' : World), St w0 w' ([obH p b now (last + 1) (hs.set k s'), obMp b (putM (prD L) (last + 1) t)] ++ (fam 448 (famD (hs.set k s') (putC ct k ⟨last + 1, t, v⟩)) ++ Δ)) →
      Ending.returned (.tuple #[.int .i64 (last + 1), .int .i64 0]) = .returned (.tuple #[.int .i64 (addR ⟨now, last, L⟩ t), .int .i64 (addE ⟨now, last, L⟩ t)]) ∧ WAt w0 Δ p (addS ⟨now, last, L⟩ t v) w') := Lib.hid fun s' w' h => by
    rw [HPM.out] at h
    refine ⟨by unfold addR; rw [HE.out]; rfl, ⟨p, b, hs.set k s', putC ct k ⟨last + 1, t, v⟩, addW ⟨now, last, L⟩ t v⟩, rfl, ⟨(List.length_set ..).trans HX.out.hl, add_ok HX.out.ok v HE.out, ?_⟩, by unfold addS; rw [HE.out]; rfl, h⟩
    exact add_stand HX.out.st t v HK.out
  have HCT : Hid ((ct k).length < 1000000) := Lib.hid (by
    have := WSt.ctLen HX.out (j := k) (by rw [← hk]; exact plD_lt HT.out.1.2 HT.out.2.2)
    have : (ct k).length ≤ 4096 := this
    omega)
  have HHL : Hid (hs.length = 448) := Lib.hid HX.out.hl
  clear hk HX HPM HE
  go_enter Try.func12, Try.ntmps12
  go_wp2_with fail
  generalize w.setCell ⟨p, 1, none⟩ (.int .i64 (last + 1)) = W1 at H1 ⊢
  have H2 := Lib.hid H1.out.drew
  obtain ⟨W3, hput, h3s⟩ := H2.out.putK 1 rfl (last + 1) t
  have H3 : Hid (St w0 W3 ([obH p b now (last + 1) hs, obMp b (putM (prD L) (last + 1) t)] ++ (fam 448 (famD hs ct) ++ Δ))) := Lib.hid h3s
  clear h3s c0 c1 c3 f1 hln HS
  go_region_held3 (fun W => W.cell? ⟨p, 450, none⟩ = some (.map (some b)) ∧ W.cell? ⟨p, 1, none⟩ = some (.int .i64 (last + 1))) (first | exact ⟨H1.out.hMap 0 rfl HHL.out, H1.out.hLast 0 rfl⟩ | exact ⟨H2.out.hMap 0 rfl HHL.out, H2.out.hLast 0 rfl⟩ | exact ⟨H3.out.hMap 0 rfl HHL.out, H3.out.hLast 0 rfl⟩) (first | fail)
  all_goals
    clear H1 H2 hput
    have c1 := H3.out.hLast 0 rfl
    go_wp2_with (go_at_call 22; refine (put_raw H3.out 0 rfl HHL.out ⟨last + 1, t, v⟩ HT.out.1 HT.out.2 HK.out HCT.out).mono ?_; rintro e w5 ⟨rfl, s', hs5⟩; have H5 : Hid (St w0 w5 ([obH p b now (last + 1) (hs.set k s'), obMp b (putM (prD L) (last + 1) t)] ++ (fam 448 (famD (hs.set k s') (putC ct k ⟨last + 1, t, v⟩)) ++ Δ))) := Lib.hid hs5; clear hs5 H3 c1; have c1 := H5.out.hLast 0 rfl)
    go_ret2
    exact HEnd.out s' _ H5.out
end
end Go.Proofs.Ytadhceoaoopcjaa.SL
