/- The walk of a wheel's Cancel. No condition but sizes. -/
import Derived.Test.YtadhceoaoopcjaaWJ
namespace Go.Proofs.Ytadhceoaoopcjaa.SL
open Go.RowKit Go.Proofs.YtadhceoaoopcjaaW.PrintWords Go.Proofs.YtadhceoaoopcjaaW.PrintLast Go.Proofs.YtadhceoaoopcjaaW.PrintMore
section
variable {w0 w : World} {Γ Δ : List Ob}
theorem place_at (h : St w0 w Γ) (i : Nat) {p b : Nat} {now last : Int} {hs : List Hdr} (hi : Γ[i]? = some (obH p b now last hs)) (t : Int) (ht : 0 ≤ t ∧ t ≤ 1099511627776) (hn : 0 ≤ now ∧ now ≤ 1099511627776) : Calls Try.prog 31 #[.pointer (some ⟨p, 0, none⟩), .int .i64 t] w fun e w' => e = .returned (.pointer (some ⟨p, 2 + plN t.toNat now.toNat, none⟩)) ∧ ∃ n, w' = w.drewN n :=
  place_raw (h.perm (perm_out hi)) t ht hn
theorem cut_none {s : Wh} {id : Int} (h : findW s id = none) : cutW s id = s := by
  unfold cutW
  rw [List.filter_eq_self.2 fun d hd => ?_]
  unfold notId
  have := findW_none h d hd
  simpa using this
/-- In its place the timer is found once. -/
theorem place_one {s : Wh} {ct : Nat → List Du} (hk : WOk s) (hs : Stand s ct) {id : Int} {d : Du} (hf : findW s id = some d) : ∃ k, ∃ hk : k < (ct (plD s.now d)).length, (ct (plD s.now d))[k].id = id ∧ (∀ j (hj : j < (ct (plD s.now d)).length), j ≠ k → (ct (plD s.now d))[j].id ≠ id) ∧ (ct (plD s.now d)).eraseIdx k = (ct (plD s.now d)).filter (notId id) := by
  obtain ⟨hm, hid⟩ := findW_some hf
  have hj := plD_lt (hk.t1 d hm).2 hk.n1
  have hmem := (hs.mem hj).2 ⟨hm, rfl⟩
  have hnd : ((ct (plD s.now d)).map (·.id)).Nodup := by
    have h1 := ((hs _ hj).map (·.id)).nodup_iff.2 (hk.nodup.sublist (List.filter_sublist.map _))
    exact h1
  generalize ct (plD s.now d) = l at hmem hnd ⊢
  obtain ⟨k, hkl, hkd⟩ := List.getElem_of_mem hmem
  have huniq : ∀ j (hj : j < l.length), l[j].id = id → j = k := fun j hj e => by
    have h1 : (l.map (·.id))[j]'(by simpa using hj) = (l.map (·.id))[k]'(by simpa using hkl) := by
      rw [List.getElem_map, List.getElem_map, hkd, hid, e]
    exact (List.getElem_inj hnd).1 h1
  refine ⟨k, hkl, by rw [hkd]; exact hid, fun j hj hne e => hne (huniq j hj e), ?_⟩
  rw [List.eraseIdx_eq_take_drop_succ]
  conv => rhs; rw [← List.take_append_drop k l, List.drop_eq_getElem_cons hkl]
  rw [List.filter_append, List.filter_cons_of_neg (by unfold notId; rw [hkd, hid]; simp)]
  congr 1
  · refine (List.filter_eq_self.2 fun x hx => ?_).symm
    obtain ⟨j, hj, rfl⟩ := List.getElem_of_mem hx
    have hj2 : j < k := by rw [List.length_take] at hj; omega
    rw [List.getElem_take]
    unfold notId
    have hne : l[j].id ≠ id := fun e => by have := huniq j (by omega) e; omega
    simpa using hne
  · refine (List.filter_eq_self.2 fun x hx => ?_).symm
    obtain ⟨j, hj, rfl⟩ := List.getElem_of_mem hx
    rw [List.length_drop] at hj
    rw [List.getElem_drop]
    unfold notId
    have hne : l[k + 1 + j].id ≠ id := fun e => by have := huniq (k + 1 + j) (by omega) e; omega
    simpa using hne
set_option maxHeartbeats 8000000 in
set_option maxRecDepth 100000 in
theorem cancel_raw (x : WSt) (hx : x.Ok) (h : St w0 w (x.G ++ Δ)) (id : Int) :
    Calls Try.prog 16 #[.pointer (some ⟨x.p, 0, none⟩), .int .i64 id] w fun e w' => e = .returned (.bool (findW x.s id).isSome) ∧ WAt w0 Δ x.p (cutW x.s id) w' := by
  have HX := Lib.hid hx
  obtain ⟨p, b, hs, ct, now, last, L⟩ := x
  have h' : St w0 w (obH p b now last hs :: obMp b (prD L) :: (fam 448 (famD hs ct) ++ Δ)) := h
  have H1 := Lib.hid (h'.boxF #[.int .i64 id] 3)
  show Calls Try.prog 16 #[.pointer (some ⟨p, 0, none⟩), .int .i64 id] w _
  have HLK : Hid (lookM (prD L) id = (findW ⟨now, last, L⟩ id).map (·.t)) := Lib.hid (pr_look ⟨now, last, L⟩ id)
  have HHL : Hid (hs.length = 448) := Lib.hid hx.hl
  clear h h' hx
  go_enter Try.func16, Try.ntmps16
  go_wp2_with fail
  have c0 : (w.alloc (.cells #[.int .i64 id] 3)).cell? ⟨w.heap.size, 0, none⟩ = some (.int .i64 id) := H1.out.cellB 0 rfl 0 rfl
  have c4 := H1.out.hMap 1 rfl HHL.out
  generalize hB : w.heap.size = B at *
  generalize w.alloc (.cells #[.int .i64 id] 3) = W1 at *
  clear hB
  cases hf : findW ⟨now, last, L⟩ id with
  | none =>
    have hlk : ∀ q, (Instr.lookup 60 (.map (some b)) (.int .i64 id) true).run Try.prog (W1.drewN q) = .ok (.tuple #[.int .i64 0, .bool false]) (W1.drewN q) := fun q => by
      have := run_lookM (show MpAt (W1.drewN q) b (prD L) from (H1.out.drewN q).get 2 rfl) id true
      rw [HLK.out, hf] at this
      exact this
    have HE : Hid (WAt w0 Δ p (cutW ⟨now, last, L⟩ id) W1) := Lib.hid ⟨⟨p, b, hs, ct, now, last, L⟩, rfl, HX.out, (cut_none hf).symm, H1.out.sub (List.sublist_cons_self _ _)⟩
    have HF := Lib.hid hf
    clear hf
    go_quiet (fail)
    all_goals
      go_wp2_with fail
      go_ret
      refine ⟨by rw [HF.out]; rfl, ?_⟩
      obtain ⟨x, e1, e2, e3, e4⟩ := HE.out
      exact ⟨x, e1, e2, e3, e4.drewN _⟩
  | some d =>
    have hlk : ∀ q, (Instr.lookup 60 (.map (some b)) (.int .i64 id) true).run Try.prog (W1.drewN q) = .ok (.tuple #[.int .i64 d.t, .bool true]) (W1.drewN q) := fun q => by
      have := run_lookM (show MpAt (W1.drewN q) b (prD L) from (H1.out.drewN q).get 2 rfl) id true
      rw [HLK.out, hf] at this
      exact this
    have HF := Lib.hid hf
    clear hf
    go_quiet (fail)
    have H2 := Lib.hid (H1.out.drewN nq)
    generalize W1.drewN nq = W2 at H2 ⊢
    clear H1 hlk c0 c4
    have c0 := H2.out.cellB 0 rfl 0 rfl
    have c4 := H2.out.hMap 1 rfl HHL.out
    go_wp2_with fail
    have H3 := Lib.hid H2.out.drew
    obtain ⟨W4, hdel, h4⟩ := H3.out.delK 2 rfl id 0
    have H4 := Lib.hid h4
    clear h4
    go_region_held3 (fun W => W.cell? ⟨p, 450, none⟩ = some (.map (some b)) ∧ W.cell? ⟨B, 0, none⟩ = some (.int .i64 id)) (first | exact ⟨H2.out.hMap 1 rfl HHL.out, H2.out.cellB 0 rfl 0 rfl⟩ | exact ⟨H3.out.hMap 1 rfl HHL.out, H3.out.cellB 0 rfl 0 rfl⟩ | exact ⟨H4.out.hMap 1 rfl HHL.out, H4.out.cellB 0 rfl 0 rfl⟩) (first | fail)
    all_goals
      clear H2 H3 hdel c0 c4
      obtain ⟨hm, hid⟩ := findW_some HF.out
      obtain ⟨i, hi, hi1, hi2, hi3⟩ := place_one HX.out.ok HX.out.st HF.out
      have HT : Hid ((0 ≤ d.t ∧ d.t ≤ 1099511627776) ∧ (0 ≤ now ∧ now ≤ 1099511627776)) := Lib.hid ⟨⟨by have := HX.out.ok.n0; have := (HX.out.ok.t1 d hm).1; have : 0 ≤ now := HX.out.ok.n0; have : now ≤ d.t := (HX.out.ok.t1 d hm).1; omega, (HX.out.ok.t1 d hm).2⟩, HX.out.ok.n0, HX.out.ok.n1⟩
      have hk4 : plD now d < 448 := plD_lt HT.out.1.2 HT.out.2.2
      have hlen : (ct (plD now d)).length ≤ 4096 := WSt.ctLen HX.out hk4
      have HP : Hid (∀ W, St w0 W (obB B #[.int .i64 id] 3 :: obH p b now last hs :: obMp b (delM (prD L) id) :: (fam 448 (famD hs ct) ++ Δ)) → Calls Try.prog 31 #[.pointer (some ⟨p, 0, none⟩), .int .i64 d.t] W fun e w' => e = .returned (.pointer (some ⟨p, 2 + plD now d, none⟩)) ∧ ∃ n, w' = W.drewN n) := Lib.hid fun W hW => place_at hW 1 rfl d.t HT.out.1 HT.out.2
      have HEnd : Hid (∀ s' W, St w0 W (obB B #[.int .i64 id] 3 :: obH p b now last (hs.set (plD now d) s') :: obMp b (delM (prD L) id) :: (fam 448 (famD (hs.set (plD now d) s') fun j => if j = plD now d then (ct (plD now d)).filter (notId id) else ct j) ++ Δ)) → WAt w0 Δ p (cutW ⟨now, last, L⟩ id) W) := Lib.hid fun s' W hW => by
        have hdm : delM (prD L) id = prD (L.filter (notId id)) := pr_del id HX.out.ok.nodup
        rw [hdm] at hW
        exact ⟨⟨p, b, hs.set (plD now d) s', _, cutW ⟨now, last, L⟩ id⟩, rfl, ⟨(List.length_set ..).trans HX.out.hl, cut_ok HX.out.ok id, cut_stand HX.out.ok HX.out.st HF.out rfl⟩, rfl, hW.sub (List.sublist_cons_self _ _)⟩
      generalize plD now d = k at *
      have HI := Lib.hid (And.intro hk4 (And.intro hi (And.intro hi1 (And.intro hi2 (And.intro hi3 hlen)))))
      clear hm hid hi1 hi2 hi3 hlen hk4 HX HLK
      obtain ⟨s, hs1⟩ : ∃ s, hd hs k = s := ⟨_, rfl⟩
      have hfam := fam_at [obB B #[.int .i64 id] 3, obH p b now last hs, obMp b (delM (prD L) id)] (famD hs ct) Δ HI.out.1
      rw [show famD hs ct k = obD (hv s) (ct k) from by show obW _ _ _ _ _ = _; rw [hs1]] at hfam
      obtain ⟨A, q, c⟩ := s
      have HFM := Lib.hid hfam
      have HS1 := Lib.hid hs1
      clear hfam hs1
      have HDL : Hid (∀ W5, St w0 W5 (obB B #[.int .i64 id] 3 :: obH p b now last hs :: obMp b (delM (prD L) id) :: (fam 448 (famD hs ct) ++ Δ)) → Calls Try.prog 32 #[.slice A q c, .func (.func 33) #[] #[.pointer (some ⟨B, 0, none⟩)]] W5 fun e w' => e = .returned (.slice A (q - 1) c) ∧ St w0 w' (obB B #[.int .i64 id] 3 :: obH p b now last hs :: obMp b (delM (prD L) id) :: (fam 448 (famD (hs.set k (A, q - 1, c)) fun j => if j = k then (ct k).filter (notId id) else ct j) ++ Δ))) := Lib.hid (fun W5 H5 => by
        refine (delete_raw H5 _ HFM.out 0 (by show 0 ≠ 3 + k; omega) rfl hi HI.out.2.2.1 HI.out.2.2.2.1 (by have := HI.out.2.2.2.2.2; omega)).mono fun e w' ⟨he, hs'⟩ => ⟨he, ?_⟩
        rw [HI.out.2.2.2.2.1] at hs'
        exact St.famPut (F := [obB B #[.int .i64 id] 3, obH p b now last hs, obMp b (delM (prD L) id)]) hs' HI.out.1 fun j _ => by
          show obW kD 36 flD (hv (hd (hs.set k (A, q - 1, c)) j)) (if j = k then (ct k).filter (notId id) else ct j) = _
          rw [hd_set _ _ _ _ (by have := HHL.out; have := HI.out.1; omega)]
          by_cases e : j = k
          · rw [if_pos e, if_pos e, if_pos e]
          · rw [if_neg e, if_neg e, if_neg e])
      clear HFM
      go_wp2_with (first | (go_at_call 31; refine (HP.out _ H4.out).mono ?_; rintro e w5 ⟨rfl, n5, rfl⟩; have H5 := Lib.hid (H4.out.drewN n5); have c0 := H5.out.hAt 1 rfl k (by have := HHL.out; have := HI.out.1; omega); rw [HS1.out] at c0; replace c0 : (W4.drewN n5).cell? ⟨p, 2 + k, none⟩ = some (.slice A q c) := c0; clear H4) | (go_at_call 32; refine (HDL.out _ H5.out).mono ?_; rintro e w6 ⟨rfl, hs6⟩; have H6 := Lib.hid hs6; clear hs6; have f6 := H6.out.freeB 1 rfl (2 + k); have c6 := H6.out.hAt 1 rfl k (by have := HHL.out; have := HI.out.1; omega); rw [HS1.out] at c6; replace c6 : w6.cell? ⟨p, 2 + k, none⟩ = some (.slice A q c) := c6; clear H5 c0))
      go_ret
      refine ⟨by rw [HF.out]; rfl, HEnd.out (A, q - 1, c) _ ?_⟩
      exact H6.out.setAt 1 rfl k (by have := HHL.out; have := HI.out.1; omega) (A, q - 1, c)
end
end Go.Proofs.Ytadhceoaoopcjaa.SL
