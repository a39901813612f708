/- The walks of a wheel's New, put and Add. No condition but sizes. -/
import Derived.Test.YtadhceoaoopcjaaWC
import Derived.Test.YtadhceoaoopcjaaWS
namespace Go.Proofs.Ytadhceoaoopcjaa.SL
open Go.RowKit Go.Proofs.YtadhceoaoopcjaaW.PrintWords Go.Proofs.YtadhceoaoopcjaaW.PrintLast Go.Proofs.YtadhceoaoopcjaaW.PrintMore
theorem infoD : (Try.prog.info? 36).map (fun i => (i.zero, i.size, i.bytes)) = some (some (.agg (dV ⟨0, 0, 0⟩)), kD.sz, 24) := by kernel_rfl
theorem box_cells {w : World} {B : Nat} {d : Du} {T : TypeId} {fr : Nat × Nat} (h : w.heap[B]? = some (.cells (dV d) T fr)) : w.cell? ⟨B, 0, none⟩ = some (.int .i64 d.id) ∧ w.cell? ⟨B, 1, none⟩ = some (.int .i64 d.t) ∧ w.cell? ⟨B, 2, none⟩ = some (.int .i64 d.x) :=
  ⟨cell_of_row _ _ 0 _ _ _ h, cell_of_row _ _ 1 _ _ _ h, cell_of_row _ _ 2 _ _ _ h⟩
/-- Behind put: the place's list is longer. -/
def putC (ct : Nat → List Du) (k : Nat) (d : Du) (j : Nat) : List Du := if j = k then ct k ++ [d] else ct j
section
variable {w0 w : World} {F Δ : List Ob} {p b : Nat} {now last : Int} {hs : List Hdr} {ct : Nat → List Du}
theorem fam_put {k : Nat} (hk : k < 448) (hl : hs.length = 448) (s : Hdr) (d : Du) : ∀ j, j < 448 → famD (hs.set k s) (putC ct k d) j = if j = k then obD (hv s) (ct k ++ [d]) else famD hs ct j := fun j _ => by
  show obW _ _ _ _ _ = _
  rw [hd_set _ _ _ _ (by omega)]
  unfold putC
  by_cases e : j = k
  · rw [if_pos e, if_pos e, if_pos e]
  · rw [if_neg e, if_neg e, if_neg e]
theorem put_famPut {k : Nat} {s : Hdr} {d : Du} (h : St w0 w ((F ++ (fam 448 (famD hs ct) ++ Δ)).set (F.length + k) (obD (.slice s.1 s.2.1 s.2.2) (ct k ++ [d])))) (hk : k < 448) (hl : hs.length = 448) : St w0 w (F ++ (fam 448 (famD (hs.set k s) (putC ct k d)) ++ Δ)) := St.famPut h hk (fam_put hk hl s d)
theorem put_at {i : Nat} {x : Ob} {X : List Ob} (hi : i < F.length) {Y : List Ob} (h : (F ++ Y)[i]? = some x) : (F ++ X)[i]? = some x := by
  rw [List.getElem?_append_left hi] at h ⊢; exact h
set_option maxHeartbeats 4000000 in
set_option maxRecDepth 100000 in
theorem put_raw (h : St w0 w (F ++ (fam 448 (famD hs ct) ++ Δ))) (i : Nat) (hF : F[i]? = some (obH p b now last hs)) (hl : hs.length = 448) (d : Du) (ht : 0 ≤ d.t ∧ d.t ≤ 1099511627776) (hn : 0 ≤ now ∧ now ≤ 1099511627776) {k : Nat} (hk : plD now d = k) (hb : (ct k).length < 1000000) :
    Calls Try.prog 22 #[.pointer (some ⟨p, 0, none⟩), .agg (dV d)] w fun e w' => e = .returned (.tuple #[]) ∧ ∃ s, St w0 w' (F.set i (obH p b now last (hs.set k s)) ++ (fam 448 (famD (hs.set k s) (putC ct k d)) ++ Δ)) := by
  have hiL : i < F.length := (List.getElem?_eq_some_iff.1 hF).1
  have hG : (F ++ (fam 448 (famD hs ct) ++ Δ))[i]? = some (obH p b now last hs) := by rw [List.getElem?_append_left hiL]; exact hF
  have hk4 : k < 448 := by rw [← hk]; exact plD_lt ht.2 hn.2
  have hf0 := fam_at F (famD hs ct) Δ hk4
  have H1 := Lib.hid ((h.boxF (dV d) 36))
  have HP : Hid (∀ W, St w0 W (obB w.heap.size (dV d) 36 :: (F ++ (fam 448 (famD hs ct) ++ Δ))) → Calls Try.prog 31 #[.pointer (some ⟨p, 0, none⟩), .int .i64 d.t] W fun e w' => e = .returned (.pointer (some ⟨p, 2 + k, none⟩)) ∧ ∃ n, w' = W.drewN n) := Lib.hid fun W hW => by
    have := place_raw (p := p) (b := b) (now := now) (last := last) (hs := hs) (Δ := ((obB w.heap.size (dV d) 36 :: (F ++ (fam 448 (famD hs ct) ++ Δ))).eraseIdx (i + 1))) (hW.perm (perm_out (by rw [List.getElem?_cons_succ]; exact hG))) d.t ht hn
    rw [← hk]
    exact this
  have HI := Lib.hid (And.intro hiL (And.intro hG (And.intro hk4 (And.intro hf0 (And.intro hl hb)))))
  have hx := box_cells (show (w.alloc (.cells (dV d) 36)).heap[w.heap.size]? = _ from heap_alloc_new w _)
  obtain ⟨x0, x1, x2⟩ := hx
  clear h ht hn hk hb hl hf0 hk4 hG hiL hF
  go_enter Try.func22, Try.ntmps22
  go_wp2_with (go_at_call 31; refine (HP.out _ H1.out).mono ?_; rintro e w1 ⟨rfl, n, rfl⟩)
  have H2 := Lib.hid (H1.out.drewN n)
  generalize hW2 : (w.alloc (.cells (dV d) 36)).drewN n = W2 at *
  obtain ⟨x0, x1, x2⟩ := box_cells (show W2.heap[w.heap.size]? = some (.cells (dV d) 36 (0, 0)) from H2.out.get 0 rfl)
  have H3 : Hid (St w0 W2 (F ++ (fam 448 (famD hs ct) ++ Δ))) := Lib.hid (H2.out.sub (List.sublist_cons_self _ _))
  obtain ⟨s, hs1⟩ : ∃ s, hd hs k = s := ⟨_, rfl⟩
  have c0 := H3.out.hAt i HI.out.2.1 k (by have := HI.out.2.2.2.2.1; have := HI.out.2.2.1; omega)
  have fz := H3.out.freeB i HI.out.2.1 (2 + k)
  have hfam := HI.out.2.2.2.1
  rw [hs1] at c0
  rw [show famD hs ct k = obD (hv s) (ct k) from by show obW _ _ _ _ _ = _; rw [hs1]] at hfam
  have HFM := Lib.hid hfam
  obtain ⟨A, q, c⟩ := s
  replace c0 : W2.cell? ⟨p, 2 + k, none⟩ = some (.slice A q c) := c0
  have hq : q = (ct k).length := (Kd.R_reads' (H3.out.get _ hfam)).1
  have c1 : (W2.alloc (.cells (dV d) 36)).cell? ⟨p, 2 + k, none⟩ = some (.slice A q c) := by
    rw [World.cell?_of_block (w := W2) (heap_alloc_old W2 _ (World.block_lt_of_cell? W2 _ c0))]; exact c0
  have HQ := Lib.hid hq
  have HS1 := Lib.hid hs1
  clear hfam hq hs1 hW2 H1 H2 HP
  have H4 := Lib.hid H3.out.drew
  go_region_law (refine step_append_St kD H4.out _ HFM.out rfl (.tmp 12) (.tmp 14) 32 (.agg (dV ⟨0, 0, 0⟩)) 24 rfl Try.underlying32 infoD rfl (by decide) (by decide) d (dL d) (by first | (go_simp; done) | (go_simp; rfl)) (by first | (go_simp; done) | (go_simp; rfl)) rfl (by have := HI.out.2.2.2.2.2; omega) ?_; intro v1 w4 HG4 HS4; obtain ⟨X1, c4, rfl⟩ := HG4.out.slice; have HS5 := Lib.hid (put_famPut (s := (some X1, (ct k).length + 1, c4)) HS4.out HI.out.2.2.1 HI.out.2.2.2.2.1); have e3 := HS5.out.freeB i (put_at HI.out.1 HI.out.2.1) (2 + k); have e0 := HS5.out.hAt i (put_at HI.out.1 HI.out.2.1) k (by have := HI.out.2.2.2.2.1; have := HI.out.2.2.1; omega); rw [HS1.out] at e0; replace e0 : w4.cell? ⟨p, 2 + k, none⟩ = some (.slice A q c) := e0; clear HG4 HS4)
  all_goals
    go_wp2_with fail
    go_end0
    refine ⟨rfl, (some X1, (ct k).length + 1, c4), ?_⟩
    have hk4 := HI.out.2.2.1
    have := HS5.out.setAt i (put_at HI.out.1 HI.out.2.1) k (by have := HI.out.2.2.2.2.1; omega) (some X1, (ct k).length + 1, c4)
    rw [List.set_append_left _ _ HI.out.1] at this
    exact this
end
end Go.Proofs.Ytadhceoaoopcjaa.SL
