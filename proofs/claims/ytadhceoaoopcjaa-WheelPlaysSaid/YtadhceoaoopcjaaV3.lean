/- What stands while Advance takes and puts: lists and objects. No condition. -/
import Derived.Test.YtadhceoaoopcjaaV2
namespace Go.Proofs.Ytadhceoaoopcjaa.SL
open Go.RowKit Go.Proofs.YtadhceoaoopcjaaW.PrintWords Go.Proofs.YtadhceoaoopcjaaW.PrintLast Go.Proofs.YtadhceoaoopcjaaW.PrintMore
def ctN (ct : Nat → List Du) (n j : Nat) : List Du := if j < n then [] else ct j
theorem ctN_zero (ct : Nat → List Du) (j : Nat) : ctN ct 0 j = ct j := if_neg (by omega)
theorem ctN_at (ct : Nat → List Du) (n : Nat) : ctN ct n n = ct n := if_neg (by omega)
theorem ctN_succ (ct : Nat → List Du) (n j : Nat) : ctN ct (n + 1) j = if j = n then [] else ctN ct n j := by
  unfold ctN
  by_cases h : j = n
  · subst h; rw [if_pos (by omega), if_pos rfl]
  · rw [if_neg h]
    by_cases h2 : j < n
    · rw [if_pos h2, if_pos (by omega)]
    · rw [if_neg h2, if_neg (by omega)]
theorem ctN_skip (ct : Nat → List Du) (n k : Nat) (h : ∀ i, i < k → ct (n + i) = []) (j : Nat) : ctN ct (n + k) j = ctN ct n j := by
  unfold ctN
  by_cases h1 : j < n
  · rw [if_pos h1, if_pos (by omega)]
  · rw [if_neg h1]
    by_cases h2 : j < n + k
    · rw [if_pos h2]
      obtain ⟨i, rfl⟩ : ∃ i, j = n + i := ⟨j - n, by omega⟩
      exact (h i (by omega)).symm
    · rw [if_neg h2]
/-- While the now's place is dealt out. -/
def advK (s : Wh) (ct : Nat → List Du) (tk : Int) (l : List Du) (k j : Nat) : List Du := advC s ct tk (l.take k) j
theorem advK_zero (s : Wh) (ct : Nat → List Du) (tk : Int) (l : List Du) (j : Nat) : advK s ct tk l 0 j = ctN ct (nxD s tk + 1) j := by
  unfold advK advC ctN
  rw [List.take_zero, List.filter_nil, List.append_nil]
  by_cases h : j ≤ nxD s tk
  · rw [if_pos h, if_pos (by omega)]
  · rw [if_neg h, if_neg (by omega)]
theorem advK_all (s : Wh) (ct : Nat → List Du) (tk : Int) (l : List Du) (j : Nat) : advK s ct tk l l.length j = advC s ct tk l j := by unfold advK; rw [List.take_length]
theorem advK_due {s : Wh} {ct : Nat → List Du} {tk : Int} {l : List Du} {k : Nat} (hk : k < l.length) (hd : dueP tk l[k] = true) (j : Nat) : advK s ct tk l (k + 1) j = advK s ct tk l k j := by
  unfold advK advC
  rw [List.take_succ_eq_append_getElem hk, List.filter_append, List.filter_cons_of_neg (by rw [hd]; simp), List.filter_nil, List.append_nil]
theorem advK_put {s : Wh} {ct : Nat → List Du} {tk : Int} {l : List Du} {k : Nat} (hk : k < l.length) (hd : dueP tk l[k] = false) (j : Nat) : advK s ct tk l (k + 1) j = putC (advK s ct tk l k) (plD tk l[k]) l[k] j := by
  unfold putC advK advC
  rw [List.take_succ_eq_append_getElem hk, List.filter_append]
  by_cases h : j = plD tk l[k]
  · subst h
    rw [if_pos rfl, List.filter_cons_of_pos (by rw [hd]; unfold isAt; simp), List.filter_nil, List.append_assoc]
  · rw [if_neg h, List.filter_cons_of_neg (by unfold isAt; simp; intro _ e; exact absurd e.symm h), List.filter_nil, List.append_nil]
theorem due_succ_yes {tk : Int} {l : List Du} {k : Nat} (hk : k < l.length) (hd : dueP tk l[k] = true) : (l.take (k + 1)).filter (dueP tk) = (l.take k).filter (dueP tk) ++ [l[k]] := by
  rw [List.take_succ_eq_append_getElem hk, List.filter_append, List.filter_cons_of_pos hd, List.filter_nil]
theorem due_succ_no {tk : Int} {l : List Du} {k : Nat} (hk : k < l.length) (hd : dueP tk l[k] = false) : (l.take (k + 1)).filter (dueP tk) = (l.take k).filter (dueP tk) := by
  rw [List.take_succ_eq_append_getElem hk, List.filter_append, List.filter_cons_of_neg (by rw [hd]; decide), List.filter_nil, List.append_nil]
/-- Those that are left when the first k of a list are struck. -/
def cutAll (L D : List Du) : List Du := D.foldl (fun l d => l.filter (notId d.id)) L
theorem cutAll_succ (L D : List Du) {k : Nat} (hk : k < D.length) : cutAll L (D.take (k + 1)) = (cutAll L (D.take k)).filter (notId D[k].id) := by
  unfold cutAll
  rw [List.take_succ_eq_append_getElem hk, List.foldl_append]
  rfl
theorem cutAll_nodup : ∀ (D L : List Du), (L.map (·.id)).Nodup → ((cutAll L D).map (·.id)).Nodup
  | [], _, h => h
  | d :: D, L, h => cutAll_nodup D (L.filter (notId d.id)) (h.sublist (List.filter_sublist.map _))
theorem cutAll_eq : ∀ (D L : List Du), cutAll L D = L.filter fun x => D.all fun d => notId d.id x
  | [], L => (List.filter_eq_self.2 (fun _ _ => rfl)).symm
  | d :: D, L => by
    show cutAll (L.filter (notId d.id)) D = _
    rw [cutAll_eq D, List.filter_filter]
    exact List.filter_congr fun x _ => by rw [List.all_cons, Bool.and_comm]
theorem cutAll_adv {s : Wh} (hk : WOk s) {tk : Int} {D : List Du} (hp : D.Perm (s.L.filter (dueP tk))) : cutAll s.L D = (advW s tk).L := by
  rw [cutAll_eq]
  refine List.filter_congr fun x hx => ?_
  rw [Bool.eq_iff_iff, List.all_eq_true, Bool.not_eq_true']
  constructor
  · intro h
    cases hc : dueP tk x
    · rfl
    · have := h x (hp.mem_iff.2 (List.mem_filter.2 ⟨hx, hc⟩))
      unfold notId at this
      simp at this
  · intro h d hd
    obtain ⟨hd1, hd2⟩ := List.mem_filter.1 (hp.mem_iff.1 hd)
    unfold notId
    have : x.id ≠ d.id := fun e => by
      have := hk.one hx hd1 e
      subst this
      rw [h] at hd2
      cases hd2
    simpa using this
section
variable {w0 w : World} {F Δ : List Ob} {p b : Nat} {now last : Int} {hs : List Hdr} {ct : Nat → List Du}
/-- A place's list is taken out. -/
theorem St.famTake (h : St w0 w (F ++ (fam 448 (famD hs ct) ++ Δ))) {j : Nat} (hj : j < 448) (hl : hs.length = 448) {ct' : Nat → List Du} (hc : ∀ i, i < 448 → ct' i = if i = j then [] else ct i) : St w0 w (obD (hv (hd hs j)) (ct j) :: (F ++ (fam 448 (famD (hs.set j (none, 0, 0)) ct') ++ Δ))) := by
  have hx := fam_at F (famD hs ct) Δ hj
  have h1 := h.perm (perm_out hx)
  have h2 := h1.addQuiet [obD (.slice none 0 0) []] fun o ho => by
    obtain rfl := List.mem_singleton.1 ho
    exact ⟨rfl, rfl, Kd.R_nil _ _ _ _ _⟩
  have h3 : St w0 w (obD (hv (hd hs j)) (ct j) :: ((F ++ (fam 448 (famD hs ct) ++ Δ)).set (F.length + j) (obD (.slice none 0 0) []))) := by
    refine h2.perm ?_
    exact (List.Perm.cons _ (perm_in hx)).trans (List.Perm.swap _ _ _)
  have e : (F ++ (fam 448 (famD hs ct) ++ Δ)).set (F.length + j) (obD (.slice none 0 0) []) = F ++ (fam 448 (famD (hs.set j (none, 0, 0)) ct') ++ Δ) := by
    rw [List.set_append_right _ _ (by omega), show F.length + j - F.length = j by omega, List.set_append_left _ _ (by rw [fam_len]; exact hj), fam_set (g := famD (hs.set j (none, 0, 0)) ct') fun i hi => ?_]
    show obW kD 36 flD (hv (hd (hs.set j (none, 0, 0)) i)) (ct' i) = _
    rw [hd_set _ _ _ _ (by omega), hc i hi]
    by_cases e : i = j
    · rw [if_pos e, if_pos e, if_pos e]
    · rw [if_neg e, if_neg e, if_neg e]
  rwa [e] at h3
theorem St.famCt (h : St w0 w (F ++ (fam 448 (famD hs ct) ++ Δ))) {ct' : Nat → List Du} (hc : ∀ i, i < 448 → ct' i = ct i) : St w0 w (F ++ (fam 448 (famD hs ct') ++ Δ)) :=
  St.famEq2 h fun j hj => by show obW _ _ _ _ _ = obW _ _ _ _ _; rw [hc j hj]
/-- While places are emptied: those ahead of n are. -/
def AdvI (w0 : World) (Δ : List Ob) (p b : Nat) (now last : Int) (L : List Du) (hs : List Hdr) (ct : Nat → List Du) (n : Nat) (v : Value) (wr : World) : Prop :=
  ∃ hs', hs'.length = 448 ∧ (∀ j, n ≤ j → hd hs' j = hd hs j) ∧ St w0 wr ([obH p b now last hs', obMp b (prD L), obD v (flat ct n)] ++ (fam 448 (famD hs' (ctN ct n)) ++ Δ))
theorem AdvI.drewN {L : List Du} {n : Nat} {v : Value} {wr : World} (h : AdvI w0 Δ p b now last L hs ct n v wr) (q : Nat) : AdvI w0 Δ p b now last L hs ct n v (wr.drewN q) := by
  obtain ⟨hs', h1, h2, h3⟩ := h
  exact ⟨hs', h1, h2, h3.drewN q⟩
theorem AdvI.cellNow {L : List Du} {n : Nat} {v : Value} {wr : World} (h : AdvI w0 Δ p b now last L hs ct n v wr) : wr.cell? ⟨p, 0, none⟩ = some (.int .i64 now) := by
  obtain ⟨hs', h1, h2, h3⟩ := h
  exact h3.hNow 0 rfl
/-- Places that are empty are passed over. -/
theorem AdvI.skip {L : List Du} {n k : Nat} {v : Value} {wr : World} (h : AdvI w0 Δ p b now last L hs ct n v wr) (he : ∀ i, i < k → ct (n + i) = []) : AdvI w0 Δ p b now last L hs ct (n + k) v wr := by
  obtain ⟨hs', h1, h2, h3⟩ := h
  rw [← flat_empty ct n k he] at h3
  exact ⟨hs', h1, fun j hj => h2 j (by omega), h3.famCt fun i _ => ctN_skip ct n k he i⟩
def TakenP (w0 : World) (Δ : List Ob) (p b : Nat) (now last : Int) (L : List Du) (hs : List Hdr) (ct : Nat → List Du) (n : Nat) (v : Value) (wr : World) : Prop :=
  ∃ hs', hs'.length = 448 ∧ (∀ j, n + 1 ≤ j → hd hs' j = hd hs j) ∧ St w0 wr ([obD (hv (hd hs n)) (ct n), obH p b now last hs', obMp b (prD L), obD v (flat ct n)] ++ (fam 448 (famD hs' (ctN ct (n + 1))) ++ Δ))
theorem take_adv {L : List Du} {n : Nat} {v : Value} (h : AdvI w0 Δ p b now last L hs ct n v w) (hn : n < 448) :
    Calls Try.prog 24 #[.pointer (some ⟨p, 2 + n, none⟩)] w fun e w' => e = .returned (hv (hd hs n)) ∧ TakenP w0 Δ p b now last L hs ct n v w' := by
  obtain ⟨hs', h1, h2, h3⟩ := h
  refine (take_raw h3 0 rfl n (by omega)).mono fun e w' ⟨he, hs1⟩ => ⟨by rw [he, h2 n (Nat.le_refl _)], hs'.set n (none, 0, 0), (List.length_set ..).trans h1, fun j hj => ?_, ?_⟩
  · rw [hd_set _ _ _ _ (by omega), if_neg (by omega)]
    exact h2 j (by omega)
  · have hs2 : St w0 w' ([obH p b now last (hs'.set n (none, 0, 0)), obMp b (prD L), obD v (flat ct n)] ++ (fam 448 (famD hs' (ctN ct n)) ++ Δ)) := hs1
    have := hs2.famTake hn h1 (ct' := ctN ct (n + 1)) fun i _ => ctN_succ ct n i
    rw [h2 n (Nat.le_refl _), ctN_at] at this
    exact this
theorem TakenP.after {L : List Du} {n : Nat} {v1 : Value} {w1 : World} {hs' : List Hdr} (h1 : hs'.length = 448) (h2 : ∀ j, n + 1 ≤ j → hd hs' j = hd hs j)
    (h : St w0 w1 ([obD (hv (hd hs n)) (ct n), obH p b now last hs', obMp b (prD L), obD v1 (flat ct n ++ ct n)] ++ (fam 448 (famD hs' (ctN ct (n + 1))) ++ Δ))) : AdvI w0 Δ p b now last L hs ct (n + 1) v1 w1 := by
  rw [← flat_succ] at h
  exact ⟨hs', h1, h2, St.sub (Γ := obD (hv (hd hs n)) (ct n) :: _) h (List.sublist_cons_self _ _)⟩
theorem AdvI.hdr {L : List Du} {n : Nat} {v : Value} {wr : World} (h : AdvI w0 Δ p b now last L hs ct n v wr) (hn : n < 448) : (hd hs n).2.1 = (ct n).length := by
  obtain ⟨hs', h1, h2, h3⟩ := h
  have hf := fam_at [obH p b now last hs', obMp b (prD L), obD v (flat ct n)] (famD hs' (ctN ct n)) Δ hn
  have hr := (Kd.R_reads' (h3.get _ hf)).1
  rw [ctN_at, h2 n (Nat.le_refl _)] at hr
  exact hr
theorem flat_len {s : Wh} (hk : WOk s) (hst : Stand s ct) {n : Nat} (hn : n ≤ 448) : (flat ct n).length ≤ 4096 := by
  rw [(flat_perm hst n hn).length_eq]
  exact Nat.le_trans (List.length_filter_le _ _) hk.len
end
end Go.Proofs.Ytadhceoaoopcjaa.SL
