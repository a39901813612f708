/- The plain law of the statement WheelLeaps: what is told by steps is what is told at once. No condition. -/
import Derived.Test.YtadhceoaoopcjaaF8
namespace Go.Proofs.Ytadhceoaoopcjaa.SL
open Go.RowKit Go.Proofs.YtadhceoaoopcjaaW.PrintWords Go.Proofs.YtadhceoaoopcjaaW.PrintLast Go.Proofs.YtadhceoaoopcjaaW.PrintMore
def dueB (ats : List Int) (c tk : Int) : List Du := ordT ((bookL ats c).filter (dueP tk))
/-- All that is told up to c. -/
def toldL (ats : List Int) (c : Int) : List Du := dueB ats (-1) c
theorem told_nil (ats : List Int) : toldL ats (-1) = [] := by
  unfold toldL dueB
  have e : (bookL ats (-1)).filter (dueP (-1)) = [] := List.filter_eq_nil_iff.2 fun d hd => by
    obtain ⟨i, _, hc, rfl⟩ := mem_book.1 hd
    unfold dueP
    rw [decide_eq_true_eq]
    show ¬ ats.getD i 0 ≤ -1
    omega
  rw [e]
  rfl
theorem told_step (ats : List Int) {c tk : Int} (hc : -1 ≤ c) (h : c ≤ tk) : toldL ats c ++ dueB ats c tk = toldL ats tk := by
  unfold toldL dueB
  obtain ⟨o1, p1, _⟩ := bk_due ats hc
  obtain ⟨o2, p2, _⟩ := bk_due ats h
  refine ordT_of ((book_nodup ats (-1)).sublist (List.filter_sublist.map _)) (List.pairwise_append.2 ⟨o1, o2, fun x hx y hy => ?_⟩) ?_
  · have hx2 := (List.mem_filter.1 (p1.mem_iff.1 hx)).2
    have hy2 := (List.mem_filter.1 (p2.mem_iff.1 hy)).1
    obtain ⟨i, _, hci, rfl⟩ := mem_book.1 hy2
    have hx3 : x.t ≤ c := of_decide_eq_true hx2
    exact decide_eq_true (.inl (by show x.t < ats.getD i 0; omega))
  · refine (p1.append p2).trans ?_
    have hb := book_adv ats hc
    rw [← hb, List.filter_filter]
    refine (part_perm (dueP tk) (dueP c) (fun a => dueP tk a && !dueP c a) (bookL ats (-1)) (fun x _ => ?_) (fun x _ hx => ?_)).symm
    · unfold dueP
      by_cases h1 : x.t ≤ c
      · rw [decide_eq_true h1, decide_eq_true (show x.t ≤ tk by omega)]; rfl
      · rw [decide_eq_false h1, Bool.false_or, Bool.not_false, Bool.and_true]
    · rw [hx]; simp
theorem told_mem {ats : List Int} {c : Int} (hc : -1 ≤ c) {y : Du} (hy : y ∈ toldL ats c) : ∃ i, i < ats.length ∧ -1 < ats.getD i 0 ∧ y = bkD ats i :=
  mem_book.1 (List.mem_filter.1 ((bk_due ats hc).2.1.mem_iff.1 hy)).1
theorem due_mem {ats : List Int} {c tk : Int} (h : c ≤ tk) {y : Du} (hy : y ∈ dueB ats c tk) : c < y.t ∧ y.t ≤ tk := by
  obtain ⟨h1, h2⟩ := List.mem_filter.1 ((bk_due ats h).2.1.mem_iff.1 hy)
  obtain ⟨i, _, hci, rfl⟩ := mem_book.1 h1
  exact ⟨hci, of_decide_eq_true h2⟩
theorem told_len (ats : List Int) {c : Int} (hc : -1 ≤ c) : (toldL ats c).length + cntB ats c ats.length = cntB ats (-1) ats.length := (bk_due ats hc).2.2
theorem cnt_last {ats : List Int} {m : Int} (h : ∀ i, i < ats.length → ats.getD i 0 ≤ m) : ∀ k, k ≤ ats.length → cntB ats m k = 0
  | 0, _ => rfl
  | k + 1, hk => by
    rw [cntB_succ, cnt_last h k (by omega), if_neg]
    have := h k (by omega)
    omega
theorem told_ord (ats : List Int) {c : Int} (hc : -1 ≤ c) {k : Nat} (hk : k + 1 < (toldL ats c).length) : (toldL ats c)[k].t < (toldL ats c)[k + 1].t ∨ ((toldL ats c)[k].t = (toldL ats c)[k + 1].t ∧ (toldL ats c)[k].id < (toldL ats c)[k + 1].id) :=
  of_decide_eq_true (List.pairwise_iff_getElem.1 (show OrdD (toldL ats c) from (bk_due ats hc).1) k (k + 1) (by omega) hk (Nat.lt_succ_self k))
theorem told_ord2 {ats : List Int} {c : Int} {l : List Du} (hc : -1 ≤ c) (hl : toldL ats c = l) : ∀ k (h : k + 1 < l.length), l[k].t < l[k + 1].t ∨ (l[k].t = l[k + 1].t ∧ l[k].id < l[k + 1].id) := by
  subst hl
  exact fun k hk => told_ord ats hc hk
/-- Where the leaps stand: behind i of them at a tick, all up to c told. -/
structure LeapI (now : Int) (i : Nat) (tk c : Int) : Prop where
  n0 : now ≤ tk
  n1 : tk ≤ 1099511627776
  z : i = 0 → tk = now ∧ c = -1
  s : 0 < i → c = tk
theorem LeapI.c0 {now tk c : Int} {i : Nat} (h : LeapI now i tk c) (hn : 0 ≤ now) : -1 ≤ c ∧ c ≤ tk := by
  have h0 := h.n0
  rcases Nat.eq_zero_or_pos i with e | e
  · have := h.z e; omega
  · have := h.s e; omega
theorem LeapI.next {now tk c tk' : Int} {i : Nat} (h : LeapI now i tk c) (h1 : tk ≤ tk') (h2 : tk' ≤ 1099511627776) : LeapI now (i + 1) tk' tk' :=
  ⟨by have := h.n0; omega, h2, fun e => absurd e (Nat.succ_ne_zero i), fun _ => rfl⟩
theorem leap_wok {now tk c : Int} {i : Nat} {ats : List Int} (h : LeapI now i tk c) (hf : FilI now ats) : WOk (bkW tk ats c) := by
  have hl := hf.l
  refine book_ok (by have := hf.n0; have := h.n0; omega) h.n1 (by omega) fun j hj hc => ?_
  rcases Nat.eq_zero_or_pos i with e | e
  · obtain ⟨e1, e2⟩ := h.z e
    rcases hf.r j hj with g | g <;> omega
  · have e1 := h.s e
    rcases hf.r j hj with g | g <;> omega
theorem next_rng {s : Wh} (h : WOk s) {r : Int} (hr : nextS s = (r, true)) : s.now ≤ r ∧ r ≤ 1099511627776 := by
  unfold nextS at hr
  cases hm : minT s.L with
  | none => rw [hm] at hr; cases (Prod.mk.inj hr).2
  | some m =>
    rw [hm] at hr
    obtain ⟨⟨d, hd, e⟩, _⟩ := minT_spec.2 m hm
    obtain rfl : m = r := (Prod.mk.inj hr).1
    have := h.t1 d hd
    omega
theorem leap_adv {ats : List Int} {tk c tk' : Int} (h1 : tk ≤ tk') (h2 : tk' ≤ 1099511627776) (hc : c ≤ tk) : dueL (bkW tk ats c) tk' = dueB ats c tk' ∧ advE (bkW tk ats c) tk' = 0 ∧ advS (bkW tk ats c) tk' = bkW tk' ats tk' := by
  obtain ⟨b1, b2, b3⟩ := bk_adv (ats := ats) h1 h2 (show c ≤ tk' by omega)
  exact ⟨b3, b1, b2⟩
theorem due_len (ats : List Int) {c tk : Int} (h : c ≤ tk) : (dueB ats c tk).length ≤ ats.length := by
  have := (bk_due ats h).2.2
  have := cntB_le ats c ats.length
  unfold dueB
  omega
theorem told_len_le (ats : List Int) {c : Int} (hc : -1 ≤ c) : (toldL ats c).length ≤ ats.length := due_len ats hc
end Go.Proofs.Ytadhceoaoopcjaa.SL
