/- The law's tick and plays: one call on a wheel and on the document's. No condition but sizes. PRINTED BY gen_plays.py -/
import Derived.Test.YtadhceoaoopcjaaR9
import Derived.Test.YtadhceoaoopcjaaRow
namespace Go.Proofs.Ytadhceoaoopcjaa.SL
open Go.RowKit Go.Proofs.YtadhceoaoopcjaaW.PrintWords Go.Proofs.YtadhceoaoopcjaaW.PrintLast Go.Proofs.YtadhceoaoopcjaaW.PrintMore
abbrev opV (o : Op5) : Array Value := #[.int .i64 o.k, .int .i64 o.wh, .int .i64 o.n, .bool o.st, .int .i64 o.x]
theorem addS_last (s : Wh) (t v : Int) : (addS s t v).last ≤ s.last + 1 := by
  unfold addS
  split
  · exact Int.le_refl _
  · omega
theorem advS_last (s : Wh) (t : Int) : (advS s t).last ≤ s.last + 1 := by
  unfold advS
  split
  · show s.last ≤ _; omega
  · omega
theorem due_short {s : Wh} (hk : WOk s) (t : Int) : (dueL s t).length ≤ 100000 := by
  unfold dueL
  split
  · rw [(ordT_spec (ids_nodup (hk.ids.filter _))).2.length_eq]
    have := List.length_filter_le (dueP t) s.L
    have := hk.len
    omega
  · exact Nat.zero_le _
/-- Behind a call of plays. -/
def PlP (w0 : World) (Γ : List Ob) (p q : Nat) (s : Wh) (e : Ending) (w' : World) : Prop :=
  ∃ x' y' s', e = .returned (.bool true) ∧ WSt.Is x' p s' ∧ RSt.Is y' q s' ∧ s'.last ≤ s.last + 1 ∧ St w0 w' (obWh x' :: obRf y' :: Γ)
section
variable {w0 w : World} {Γ : List Ob} {p q : Nat} {s : Wh} {x : WSt} {y : RSt}
set_option maxHeartbeats 2000000 in
theorem c_tick (h : St w0 w Γ) (i : Nat) (hi : Γ[i]? = some (obRf y)) (hy : y.Is q s) (o : Op5) :
    Calls Try.prog 36 #[.pointer (some ⟨q, 0, none⟩), .agg (opV o)] w fun e w' => ∃ n, e = .returned (.int .i64 n) ∧ St w0 w' Γ := by
  have HB := Lib.hid (h.boxF (opV o) 57)
  have HS : Hid (St w0 (w.alloc (.cells (opV o) 57)) Γ) := Lib.hid (HB.out.sub (List.sublist_cons_self _ _))
  obtain ⟨ok, wh, n, st, xv⟩ := o
  have b0 := HB.out.cellB 0 rfl 0 rfl
  have b1 := HB.out.cellB 0 rfl 1 rfl
  have b2 := HB.out.cellB 0 rfl 2 rfl
  have b3 := HB.out.cellB 0 rfl 3 rfl
  have b4 := HB.out.cellB 0 rfl 4 rfl
  have c0 := HS.out.cellRf i hi hy
  clear h hi hy HB
  cases st
  · go_enter Try.func36, Try.ntmps36
    go_wp2
    go_ret
    exact ⟨_, rfl, HS.out⟩
  · go_enter Try.func36, Try.ntmps36
    go_wp2
    go_quiet (fail)
    go_wp2
    go_ret
    exact ⟨_, rfl, HS.out.drewN _⟩
set_option maxHeartbeats 8000000 in
theorem plays_add (h : St w0 w (obWh x :: obRf y :: Γ)) (hx : x.Is p s) (hy : y.Is q s) (hl : s.last < 4000000000000000000) (wh n : Int) (st : Bool) (xv : Int) :
    Calls Try.prog 21 #[.pointer (some ⟨p, 0, none⟩), .pointer (some ⟨q, 0, none⟩), .agg (opV ⟨1, wh, n, st, xv⟩)] w (PlP w0 Γ p q s) := by
  have HL := Lib.hid (show True → s.last < 4000000000000000000 from fun _ => hl)
  have HK := Lib.hid hx.wok
  have HX := Lib.hid hx
  have HY := Lib.hid hy
  have HB := Lib.hid (h.boxF (opV ⟨1, wh, n, st, xv⟩) 57)
  have b0 := HB.out.cellB 0 rfl 0 rfl
  have b1 := HB.out.cellB 0 rfl 1 rfl
  have b2 := HB.out.cellB 0 rfl 2 rfl
  have b3 := HB.out.cellB 0 rfl 3 rfl
  have b4 := HB.out.cellB 0 rfl 4 rfl
  have HEnd : Hid (∀ (x' : WSt) (y' : RSt) (s' : Wh) (w' : World), x'.Is p s' → y'.Is q s' → s'.last ≤ s.last + 1 → St w0 w' (obWh x' :: obRf y' :: Γ) → PlP w0 Γ p q s (.returned (.bool true)) w') := Lib.hid fun x' y' s' w' h1 h2 h3 h4 => ⟨x', y', s', rfl, h1, h2, h3, h4⟩
  clear h hx hy hl
  go_enter Try.func21, Try.ntmps21
  go_wp2_with (first
          | (go_at_call 36; refine (c_tick HB.out 2 rfl HY.out ⟨1, wh, n, st, xv⟩).mono ?_; rintro e w1 ⟨tn, rfl, hs⟩; have b0 := hs.cellB 0 rfl 0 rfl; have b1 := hs.cellB 0 rfl 1 rfl; have b2 := hs.cellB 0 rfl 2 rfl; have b4 := hs.cellB 0 rfl 4 rfl; have HS := Lib.hid hs; clear hs; obtain ⟨r, hr⟩ : ∃ v, addR s tn = v := ⟨_, rfl⟩; have Hr := Lib.hid hr; clear hr; obtain ⟨e1, he1⟩ : ∃ v, addE s tn = v := ⟨_, rfl⟩; have He1 := Lib.hid he1; clear he1; obtain ⟨s1, hs1⟩ : ∃ v, addS s tn xv = v := ⟨_, rfl⟩; have Hs1 := Lib.hid hs1; clear hs1; have z1 : (r == r) = true := (by simp); have z2 : (e1 == e1) = true := (by simp); have z3 : (s1.now == s1.now) = true := (by simp); have z4 : ((s1.L.length : Int) == (s1.L.length : Int)) = true := (by simp))
          | (go_at_call 12; refine (c_add HS.out 1 rfl HX.out (HL.out trivial) tn xv Hr.out He1.out Hs1.out).mono ?_; rintro e w2 ⟨x2, rfl, hx2, hs⟩; replace HX := Lib.hid hx2; have b4 := hs.cellB 0 rfl 4 rfl; replace HS := Lib.hid hs; clear hs hx2)
          | (go_at_call 37; refine (r_add HS.out 2 rfl HY.out HK.out (HL.out trivial) tn xv Hr.out He1.out Hs1.out).mono ?_; rintro e w3 ⟨y2, rfl, hy2, hs⟩; replace HY := Lib.hid hy2; replace HS := Lib.hid hs; clear hs hy2)
          | (go_at_call 13; refine (c_now HS.out 1 rfl HX.out).mono ?_; rintro e w7 ⟨rfl, rfl⟩)
          | (go_at_call 43; refine (r_now HS.out 2 rfl HY.out).mono ?_; rintro e w7 ⟨rfl, rfl⟩)
          | (go_at_call 15; refine (c_len HS.out 1 rfl HX.out).mono ?_; rintro e w7 ⟨rfl, rfl⟩)
          | (go_at_call 44; refine (r_len HS.out 2 rfl HY.out).mono ?_; rintro e w7 ⟨rfl, rfl⟩))
  go_ret
  exact HEnd.out _ _ _ _ HX.out HY.out (by rw [← Hs1.out]; exact addS_last _ _ _) (HS.out.sub (List.sublist_cons_self _ _))
set_option maxHeartbeats 8000000 in
theorem plays_cancel (h : St w0 w (obWh x :: obRf y :: Γ)) (hx : x.Is p s) (hy : y.Is q s) (hl : s.last < 4000000000000000000) (wh n : Int) (st : Bool) (xv : Int) :
    Calls Try.prog 21 #[.pointer (some ⟨p, 0, none⟩), .pointer (some ⟨q, 0, none⟩), .agg (opV ⟨2, wh, n, st, xv⟩)] w (PlP w0 Γ p q s) := by
  have HL := Lib.hid (show True → s.last < 4000000000000000000 from fun _ => hl)
  have HK := Lib.hid hx.wok
  have HX := Lib.hid hx
  have HY := Lib.hid hy
  have HB := Lib.hid (h.boxF (opV ⟨2, wh, n, st, xv⟩) 57)
  have b0 := HB.out.cellB 0 rfl 0 rfl
  have b1 := HB.out.cellB 0 rfl 1 rfl
  have b2 := HB.out.cellB 0 rfl 2 rfl
  have b3 := HB.out.cellB 0 rfl 3 rfl
  have b4 := HB.out.cellB 0 rfl 4 rfl
  have HEnd : Hid (∀ (x' : WSt) (y' : RSt) (s' : Wh) (w' : World), x'.Is p s' → y'.Is q s' → s'.last ≤ s.last + 1 → St w0 w' (obWh x' :: obRf y' :: Γ) → PlP w0 Γ p q s (.returned (.bool true)) w') := Lib.hid fun x' y' s' w' h1 h2 h3 h4 => ⟨x', y', s', rfl, h1, h2, h3, h4⟩
  obtain ⟨r, hr⟩ : ∃ v, (findW s n).isSome = v := ⟨_, rfl⟩
  have Hr := Lib.hid hr
  obtain ⟨s1, hs1⟩ : ∃ v, cutW s n = v := ⟨_, rfl⟩
  have Hs1 := Lib.hid hs1
  have z1 : (r == r) = true := by simp
  have z2 : (s1.now == s1.now) = true := by simp
  have z3 : ((s1.L.length : Int) == (s1.L.length : Int)) = true := by simp
  clear hr hs1
  clear h hx hy hl
  go_enter Try.func21, Try.ntmps21
  go_wp2_with (first
          | (go_at_call 36; refine (c_tick HB.out 2 rfl HY.out ⟨2, wh, n, st, xv⟩).mono ?_; rintro e w1 ⟨tn, rfl, hs⟩; have b0 := hs.cellB 0 rfl 0 rfl; have b1 := hs.cellB 0 rfl 1 rfl; have b2 := hs.cellB 0 rfl 2 rfl; have b4 := hs.cellB 0 rfl 4 rfl; have HS := Lib.hid hs; clear hs))
  go_region_held3 (fun W => W.cell? ⟨w.heap.size, 2, none⟩ = some (.int .i64 n)) (first | exact HS.out.cellB 0 rfl 2 rfl | exact HS.out.drew.cellB 0 rfl 2 rfl)
    (first
      | (go_at_call 16; first | (refine (c_cancel HS.out 1 rfl HX.out n Hr.out Hs1.out).mono ?_; rintro e w2 ⟨x2, rfl, hx2, hs⟩; have HX := Lib.hid hx2; have HS := Lib.hid hs; clear hs hx2) | (refine (c_cancel HS.out.drew 1 rfl HX.out n Hr.out Hs1.out).mono ?_; rintro e w2 ⟨x2, rfl, hx2, hs⟩; have HX := Lib.hid hx2; have HS := Lib.hid hs; clear hs hx2))
      | (go_at_call 38; first | (refine (r_cancel HS.out 2 rfl HY.out HK.out n Hr.out Hs1.out).mono ?_; rintro e w3 ⟨y2, rfl, hy2, hs⟩; have HY := Lib.hid hy2; have HS := Lib.hid hs; clear hs hy2) | (refine (r_cancel HS.out.drew 2 rfl HY.out HK.out n Hr.out Hs1.out).mono ?_; rintro e w3 ⟨y2, rfl, hy2, hs⟩; have HY := Lib.hid hy2; have HS := Lib.hid hs; clear hs hy2)))
  all_goals
    go_wp2_with (first
          | (go_at_call 13; refine (c_now HS.out 1 rfl HX.out).mono ?_; rintro e w7 ⟨rfl, rfl⟩)
          | (go_at_call 43; refine (r_now HS.out 2 rfl HY.out).mono ?_; rintro e w7 ⟨rfl, rfl⟩)
          | (go_at_call 15; refine (c_len HS.out 1 rfl HX.out).mono ?_; rintro e w7 ⟨rfl, rfl⟩)
          | (go_at_call 44; refine (r_len HS.out 2 rfl HY.out).mono ?_; rintro e w7 ⟨rfl, rfl⟩))
    go_ret
    exact HEnd.out _ _ _ _ HX.out HY.out (by rw [← Hs1.out]; show s.last ≤ _; omega) (HS.out.sub (List.sublist_cons_self _ _))
set_option maxHeartbeats 8000000 in
theorem plays_adv (h : St w0 w (obWh x :: obRf y :: Γ)) (hx : x.Is p s) (hy : y.Is q s) (hl : s.last < 4000000000000000000) (wh n : Int) (st : Bool) (xv : Int) :
    Calls Try.prog 21 #[.pointer (some ⟨p, 0, none⟩), .pointer (some ⟨q, 0, none⟩), .agg (opV ⟨3, wh, n, st, xv⟩)] w (PlP w0 Γ p q s) := by
  have HL := Lib.hid (show True → s.last < 4000000000000000000 from fun _ => hl)
  have HK := Lib.hid hx.wok
  have HX := Lib.hid hx
  have HY := Lib.hid hy
  have HB := Lib.hid (h.boxF (opV ⟨3, wh, n, st, xv⟩) 57)
  have b0 := HB.out.cellB 0 rfl 0 rfl
  have b1 := HB.out.cellB 0 rfl 1 rfl
  have b2 := HB.out.cellB 0 rfl 2 rfl
  have b3 := HB.out.cellB 0 rfl 3 rfl
  have b4 := HB.out.cellB 0 rfl 4 rfl
  have HEnd : Hid (∀ (x' : WSt) (y' : RSt) (s' : Wh) (w' : World), x'.Is p s' → y'.Is q s' → s'.last ≤ s.last + 1 → St w0 w' (obWh x' :: obRf y' :: Γ) → PlP w0 Γ p q s (.returned (.bool true)) w') := Lib.hid fun x' y' s' w' h1 h2 h3 h4 => ⟨x', y', s', rfl, h1, h2, h3, h4⟩
  clear h hx hy hl
  go_enter Try.func21, Try.ntmps21
  go_wp2_with (first
          | (go_at_call 36; refine (c_tick HB.out 2 rfl HY.out ⟨3, wh, n, st, xv⟩).mono ?_; rintro e w1 ⟨tn, rfl, hs⟩; have b0 := hs.cellB 0 rfl 0 rfl; have b1 := hs.cellB 0 rfl 1 rfl; have b2 := hs.cellB 0 rfl 2 rfl; have b4 := hs.cellB 0 rfl 4 rfl; have HS := Lib.hid hs; clear hs; obtain ⟨l, hl⟩ : ∃ v, dueL s tn = v := ⟨_, rfl⟩; have Hl := Lib.hid hl; clear hl; obtain ⟨e1, he1⟩ : ∃ v, advE s tn = v := ⟨_, rfl⟩; have He1 := Lib.hid he1; clear he1; obtain ⟨s1, hs1⟩ : ∃ v, advS s tn = v := ⟨_, rfl⟩; have Hs1 := Lib.hid hs1; clear hs1; have z1 : (e1 == e1) = true := (by simp); have z2 : (s1.now == s1.now) = true := (by simp); have z3 : ((s1.L.length : Int) == (s1.L.length : Int)) = true := (by simp))
          | (go_at_call 14; refine (c_adv HS.out 1 rfl HX.out tn Hl.out He1.out Hs1.out).mono ?_; rintro e w2 ⟨A, c, x2, rfl, hx2, hs⟩; replace HX := Lib.hid hx2; replace HS := Lib.hid hs; clear hs hx2)
          | (go_at_call 39; refine (r_adv HS.out 3 rfl HY.out HK.out tn Hl.out He1.out Hs1.out).mono ?_; rintro e w3 ⟨A2, cc, y2, rfl, hy2, hs⟩; replace HY := Lib.hid hy2; replace HS := Lib.hid hs; clear hs hy2)
          | (go_at_call 40; refine (c_same27 HS.out 1 0 rfl rfl (by rw [← Hl.out]; exact due_short HK.out _)).mono ?_; rintro e w4 ⟨rfl, hs⟩; replace HS := Lib.hid hs; clear hs)
          | (go_at_call 13; refine (c_now HS.out 3 rfl HX.out).mono ?_; rintro e w7 ⟨rfl, rfl⟩)
          | (go_at_call 43; refine (r_now HS.out 4 rfl HY.out).mono ?_; rintro e w7 ⟨rfl, rfl⟩)
          | (go_at_call 15; refine (c_len HS.out 3 rfl HX.out).mono ?_; rintro e w7 ⟨rfl, rfl⟩)
          | (go_at_call 44; refine (r_len HS.out 4 rfl HY.out).mono ?_; rintro e w7 ⟨rfl, rfl⟩))
  go_ret
  exact HEnd.out _ _ _ _ HX.out HY.out (by rw [← Hs1.out]; exact advS_last _ _) (HS.out.sub ((List.sublist_cons_self _ _).trans ((List.sublist_cons_self _ _).trans (List.sublist_cons_self _ _))))
set_option maxHeartbeats 8000000 in
theorem plays_next (h : St w0 w (obWh x :: obRf y :: Γ)) (hx : x.Is p s) (hy : y.Is q s) (hl : s.last < 4000000000000000000) (wh n : Int) (st : Bool) (xv : Int) :
    Calls Try.prog 21 #[.pointer (some ⟨p, 0, none⟩), .pointer (some ⟨q, 0, none⟩), .agg (opV ⟨4, wh, n, st, xv⟩)] w (PlP w0 Γ p q s) := by
  have HL := Lib.hid (show True → s.last < 4000000000000000000 from fun _ => hl)
  have HK := Lib.hid hx.wok
  have HX := Lib.hid hx
  have HY := Lib.hid hy
  have HB := Lib.hid (h.boxF (opV ⟨4, wh, n, st, xv⟩) 57)
  have b0 := HB.out.cellB 0 rfl 0 rfl
  have b1 := HB.out.cellB 0 rfl 1 rfl
  have b2 := HB.out.cellB 0 rfl 2 rfl
  have b3 := HB.out.cellB 0 rfl 3 rfl
  have b4 := HB.out.cellB 0 rfl 4 rfl
  have HEnd : Hid (∀ (x' : WSt) (y' : RSt) (s' : Wh) (w' : World), x'.Is p s' → y'.Is q s' → s'.last ≤ s.last + 1 → St w0 w' (obWh x' :: obRf y' :: Γ) → PlP w0 Γ p q s (.returned (.bool true)) w') := Lib.hid fun x' y' s' w' h1 h2 h3 h4 => ⟨x', y', s', rfl, h1, h2, h3, h4⟩
  obtain ⟨r, is, hr⟩ : ∃ r is, nextS s = (r, is) := ⟨_, _, rfl⟩
  have Hr := Lib.hid hr
  have z0 : (r == r) = true := by simp
  have z3 : (is == is) = true := by simp
  have z1 : (s.now == s.now) = true := by simp
  have z2 : ((s.L.length : Int) == (s.L.length : Int)) = true := by simp
  clear hr
  clear h hx hy hl
  go_enter Try.func21, Try.ntmps21
  go_wp2_with (first
          | (go_at_call 36; refine (c_tick HB.out 2 rfl HY.out ⟨4, wh, n, st, xv⟩).mono ?_; rintro e w1 ⟨tn, rfl, hs⟩; have b0 := hs.cellB 0 rfl 0 rfl; have b1 := hs.cellB 0 rfl 1 rfl; have b2 := hs.cellB 0 rfl 2 rfl; have b4 := hs.cellB 0 rfl 4 rfl; have HS := Lib.hid hs; clear hs)
          | (go_at_call 18; refine (c_next HS.out 1 rfl HX.out Hr.out).mono ?_; rintro e w2 ⟨rfl, hs⟩; replace HS := Lib.hid hs; clear hs)
          | (go_at_call 41; refine (r_next HS.out 2 rfl HY.out HK.out Hr.out).mono ?_; rintro e w3 ⟨rfl, hs⟩; replace HS := Lib.hid hs; clear hs)
          | (go_at_call 13; refine (c_now HS.out 1 rfl HX.out).mono ?_; rintro e w7 ⟨rfl, rfl⟩)
          | (go_at_call 43; refine (r_now HS.out 2 rfl HY.out).mono ?_; rintro e w7 ⟨rfl, rfl⟩)
          | (go_at_call 15; refine (c_len HS.out 1 rfl HX.out).mono ?_; rintro e w7 ⟨rfl, rfl⟩)
          | (go_at_call 44; refine (r_len HS.out 2 rfl HY.out).mono ?_; rintro e w7 ⟨rfl, rfl⟩))
  go_ret
  exact HEnd.out _ _ _ _ HX.out HY.out (by omega) (HS.out.sub (List.sublist_cons_self _ _))
set_option maxHeartbeats 8000000 in
theorem plays_at (h : St w0 w (obWh x :: obRf y :: Γ)) (hx : x.Is p s) (hy : y.Is q s) (hl : s.last < 4000000000000000000) (wh n : Int) (st : Bool) (xv : Int) :
    Calls Try.prog 21 #[.pointer (some ⟨p, 0, none⟩), .pointer (some ⟨q, 0, none⟩), .agg (opV ⟨5, wh, n, st, xv⟩)] w (PlP w0 Γ p q s) := by
  have HL := Lib.hid (show True → s.last < 4000000000000000000 from fun _ => hl)
  have HK := Lib.hid hx.wok
  have HX := Lib.hid hx
  have HY := Lib.hid hy
  have HB := Lib.hid (h.boxF (opV ⟨5, wh, n, st, xv⟩) 57)
  have b0 := HB.out.cellB 0 rfl 0 rfl
  have b1 := HB.out.cellB 0 rfl 1 rfl
  have b2 := HB.out.cellB 0 rfl 2 rfl
  have b3 := HB.out.cellB 0 rfl 3 rfl
  have b4 := HB.out.cellB 0 rfl 4 rfl
  have HEnd : Hid (∀ (x' : WSt) (y' : RSt) (s' : Wh) (w' : World), x'.Is p s' → y'.Is q s' → s'.last ≤ s.last + 1 → St w0 w' (obWh x' :: obRf y' :: Γ) → PlP w0 Γ p q s (.returned (.bool true)) w') := Lib.hid fun x' y' s' w' h1 h2 h3 h4 => ⟨x', y', s', rfl, h1, h2, h3, h4⟩
  obtain ⟨r, hr⟩ : ∃ v, ((findW s n).map (·.t)).getD 0 = v := ⟨_, rfl⟩
  have Hr := Lib.hid hr
  obtain ⟨is, his⟩ : ∃ v, (findW s n).isSome = v := ⟨_, rfl⟩
  have His := Lib.hid his
  have z0 : (r == r) = true := by simp
  have z3 : (is == is) = true := by simp
  have z1 : (s.now == s.now) = true := by simp
  have z2 : ((s.L.length : Int) == (s.L.length : Int)) = true := by simp
  clear hr his
  clear h hx hy hl
  go_enter Try.func21, Try.ntmps21
  go_wp2_with (first
          | (go_at_call 36; refine (c_tick HB.out 2 rfl HY.out ⟨5, wh, n, st, xv⟩).mono ?_; rintro e w1 ⟨tn, rfl, hs⟩; have b0 := hs.cellB 0 rfl 0 rfl; have b1 := hs.cellB 0 rfl 1 rfl; have b2 := hs.cellB 0 rfl 2 rfl; have b4 := hs.cellB 0 rfl 4 rfl; have HS := Lib.hid hs; clear hs)
          | (go_at_call 19; refine (c_at HS.out 1 rfl HX.out n Hr.out His.out).mono ?_; rintro e w2 ⟨rfl, rfl⟩)
          | (go_at_call 42; refine (r_at HS.out 2 rfl HY.out HK.out n Hr.out His.out).mono ?_; rintro e w3 ⟨rfl, rfl⟩)
          | (go_at_call 13; refine (c_now HS.out 1 rfl HX.out).mono ?_; rintro e w7 ⟨rfl, rfl⟩)
          | (go_at_call 43; refine (r_now HS.out 2 rfl HY.out).mono ?_; rintro e w7 ⟨rfl, rfl⟩)
          | (go_at_call 15; refine (c_len HS.out 1 rfl HX.out).mono ?_; rintro e w7 ⟨rfl, rfl⟩)
          | (go_at_call 44; refine (r_len HS.out 2 rfl HY.out).mono ?_; rintro e w7 ⟨rfl, rfl⟩))
  go_ret
  exact HEnd.out _ _ _ _ HX.out HY.out (by omega) (HS.out.sub (List.sublist_cons_self _ _))
set_option maxHeartbeats 8000000 in
theorem plays_none (h : St w0 w (obWh x :: obRf y :: Γ)) (hx : x.Is p s) (hy : y.Is q s) (hl : s.last < 4000000000000000000) (k : Int) (h1 : k ≠ 1) (h2 : k ≠ 2) (h3 : k ≠ 3) (h4 : k ≠ 4) (h5 : k ≠ 5) (wh n : Int) (st : Bool) (xv : Int) :
    Calls Try.prog 21 #[.pointer (some ⟨p, 0, none⟩), .pointer (some ⟨q, 0, none⟩), .agg (opV ⟨k, wh, n, st, xv⟩)] w (PlP w0 Γ p q s) := by
  have HL := Lib.hid (show True → s.last < 4000000000000000000 from fun _ => hl)
  have HK := Lib.hid hx.wok
  have HX := Lib.hid hx
  have HY := Lib.hid hy
  have HB := Lib.hid (h.boxF (opV ⟨k, wh, n, st, xv⟩) 57)
  have b0 := HB.out.cellB 0 rfl 0 rfl
  have b1 := HB.out.cellB 0 rfl 1 rfl
  have b2 := HB.out.cellB 0 rfl 2 rfl
  have b3 := HB.out.cellB 0 rfl 3 rfl
  have b4 := HB.out.cellB 0 rfl 4 rfl
  have HEnd : Hid (∀ (x' : WSt) (y' : RSt) (s' : Wh) (w' : World), x'.Is p s' → y'.Is q s' → s'.last ≤ s.last + 1 → St w0 w' (obWh x' :: obRf y' :: Γ) → PlP w0 Γ p q s (.returned (.bool true)) w') := Lib.hid fun x' y' s' w' h1 h2 h3 h4 => ⟨x', y', s', rfl, h1, h2, h3, h4⟩
  have z1 : (s.now == s.now) = true := by simp
  have z2 : ((s.L.length : Int) == (s.L.length : Int)) = true := by simp
  have k1 : (k == 1) = false := by simpa using h1
  have k2 : (k == 2) = false := by simpa using h2
  have k3 : (k == 3) = false := by simpa using h3
  have k4 : (k == 4) = false := by simpa using h4
  have k5 : (k == 5) = false := by simpa using h5
  clear h1 h2 h3 h4 h5
  clear h hx hy hl
  go_enter Try.func21, Try.ntmps21
  go_wp2_with (first
          | (go_at_call 36; refine (c_tick HB.out 2 rfl HY.out ⟨k, wh, n, st, xv⟩).mono ?_; rintro e w1 ⟨tn, rfl, hs⟩; have b0 := hs.cellB 0 rfl 0 rfl; have b1 := hs.cellB 0 rfl 1 rfl; have b2 := hs.cellB 0 rfl 2 rfl; have b4 := hs.cellB 0 rfl 4 rfl; have HS := Lib.hid hs; clear hs)
          | (go_at_call 13; refine (c_now HS.out 1 rfl HX.out).mono ?_; rintro e w7 ⟨rfl, rfl⟩)
          | (go_at_call 43; refine (r_now HS.out 2 rfl HY.out).mono ?_; rintro e w7 ⟨rfl, rfl⟩)
          | (go_at_call 15; refine (c_len HS.out 1 rfl HX.out).mono ?_; rintro e w7 ⟨rfl, rfl⟩)
          | (go_at_call 44; refine (r_len HS.out 2 rfl HY.out).mono ?_; rintro e w7 ⟨rfl, rfl⟩))
  go_ret
  exact HEnd.out _ _ _ _ HX.out HY.out (by omega) (HS.out.sub (List.sublist_cons_self _ _))
/-- One call on a wheel and on the document's. -/
theorem plays_any (h : St w0 w (obWh x :: obRf y :: Γ)) (hx : x.Is p s) (hy : y.Is q s) (hl : s.last < 4000000000000000000) (o : Op5) :
    Calls Try.prog 21 #[.pointer (some ⟨p, 0, none⟩), .pointer (some ⟨q, 0, none⟩), .agg (opV o)] w (PlP w0 Γ p q s) := by
  obtain ⟨k, wh, n, st, xv⟩ := o
  by_cases h1 : k = 1
  · subst h1; exact plays_add h hx hy hl wh n st xv
  by_cases h2 : k = 2
  · subst h2; exact plays_cancel h hx hy hl wh n st xv
  by_cases h3 : k = 3
  · subst h3; exact plays_adv h hx hy hl wh n st xv
  by_cases h4 : k = 4
  · subst h4; exact plays_next h hx hy hl wh n st xv
  by_cases h5 : k = 5
  · subst h5; exact plays_at h hx hy hl wh n st xv
  exact plays_none h hx hy hl k h1 h2 h3 h4 h5 wh n st xv
end
end Go.Proofs.Ytadhceoaoopcjaa.SL
