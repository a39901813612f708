/- The law's one: a call on the cache and on the document's. No condition but sizes. PRINTED BY gen_one.py -/
import Derived.Test.YtdinkhhaomblcaaDoorZ8
namespace Go.Proofs.YtdinkhhaomblcaaDoor.SL
open Go.RowKit Go.Proofs.YtdinkhhaomblcaaDoorW.PrintWords Go.Proofs.YtdinkhhaomblcaaDoorW.PrintLast Go.Proofs.YtdinkhhaomblcaaDoorW.PrintMore
structure Op8 where
  k : Int
  t : Int
  E : Int
  A : Int
  d : Ad
  f : Int
  m : Int
  l : Int
  n : Int
def o8L (x : Op8) : List Value := .int .i64 x.k :: .int .i64 x.t :: .int .i64 x.E :: .int .i64 x.A :: (aL x.d ++ [.int .i64 x.f, .int .i64 x.m, .int .i64 x.l, .int .i64 x.n])
def o8V (x : Op8) : Array Value := (o8L x).toArray
theorem o8L_len (x : Op8) : (o8L x).length = 25 := by unfold o8L; rw [List.length_cons, List.length_cons, List.length_cons, List.length_cons, List.length_append, aL_len]; rfl
theorem o8V_size (x : Op8) : (o8V x).size = 25 := by unfold o8V; rw [List.size_toArray, o8L_len]
theorem o8L_one (x : Op8) : ∀ u ∈ o8L x, u.oneCell' = true := fun u hu => by
  unfold o8L at hu
  rcases List.mem_cons.1 hu with rfl | hu
  · rfl
  rcases List.mem_cons.1 hu with rfl | hu
  · rfl
  rcases List.mem_cons.1 hu with rfl | hu
  · rfl
  rcases List.mem_cons.1 hu with rfl | hu
  · rfl
  rcases List.mem_append.1 hu with h | h
  · exact aL_one x.d u h
  · simp only [List.mem_cons, List.not_mem_nil, or_false] at h
    rcases h with rfl | rfl | rfl | rfl <;> rfl
theorem o8L_tail (x : Op8) (j : Nat) : (o8L x)[21 + j]? = [Value.int .i64 x.f, .int .i64 x.m, .int .i64 x.l, .int .i64 x.n][j]? := by
  unfold o8L
  rw [show 21 + j = 17 + j + 1 + 1 + 1 + 1 by omega, List.getElem?_cons_succ, List.getElem?_cons_succ, List.getElem?_cons_succ, List.getElem?_cons_succ, List.getElem?_append_right (by rw [aL_len]; omega), aL_len, show 17 + j - 17 = j by omega]
theorem o8L_addr (x : Op8) (j : Nat) (u : Value) (h : (aL x.d)[j]? = some u) : (o8L x)[4 + j]? = some u := by
  unfold o8L
  rw [show 4 + j = j + 1 + 1 + 1 + 1 by omega, List.getElem?_cons_succ, List.getElem?_cons_succ, List.getElem?_cons_succ, List.getElem?_cons_succ, List.getElem?_append_left (List.getElem?_eq_some_iff.1 h).1]
  exact h
theorem o8_tail (x : Op8) (j : Nat) : (o8V x)[21 + j]? = [Value.int .i64 x.f, .int .i64 x.m, .int .i64 x.l, .int .i64 x.n][j]? := by unfold o8V; rw [List.getElem?_toArray]; exact o8L_tail x j
theorem range_O {w : World} {b : Nat} {x : Op8} {T : TypeId} {fr : Nat × Nat} (h : w.heap[b]? = some (.cells (o8V x) T fr)) : w.rangeAt b 4 (aL x.d) := rangeAt_row h 4 _ fun j u hu => by
  unfold o8V
  rw [List.getElem?_toArray]
  exact o8L_addr x j u hu
theorem tickL_len {c : Ca} (hk : OkC c) (now : Int) : (tickL c now).length ≤ 1000 := by
  have h1 := hk.len
  have h2 := hk.e64
  unfold tickL
  split
  · exact Nat.zero_le _
  · rw [ordS_len]
    unfold dueS
    rw [List.length_map]
    have := List.length_filter_le (fun x : Ad × Bel => decide (c.A ≤ now - x.2.clk)) c.M
    omega
theorem allS_len {c : Ca} (hk : OkC c) : (ordS (c.M.map (·.1))).length ≤ 1000 := by
  have h1 := hk.len
  have h2 := hk.e64
  rw [ordS_len, List.length_map]
  omega
/-- Behind a call of one. -/
def OneP (w0 : World) (Γ : List Ob) (p b q : Nat) (c : Ca) (e : Ending) (w' : World) : Prop :=
  ∃ c' y', e = .returned (.bool true) ∧ RcSt.Is y' q c' ∧ OkC c' ∧ AllB c' ∧ c'.hrd ≤ c.hrd + 1 ∧ St w0 w' (obC p b c' :: obRc y' :: Γ)
attribute [-go_sem] loadVar
attribute [local go_sem] lv3 lv64
attribute [local go_sem ↓] Go.wp_at_zero Go.wp_at_succ
section
variable {w0 w : World} {Γ : List Ob} {p b q : Nat} {c : Ca} {y : RcSt}
set_option maxHeartbeats 8000000 in
set_option maxRecDepth 100000 in
theorem one_get (h : St w0 w (obC p b c :: obRc y :: Γ)) (g : Nat) (hg : Γ[g]? = some obG) (hy : y.Is q c) (hk : OkC c) (hab : AllB c) (hh : c.hrd < 4000000000000000000) (t E A : Int) (d : Ad) (hd : BOk d) (f m l n : Int) :
    Calls Tryd.prog 12 #[.pointer (some ⟨p, 0, none⟩), .pointer (some ⟨q, 0, none⟩), .agg (o8V ⟨2, t, E, A, d, f, m, l, n⟩)] w (OneP w0 Γ p b q c) := by
  have HS := Lib.hid (h.boxF (o8V ⟨2, t, E, A, d, f, m, l, n⟩) 34)
  have HY := Lib.hid hy
  have HK := Lib.hid hk
  have HAB := Lib.hid hab
  have HH := Lib.hid (show True → c.hrd < 4000000000000000000 from fun _ => hh)
  have HG : Hid (∀ x z u : Ob, (x :: z :: u :: Γ)[g + 3]? = some obG) := Lib.hid fun x z u => by rw [List.getElem?_cons_succ, List.getElem?_cons_succ, List.getElem?_cons_succ]; exact hg
  have HD := Lib.hid hd
  have b0 : (w.alloc (.cells (o8V ⟨2, t, E, A, d, f, m, l, n⟩) 34)).cell? ⟨w.heap.size, 0, none⟩ = some (.int .i64 2) := HS.out.cellB 0 rfl 0 rfl
  have b21 := HS.out.cellB 0 rfl 21 (o8_tail _ 0)
  have b22 := HS.out.cellB 0 rfl 22 (o8_tail _ 1)
  have b23 := HS.out.cellB 0 rfl 23 (o8_tail _ 2)
  have b24 := HS.out.cellB 0 rfl 24 (o8_tail _ 3)
  have HEnd : Hid (∀ (c' : Ca) (y' : RcSt) (w' : World), y'.Is q c' → OkC c' → AllB c' → c'.hrd ≤ c.hrd + 1 → St w0 w' (obC p b c' :: obRc y' :: Γ) → OneP w0 Γ p b q c (.returned (.bool true)) w') := Lib.hid fun c' y' w' h1 h2 h3 h4 h5 => ⟨c', y', rfl, h1, h2, h3, h4, h5⟩
  obtain ⟨r, e1, hr⟩ : ∃ r e1, getS c.M d f = (r, e1) := ⟨_, _, rfl⟩
  have Hr := Lib.hid hr
  have z1 : (r == r) = true := by simp
  have z2 : (e1 == e1) = true := by simp
  clear hr
  clear h hg hy hk hab hh hd
  go_enter Tryd.func12, Tryd.ntmps12
  go_wp2_with (first
    | (refine gate_ (.load 32 (.tmp 25)) rfl ?_; go_must (refine ld_A (.tmp 25) rfl rfl (range_O (HS.out.get 0 rfl)) rfl ?_))
    | (refine gate_ (.load 32 (.tmp 34)) rfl ?_; go_must (refine ld_A (.tmp 34) rfl rfl (range_O (HS.out.get 0 rfl)) rfl ?_))
    | (go_at_call 26; refine (c_getK HS.out 1 rfl d f Hr.out).mono ?_; rintro e w2 ⟨rfl, hs⟩; replace HS := Lib.hid hs; have b21 := hs.cellB 0 rfl 21 (o8_tail _ 0); have b22 := hs.cellB 0 rfl 22 (o8_tail _ 1); have b23 := hs.cellB 0 rfl 23 (o8_tail _ 2); have b24 := hs.cellB 0 rfl 24 (o8_tail _ 3); clear hs)
    | (go_at_call 29; refine (r_get HS.out 2 rfl HY.out HK.out d f Hr.out).mono ?_; rintro e w3 ⟨rfl, hs⟩; replace HS := Lib.hid hs; clear hs))
  go_ret
  exact HEnd.out _ _ _ HY.out HK.out HAB.out (by omega) (HS.out.sub (List.sublist_cons_self _ _))
set_option maxHeartbeats 8000000 in
set_option maxRecDepth 100000 in
theorem one_hear (h : St w0 w (obC p b c :: obRc y :: Γ)) (g : Nat) (hg : Γ[g]? = some obG) (hy : y.Is q c) (hk : OkC c) (hab : AllB c) (hh : c.hrd < 4000000000000000000) (t E A : Int) (d : Ad) (hd : BOk d) (f m l n : Int) :
    Calls Tryd.prog 12 #[.pointer (some ⟨p, 0, none⟩), .pointer (some ⟨q, 0, none⟩), .agg (o8V ⟨3, t, E, A, d, f, m, l, n⟩)] w (OneP w0 Γ p b q c) := by
  have HS := Lib.hid (h.boxF (o8V ⟨3, t, E, A, d, f, m, l, n⟩) 34)
  have HY := Lib.hid hy
  have HK := Lib.hid hk
  have HAB := Lib.hid hab
  have HH := Lib.hid (show True → c.hrd < 4000000000000000000 from fun _ => hh)
  have HG : Hid (∀ x z u : Ob, (x :: z :: u :: Γ)[g + 3]? = some obG) := Lib.hid fun x z u => by rw [List.getElem?_cons_succ, List.getElem?_cons_succ, List.getElem?_cons_succ]; exact hg
  have HD := Lib.hid hd
  have b0 : (w.alloc (.cells (o8V ⟨3, t, E, A, d, f, m, l, n⟩) 34)).cell? ⟨w.heap.size, 0, none⟩ = some (.int .i64 3) := HS.out.cellB 0 rfl 0 rfl
  have b21 := HS.out.cellB 0 rfl 21 (o8_tail _ 0)
  have b22 := HS.out.cellB 0 rfl 22 (o8_tail _ 1)
  have b23 := HS.out.cellB 0 rfl 23 (o8_tail _ 2)
  have b24 := HS.out.cellB 0 rfl 24 (o8_tail _ 3)
  have HEnd : Hid (∀ (c' : Ca) (y' : RcSt) (w' : World), y'.Is q c' → OkC c' → AllB c' → c'.hrd ≤ c.hrd + 1 → St w0 w' (obC p b c' :: obRc y' :: Γ) → OneP w0 Γ p b q c (.returned (.bool true)) w') := Lib.hid fun c' y' w' h1 h2 h3 h4 h5 => ⟨c', y', rfl, h1, h2, h3, h4, h5⟩
  obtain ⟨fl, e1, c1, hr⟩ : ∃ fl e1 c1, hearS c d f (meantS d m l).1 (meantS d m l).2 n = (fl, e1, c1) := ⟨_, _, _, rfl⟩
  have Hr := Lib.hid hr
  have HC : Hid (OkC c1 ∧ AllB c1 ∧ c1.hrd ≤ c.hrd + 1) := Lib.hid (by
    have q1 := hear_ok hk (a := d) (first := f) (now := n) (meant_68 d m l)
    have q2 := allB_hear hk hab hd f (meantS d m l).1 (meantS d m l).2 n
    have q3 := hear_hrd c d f (meantS d m l).1 (meantS d m l).2 n
    rw [hr] at q1 q2 q3
    exact ⟨q1, q2, q3⟩)
  have z1 : (fl == fl) = true := by simp
  have z2 : (e1 == e1) = true := by simp
  clear hr
  clear h hg hy hk hab hh hd
  go_enter Tryd.func12, Tryd.ntmps12
  go_wp2_with (first
    | (refine gate_ (.load 32 (.tmp 53)) rfl ?_; go_must (refine ld_A (.tmp 53) rfl rfl (range_O (HS.out.get 0 rfl)) rfl ?_))
    | (refine gate_ (.load 32 (.tmp 68)) rfl ?_; go_must (refine ld_A (.tmp 68) rfl rfl (range_O (HS.out.get 0 rfl)) rfl ?_))
    | (go_at_call 27; refine (c_hearK HS.out 1 rfl (g + 3) (HG.out _ _ _) HK.out (HH.out trivial) d f m l n Hr.out).mono ?_; rintro e w2 ⟨rfl, hs⟩; replace HS := Lib.hid hs; have b21 := hs.cellB 0 rfl 21 (o8_tail _ 0); have b22 := hs.cellB 0 rfl 22 (o8_tail _ 1); have b23 := hs.cellB 0 rfl 23 (o8_tail _ 2); have b24 := hs.cellB 0 rfl 24 (o8_tail _ 3); clear hs)
    | (go_at_call 30; refine (r_hear HS.out 2 rfl HY.out HK.out d f m l n Hr.out).mono ?_; rintro e w3 ⟨y1, rfl, hy1, hs⟩; have HY1 := Lib.hid hy1; replace HS := Lib.hid hs; clear hs hy1))
  go_ret
  exact HEnd.out _ _ _ HY1.out HC.out.1 HC.out.2.1 HC.out.2.2 (HS.out.sub (List.sublist_cons_self _ _))
set_option maxHeartbeats 8000000 in
set_option maxRecDepth 100000 in
theorem one_tick (h : St w0 w (obC p b c :: obRc y :: Γ)) (g : Nat) (hg : Γ[g]? = some obG) (hy : y.Is q c) (hk : OkC c) (hab : AllB c) (hh : c.hrd < 4000000000000000000) (t E A : Int) (d : Ad) (hd : BOk d) (f m l n : Int) :
    Calls Tryd.prog 12 #[.pointer (some ⟨p, 0, none⟩), .pointer (some ⟨q, 0, none⟩), .agg (o8V ⟨4, t, E, A, d, f, m, l, n⟩)] w (OneP w0 Γ p b q c) := by
  have HS := Lib.hid (h.boxF (o8V ⟨4, t, E, A, d, f, m, l, n⟩) 34)
  have HY := Lib.hid hy
  have HK := Lib.hid hk
  have HAB := Lib.hid hab
  have HH := Lib.hid (show True → c.hrd < 4000000000000000000 from fun _ => hh)
  have HG : Hid (∀ x z u : Ob, (x :: z :: u :: Γ)[g + 3]? = some obG) := Lib.hid fun x z u => by rw [List.getElem?_cons_succ, List.getElem?_cons_succ, List.getElem?_cons_succ]; exact hg
  have HD := Lib.hid hd
  have b0 : (w.alloc (.cells (o8V ⟨4, t, E, A, d, f, m, l, n⟩) 34)).cell? ⟨w.heap.size, 0, none⟩ = some (.int .i64 4) := HS.out.cellB 0 rfl 0 rfl
  have b21 := HS.out.cellB 0 rfl 21 (o8_tail _ 0)
  have b22 := HS.out.cellB 0 rfl 22 (o8_tail _ 1)
  have b23 := HS.out.cellB 0 rfl 23 (o8_tail _ 2)
  have b24 := HS.out.cellB 0 rfl 24 (o8_tail _ 3)
  have HEnd : Hid (∀ (c' : Ca) (y' : RcSt) (w' : World), y'.Is q c' → OkC c' → AllB c' → c'.hrd ≤ c.hrd + 1 → St w0 w' (obC p b c' :: obRc y' :: Γ) → OneP w0 Γ p b q c (.returned (.bool true)) w') := Lib.hid fun c' y' w' h1 h2 h3 h4 h5 => ⟨c', y', rfl, h1, h2, h3, h4, h5⟩
  obtain ⟨e1, c1, hr⟩ : ∃ e1 c1, tickS c above n = (e1, c1) := ⟨_, _, rfl⟩
  have Hr := Lib.hid hr
  obtain ⟨tl, htl⟩ : ∃ tl, tickL c n = tl := ⟨_, rfl⟩
  have Htl := Lib.hid htl
  have HTL : Hid (tl.length ≤ 1000) := Lib.hid (by rw [← htl]; exact tickL_len hk n)
  have HC : Hid (OkC c1 ∧ AllB c1 ∧ c1.hrd ≤ c.hrd + 1) := Lib.hid (by
    have q1 := tick_ok hk (above := above) above_68 (now := n)
    have q2 := allB_tick hab n
    have q3 := tick_hrd c n
    rw [hr] at q1 q2 q3
    exact ⟨q1, q2, by rw [q3]; omega⟩)
  have z2 : (e1 == e1) = true := by simp
  clear hr htl
  clear h hg hy hk hab hh hd
  go_enter Tryd.func12, Tryd.ntmps12
  go_wp2_with (first
    | (go_at_call 19; refine (c_tickG HS.out 1 rfl (g + 3) (HG.out _ _ _) HK.out HAB.out n Hr.out Htl.out).mono ?_; rintro e w2 ⟨A1, cp1, rfl, hs⟩; replace HS := Lib.hid hs; have b24 := hs.cellB 1 rfl 24 (o8_tail _ 3); clear hs)
    | (go_at_call 31; refine (r_tick HS.out 3 rfl HY.out HK.out n Hr.out Htl.out).mono ?_; rintro e w3 ⟨A2, cp2, y1, rfl, hy1, hs⟩; have HY1 := Lib.hid hy1; replace HS := Lib.hid hs; clear hs hy1)
    | (go_at_call 13; refine (c_sameG HS.out 1 0 rfl rfl HTL.out).mono ?_; rintro e w4 ⟨rfl, hs⟩; replace HS := Lib.hid hs; clear hs))
  go_ret
  exact HEnd.out _ _ _ HY1.out HC.out.1 HC.out.2.1 HC.out.2.2 (HS.out.sub ((List.sublist_cons_self _ _).trans ((List.sublist_cons_self _ _).trans (List.sublist_cons_self _ _))))
set_option maxHeartbeats 8000000 in
set_option maxRecDepth 100000 in
theorem one_all (h : St w0 w (obC p b c :: obRc y :: Γ)) (g : Nat) (hg : Γ[g]? = some obG) (hy : y.Is q c) (hk : OkC c) (hab : AllB c) (hh : c.hrd < 4000000000000000000) (t E A : Int) (d : Ad) (hd : BOk d) (f m l n : Int) :
    Calls Tryd.prog 12 #[.pointer (some ⟨p, 0, none⟩), .pointer (some ⟨q, 0, none⟩), .agg (o8V ⟨5, t, E, A, d, f, m, l, n⟩)] w (OneP w0 Γ p b q c) := by
  have HS := Lib.hid (h.boxF (o8V ⟨5, t, E, A, d, f, m, l, n⟩) 34)
  have HY := Lib.hid hy
  have HK := Lib.hid hk
  have HAB := Lib.hid hab
  have HH := Lib.hid (show True → c.hrd < 4000000000000000000 from fun _ => hh)
  have HG : Hid (∀ x z u : Ob, (x :: z :: u :: Γ)[g + 3]? = some obG) := Lib.hid fun x z u => by rw [List.getElem?_cons_succ, List.getElem?_cons_succ, List.getElem?_cons_succ]; exact hg
  have HD := Lib.hid hd
  have b0 : (w.alloc (.cells (o8V ⟨5, t, E, A, d, f, m, l, n⟩) 34)).cell? ⟨w.heap.size, 0, none⟩ = some (.int .i64 5) := HS.out.cellB 0 rfl 0 rfl
  have b21 := HS.out.cellB 0 rfl 21 (o8_tail _ 0)
  have b22 := HS.out.cellB 0 rfl 22 (o8_tail _ 1)
  have b23 := HS.out.cellB 0 rfl 23 (o8_tail _ 2)
  have b24 := HS.out.cellB 0 rfl 24 (o8_tail _ 3)
  have HEnd : Hid (∀ (c' : Ca) (y' : RcSt) (w' : World), y'.Is q c' → OkC c' → AllB c' → c'.hrd ≤ c.hrd + 1 → St w0 w' (obC p b c' :: obRc y' :: Γ) → OneP w0 Γ p b q c (.returned (.bool true)) w') := Lib.hid fun c' y' w' h1 h2 h3 h4 h5 => ⟨c', y', rfl, h1, h2, h3, h4, h5⟩
  obtain ⟨tl, htl⟩ : ∃ tl, ordS (c.M.map (·.1)) = tl := ⟨_, rfl⟩
  have Htl := Lib.hid htl
  have HTL : Hid (tl.length ≤ 1000) := Lib.hid (by rw [← htl]; exact allS_len hk)
  clear htl
  clear h hg hy hk hab hh hd
  go_enter Tryd.func12, Tryd.ntmps12
  go_wp2_with (first
    | (go_at_call 14; refine (c_allG HS.out 1 rfl HK.out HAB.out Htl.out).mono ?_; rintro e w2 ⟨A1, cp1, rfl, hs⟩; replace HS := Lib.hid hs; clear hs)
    | (go_at_call 15; refine (r_all HS.out 3 rfl HY.out HK.out Htl.out).mono ?_; rintro e w3 ⟨A2, cp2, rfl, hs⟩; replace HS := Lib.hid hs; clear hs)
    | (go_at_call 13; refine (c_sameG HS.out 1 0 rfl rfl HTL.out).mono ?_; rintro e w4 ⟨rfl, hs⟩; replace HS := Lib.hid hs; clear hs))
  go_ret
  exact HEnd.out _ _ _ HY.out HK.out HAB.out (by omega) (HS.out.sub ((List.sublist_cons_self _ _).trans ((List.sublist_cons_self _ _).trans (List.sublist_cons_self _ _))))
set_option maxHeartbeats 8000000 in
set_option maxRecDepth 100000 in
theorem one_none (h : St w0 w (obC p b c :: obRc y :: Γ)) (g : Nat) (hg : Γ[g]? = some obG) (hy : y.Is q c) (hk : OkC c) (hab : AllB c) (hh : c.hrd < 4000000000000000000) (k : Int) (h2 : k ≠ 2) (h3 : k ≠ 3) (h4 : k ≠ 4) (h5 : k ≠ 5) (t E A : Int) (d : Ad) (hd : BOk d) (f m l n : Int) :
    Calls Tryd.prog 12 #[.pointer (some ⟨p, 0, none⟩), .pointer (some ⟨q, 0, none⟩), .agg (o8V ⟨k, t, E, A, d, f, m, l, n⟩)] w (OneP w0 Γ p b q c) := by
  have HS := Lib.hid (h.boxF (o8V ⟨k, t, E, A, d, f, m, l, n⟩) 34)
  have HY := Lib.hid hy
  have HK := Lib.hid hk
  have HAB := Lib.hid hab
  have HH := Lib.hid (show True → c.hrd < 4000000000000000000 from fun _ => hh)
  have HG : Hid (∀ x z u : Ob, (x :: z :: u :: Γ)[g + 3]? = some obG) := Lib.hid fun x z u => by rw [List.getElem?_cons_succ, List.getElem?_cons_succ, List.getElem?_cons_succ]; exact hg
  have HD := Lib.hid hd
  have b0 : (w.alloc (.cells (o8V ⟨k, t, E, A, d, f, m, l, n⟩) 34)).cell? ⟨w.heap.size, 0, none⟩ = some (.int .i64 k) := HS.out.cellB 0 rfl 0 rfl
  have b21 := HS.out.cellB 0 rfl 21 (o8_tail _ 0)
  have b22 := HS.out.cellB 0 rfl 22 (o8_tail _ 1)
  have b23 := HS.out.cellB 0 rfl 23 (o8_tail _ 2)
  have b24 := HS.out.cellB 0 rfl 24 (o8_tail _ 3)
  have HEnd : Hid (∀ (c' : Ca) (y' : RcSt) (w' : World), y'.Is q c' → OkC c' → AllB c' → c'.hrd ≤ c.hrd + 1 → St w0 w' (obC p b c' :: obRc y' :: Γ) → OneP w0 Γ p b q c (.returned (.bool true)) w') := Lib.hid fun c' y' w' h1 h2 h3 h4 h5 => ⟨c', y', rfl, h1, h2, h3, h4, h5⟩
  have k2 : (k == 2) = false := by simpa using h2
  have k3 : (k == 3) = false := by simpa using h3
  have k4 : (k == 4) = false := by simpa using h4
  have k5 : (k == 5) = false := by simpa using h5
  clear h2 h3 h4 h5
  clear h hg hy hk hab hh hd
  go_enter Tryd.func12, Tryd.ntmps12
  go_wp2_with (first
    | fail)
  go_ret
  exact HEnd.out _ _ _ HY.out HK.out HAB.out (by omega) (HS.out.sub (List.sublist_cons_self _ _))
theorem one_any (h : St w0 w (obC p b c :: obRc y :: Γ)) (g : Nat) (hg : Γ[g]? = some obG) (hy : y.Is q c) (hk : OkC c) (hab : AllB c) (hh : c.hrd < 4000000000000000000) (o : Op8) (hd : BOk o.d) :
    Calls Tryd.prog 12 #[.pointer (some ⟨p, 0, none⟩), .pointer (some ⟨q, 0, none⟩), .agg (o8V o)] w (OneP w0 Γ p b q c) := by
  obtain ⟨k, t, E, A, d, f, m, l, n⟩ := o
  by_cases h2 : k = 2
  · subst h2; exact one_get h g hg hy hk hab hh t E A d hd f m l n
  by_cases h3 : k = 3
  · subst h3; exact one_hear h g hg hy hk hab hh t E A d hd f m l n
  by_cases h4 : k = 4
  · subst h4; exact one_tick h g hg hy hk hab hh t E A d hd f m l n
  by_cases h5 : k = 5
  · subst h5; exact one_all h g hg hy hk hab hh t E A d hd f m l n
  exact one_none h g hg hy hk hab hh k h2 h3 h4 h5 t E A d hd f m l n
end
end Go.Proofs.YtdinkhhaomblcaaDoor.SL
