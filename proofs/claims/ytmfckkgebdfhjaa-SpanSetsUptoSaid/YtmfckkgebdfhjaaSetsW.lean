/- The walk of the statement SpanSets: whatever the list (of at most 4000000 spans), the span and the number: true, and all memory stays as it was. No further condition. -/
import Derived.Test.YtmfckkgebdfhjaaQV2
import Derived.Lib.Hide
import Derived.Handy
import Derived.Shelf.Abstract
import Derived.Deep.RegionHeld3
namespace Go.Proofs.Ytmfckkgebdfhjaa.Q
open Go.RowKit Go.Proofs.YtmfckkgebdfhjaaW.PrintWords Go.Proofs.YtmfckkgebdfhjaaW.PrintLast Go.Proofs.YtmfckkgebdfhjaaW.PrintMore
theorem Rd.C {w : World} {A : Option Addr} {n c : Nat} {l : List Sp} (h : Rd w (.slice A n c) l) : Kd.C k24 w A l.length l := by
  obtain ⟨_, A', c', he, _, hC⟩ := h
  injection he with h1 h2 h3
  subst h1
  exact hC
theorem St.begin {w : World} {a b : Int} {v : Value} {l : List Sp} (h : Rd w v l) : St w w.heap.size a b (w.alloc (.cells #[.int .i64 a, .int .i64 b] 24)) [(v, l)] := by
  have hb := Below.alloc (Below.refl w.heap.size w) (Nat.le_refl _) (.cells #[.int .i64 a, .int .i64 b] 24)
  exact ⟨hb, by simp, by simp, by simp, h.below hb, trivial⟩
section
variable {w0 : World} {bx : Nat} {a b : Int} {w : World} {L : List (Value × List Sp)} {v u : Value} {l m : List Sp} {x : Int}
theorem c_normx (hS : St w0 bx a b w L) (hm : (v, l) ∈ L) (hn : normS l = (m, x)) :
    Calls Try.prog 9 #[v] w fun e w' => ∃ v' : Value, e = .returned (.tuple #[v', .int .i64 x]) ∧ St w0 bx a b w' ((v', m) :: L) := by
  have h := c_norm hS hm; rw [hn] at h; exact h
theorem c_addx (hS : St w0 bx a b w L) (hm : (v, l) ∈ L) (hn : addA l ⟨a, b⟩ = (m, x)) :
    Calls Try.prog 17 #[v, .agg #[.int .i64 a, .int .i64 b]] w fun e w' => ∃ v' : Value, e = .returned (.tuple #[v', .int .i64 x]) ∧ St w0 bx a b w' ((v', m) :: L) := by
  have h := c_add hS hm; rw [hn] at h; exact h
theorem c_cutz (hS : St w0 bx a b w L) (hm : (v, l) ∈ L) (p q : Int) (hn : cutA l ⟨p, q⟩ = (m, x)) :
    Calls Try.prog 19 #[v, .agg #[.int .i64 p, .int .i64 q]] w fun e w' => ∃ v' : Value, e = .returned (.tuple #[v', .int .i64 x]) ∧ St w0 bx a b w' ((v', m) :: L) := by
  have h := c_cutx hS hm p q; rw [hn] at h; exact h
theorem c_spansx (hS : St w0 bx a b w L) (hm : (v, l) ∈ L) (t : Bool) (hn : l.all goodB = t) : Calls Try.prog 27 #[v] w fun e w' => e = .returned (.bool t) ∧ St w0 bx a b w' L := by
  have h := c_spans hS hm; rw [hn] at h; exact h
theorem c_risingx (hS : St w0 bx a b w L) (hm : (v, l) ∈ L) (hn : rightB l = true) : Calls Try.prog 28 #[v] w fun e w' => e = .returned (.bool true) ∧ St w0 bx a b w' L := by
  have h := c_rising hS hm; rw [hn] at h; exact h
theorem c_hasx (hS : St w0 bx a b w L) (hm : (v, l) ∈ L) (t : Bool) (hn : hasA l ⟨a, b⟩ = t) : Calls Try.prog 23 #[v, .agg #[.int .i64 a, .int .i64 b]] w fun e w' => e = .returned (.bool t) ∧ St w0 bx a b w' L := by
  have h := c_has hS hm; rw [hn] at h; exact h
theorem c_meetsx (hS : St w0 bx a b w L) (hm : (v, l) ∈ L) (t : Bool) (hn : meetsA l ⟨a, b⟩ = t) : Calls Try.prog 25 #[v, .agg #[.int .i64 a, .int .i64 b]] w fun e w' => e = .returned (.bool t) ∧ St w0 bx a b w' L := by
  have h := c_meets hS hm; rw [hn] at h; exact h
theorem c_sizex (hS : St w0 bx a b w L) (hm : (v, l) ∈ L) (z : Int) (hn : sizeA l = z) : Calls Try.prog 15 #[v] w fun e w' => e = .returned (.int .i64 z) ∧ St w0 bx a b w' L := by
  have h := c_size hS hm; rw [hn] at h; exact h
theorem c_samex (hS : St w0 bx a b w L) (hm : (v, l) ∈ L) (hn : (u, m) ∈ L) (t : Bool) (ht : decide (l = m) = t) : Calls Try.prog 12 #[v, u] w fun e w' => e = .returned (.bool t) ∧ St w0 bx a b w' L := by
  have h := c_sameb hS hm hn; rw [ht] at h; exact h
theorem c_inx (hS : St w0 bx a b w L) (hm : (v, l) ∈ L) (n : Int) (t : Bool) (ht : inB l n = t) : Calls Try.prog 30 #[v, .int .i64 n] w fun e w' => e = .returned (.bool t) ∧ St w0 bx a b w' L ∧ Below w.heap.size w w' := by
  have h := c_in hS hm n; rw [ht] at h; exact h
end
set_option maxHeartbeats 4000000 in
set_option maxRecDepth 100000 in
theorem sets_bad (A : Option Addr) (c : Nat) (l : List Sp) (a b en : Int) (w : World) (hr : Kd.C k24 w A l.length l) (hc : l.length ≤ c) (hl : l.length ≤ 4000000) (hg : l.all goodB = false) :
    Calls Try.prog 4 #[.slice A l.length c, .agg #[.int .i64 a, .int .i64 b], .int .i64 en] w fun e w' => e = .returned (.bool true) ∧ Below w.heap.size w w' := by
  have hu24 := Try.underlying24
  have H0 := Lib.hid (show Rd w (.slice A l.length c) l from ⟨hl, A, c, rfl, hc, hr⟩)
  clear hr hc hl
  generalize hv : Value.slice A l.length c = v0 at H0 ⊢
  clear hv
  have HN := Lib.hid (show normS l = ([], 1) by unfold normS; rw [hg]; rfl)
  have HG := Lib.hid hg
  clear hg
  go_enter Try.func4, Try.ntmps4
  go_wp2_with fail
  refine (mosaiclaw09_alive.calls 400000000 true _ (alive_eval _ (by omega))).mono ?_
  rintro e w1 ⟨rfl, hb⟩
  have HS := Lib.hid ((St.begin H0.out).below hb)
  clear hb H0
  go_wp2_with fail
  refine (c_own (l := l) HS.out ?m).mono ?_
  case m => repeat (first | with_reducible exact List.mem_cons_self | with_reducible apply List.mem_cons_of_mem)
  rintro e w2 ⟨v2, rfl, hs⟩
  have HS := Lib.hid hs
  clear hs
  go_wp2_with fail
  refine (c_normx (l := l) HS.out ?m HN.out).mono ?_
  case m => repeat (first | with_reducible exact List.mem_cons_self | with_reducible apply List.mem_cons_of_mem)
  rintro e w3 ⟨v3, rfl, hs⟩
  have HS := Lib.hid hs
  clear hs
  obtain ⟨_, Am, cAm, rfl, _, _⟩ := HS.out.lv.get (v := v3) (l := []) (by repeat (first | with_reducible exact List.mem_cons_self | with_reducible apply List.mem_cons_of_mem))
  go_wp2_with fail
  refine (c_spansx (l := l) HS.out ?m false HG.out).mono ?_
  case m => repeat (first | with_reducible exact List.mem_cons_self | with_reducible apply List.mem_cons_of_mem)
  rintro e w4 ⟨rfl, hs⟩
  have HS := Lib.hid hs
  clear hs
  go_wp2
  go_ret
  exact ⟨by simp, HS.out.bl⟩
set_option maxHeartbeats 4000000 in
set_option maxRecDepth 100000 in
theorem sets_ill (A : Option Addr) (c : Nat) (l : List Sp) (a b en : Int) (w : World) (hr : Kd.C k24 w A l.length l) (hc : l.length ≤ c) (hl : l.length ≤ 4000000) (hg : l.all goodB = true) (hs : goodB ⟨a, b⟩ = false) :
    Calls Try.prog 4 #[.slice A l.length c, .agg #[.int .i64 a, .int .i64 b], .int .i64 en] w fun e w' => e = .returned (.bool true) ∧ Below w.heap.size w w' := by
  have hu24 := Try.underlying24
  have H0 := Lib.hid (show Rd w (.slice A l.length c) l from ⟨hl, A, c, rfl, hc, hr⟩)
  clear hr hc hl
  generalize hv : Value.slice A l.length c = v0 at H0 ⊢
  clear hv
  have HG := Lib.hid hg
  have HB := Lib.hid hs
  obtain ⟨m, HM⟩ : ∃ m, Hid (normS l = (m, 0) ∧ rightB m = true ∧ ∀ n, inS m n ↔ inS l n) := ⟨joinS l, Lib.hid ⟨by unfold normS; rw [hg]; rfl, (joinS_right l (List.all_eq_true.1 hg)).1, (joinS_right l (List.all_eq_true.1 hg)).2⟩⟩
  clear hg hs
  have HA := Lib.hid (show addA m ⟨a, b⟩ = ([], 1) by unfold addA; rw [HB.out, Bool.and_false]; rfl)
  have HC := Lib.hid (show cutA m ⟨a, b⟩ = ([], 1) by unfold cutA; rw [HB.out, Bool.and_false]; rfl)
  have HH := Lib.hid (show hasA m ⟨a, b⟩ = false by unfold hasA; rw [HB.out, Bool.and_false]; rfl)
  have HE := Lib.hid (show meetsA m ⟨a, b⟩ = false by unfold meetsA; rw [HB.out, Bool.and_false]; rfl)
  have HO := Lib.hid (show ([⟨a, b⟩] : List Sp).all goodB = false by simp [HB.out])
  go_enter Try.func4, Try.ntmps4
  go_wp2_with fail
  refine (mosaiclaw09_alive.calls 400000000 true _ (alive_eval _ (by omega))).mono ?_
  rintro e w1 ⟨rfl, hb⟩
  have HS := Lib.hid ((St.begin H0.out).below hb)
  clear hb H0
  go_wp2_with fail
  refine (c_own (l := l) HS.out ?m).mono ?_
  case m => repeat (first | with_reducible exact List.mem_cons_self | with_reducible apply List.mem_cons_of_mem)
  rintro e w5 ⟨v5, rfl, hs⟩
  have HS := Lib.hid hs
  clear hs
  go_wp2_with fail
  refine (c_normx (l := l) HS.out ?m HM.out.1).mono ?_
  case m => repeat (first | with_reducible exact List.mem_cons_self | with_reducible apply List.mem_cons_of_mem)
  rintro e w6 ⟨v6, rfl, hs⟩
  have HS := Lib.hid hs
  clear hs
  go_wp2_with fail
  refine (c_risingx (l := m) HS.out ?m HM.out.2.1).mono ?_
  case m => repeat (first | with_reducible exact List.mem_cons_self | with_reducible apply List.mem_cons_of_mem)
  rintro e w7 ⟨rfl, hs⟩
  have HS := Lib.hid hs
  clear hs
  go_wp2_with fail
  refine (c_spansx (l := l) HS.out ?m true HG.out).mono ?_
  case m => repeat (first | with_reducible exact List.mem_cons_self | with_reducible apply List.mem_cons_of_mem)
  rintro e w8 ⟨rfl, hs⟩
  have HS := Lib.hid hs
  clear hs
  go_wp2
  go_region_held3 (fun w' => w'.cell? ⟨w.heap.size, 0, none⟩ = some (.int .i64 a) ∧ w'.cell? ⟨w.heap.size, 1, none⟩ = some (.int .i64 b)) (first | exact ⟨HS.out.c0, HS.out.c1⟩ | exact ⟨HS.out.drew.c0, HS.out.drew.c1⟩)
    (first | (go_at_call 10; refine (c_own (l := m) HS.out ?m).mono ?_; (case m => repeat (first | with_reducible exact List.mem_cons_self | with_reducible apply List.mem_cons_of_mem)); rintro e w' ⟨v', rfl, hs⟩; have HS := Lib.hid hs; clear hs) | (go_at_call 10; refine (c_own (l := m) HS.out.drew ?m).mono ?_; (case m => repeat (first | with_reducible exact List.mem_cons_self | with_reducible apply List.mem_cons_of_mem)); rintro e w' ⟨v', rfl, hs⟩; have HS := Lib.hid hs; clear hs) | (go_at_call 17; refine (c_addx (l := m) HS.out ?m HA.out).mono ?_; (case m => repeat (first | with_reducible exact List.mem_cons_self | with_reducible apply List.mem_cons_of_mem)); rintro e w' ⟨va, rfl, hs⟩; have HS := Lib.hid hs; clear hs) | (go_at_call 17; refine (c_addx (l := m) HS.out.drew ?m HA.out).mono ?_; (case m => repeat (first | with_reducible exact List.mem_cons_self | with_reducible apply List.mem_cons_of_mem)); rintro e w' ⟨va, rfl, hs⟩; have HS := Lib.hid hs; clear hs))
  go_wp2
  go_region_held3 (fun w' => w'.cell? ⟨w.heap.size, 0, none⟩ = some (.int .i64 a) ∧ w'.cell? ⟨w.heap.size, 1, none⟩ = some (.int .i64 b)) (first | exact ⟨HS.out.c0, HS.out.c1⟩ | exact ⟨HS.out.drew.c0, HS.out.drew.c1⟩)
    (first | (go_at_call 10; refine (c_own (l := m) HS.out ?m).mono ?_; (case m => repeat (first | with_reducible exact List.mem_cons_self | with_reducible apply List.mem_cons_of_mem)); rintro e w' ⟨v', rfl, hs⟩; have HS := Lib.hid hs; clear hs) | (go_at_call 10; refine (c_own (l := m) HS.out.drew ?m).mono ?_; (case m => repeat (first | with_reducible exact List.mem_cons_self | with_reducible apply List.mem_cons_of_mem)); rintro e w' ⟨v', rfl, hs⟩; have HS := Lib.hid hs; clear hs) | (go_at_call 19; refine (c_cutz (l := m) HS.out ?m a b HC.out).mono ?_; (case m => repeat (first | with_reducible exact List.mem_cons_self | with_reducible apply List.mem_cons_of_mem)); rintro e w' ⟨vc, rfl, hs⟩; have HS := Lib.hid hs; clear hs) | (go_at_call 19; refine (c_cutz (l := m) HS.out.drew ?m a b HC.out).mono ?_; (case m => repeat (first | with_reducible exact List.mem_cons_self | with_reducible apply List.mem_cons_of_mem)); rintro e w' ⟨vc, rfl, hs⟩; have HS := Lib.hid hs; clear hs))
  have h0 := HS.out.c0
  have h1 := HS.out.c1
  go_wp2_with fail
  clear h0 h1
  refine (c_spansx (l := [⟨a, b⟩]) HS.out.one ?m false HO.out).mono ?_
  case m => repeat (first | with_reducible exact List.mem_cons_self | with_reducible apply List.mem_cons_of_mem)
  rintro e w20 ⟨rfl, hs⟩
  have HS := Lib.hid hs
  clear hs
  obtain ⟨_, Aa, cAa, rfl, _, _⟩ := HS.out.lv.get (v := va) (l := []) (by repeat (first | with_reducible exact List.mem_cons_self | with_reducible apply List.mem_cons_of_mem))
  obtain ⟨_, Ac, cAc, rfl, _, _⟩ := HS.out.lv.get (v := vc) (l := []) (by repeat (first | with_reducible exact List.mem_cons_self | with_reducible apply List.mem_cons_of_mem))
  have h0 := HS.out.c0
  have h1 := HS.out.c1
  go_wp2_with fail
  refine (c_hasx (l := m) HS.out ?m false HH.out).mono ?_
  case m => repeat (first | with_reducible exact List.mem_cons_self | with_reducible apply List.mem_cons_of_mem)
  rintro e w9 ⟨rfl, hs⟩
  have HS := Lib.hid hs
  clear hs
  clear h0 h1
  have h0 := HS.out.c0
  have h1 := HS.out.c1
  go_wp2_with fail
  refine (c_meetsx (l := m) HS.out ?m false HE.out).mono ?_
  case m => repeat (first | with_reducible exact List.mem_cons_self | with_reducible apply List.mem_cons_of_mem)
  rintro e w10 ⟨rfl, hs⟩
  have HS := Lib.hid hs
  clear hs
  go_wp2
  go_ret
  exact ⟨by simp, HS.out.bl⟩
set_option maxHeartbeats 4000000 in
set_option maxRecDepth 100000 in
theorem sets_good (A : Option Addr) (c : Nat) (l : List Sp) (a b en : Int) (w : World) (hr : Kd.C k24 w A l.length l) (hc : l.length ≤ c) (hl : l.length ≤ 4000000) (hg : l.all goodB = true) (hs : goodB ⟨a, b⟩ = true) :
    Calls Try.prog 4 #[.slice A l.length c, .agg #[.int .i64 a, .int .i64 b], .int .i64 en] w fun e w' => e = .returned (.bool true) ∧ Below w.heap.size w w' := by
  have hu24 := Try.underlying24
  have H0 := Lib.hid (show Rd w (.slice A l.length c) l from ⟨hl, A, c, rfl, hc, hr⟩)
  clear hr hc hl
  generalize hv : Value.slice A l.length c = v0 at H0 ⊢
  clear hv
  have HG := Lib.hid hg
  have HB := Lib.hid hs
  obtain ⟨m, HM⟩ : ∃ m, Hid (normS l = (m, 0) ∧ rightB m = true ∧ ∀ n, inS m n ↔ inS l n) := ⟨joinS l, Lib.hid ⟨by unfold normS; rw [hg]; rfl, (joinS_right l (List.all_eq_true.1 hg)).1, (joinS_right l (List.all_eq_true.1 hg)).2⟩⟩
  clear hg hs
  have HK := Lib.hid (show SetsOk l m ⟨a, b⟩ from ⟨HM.out.2.1, HM.out.2.2, HB.out⟩)
  obtain ⟨ad, hA⟩ : ∃ ad, ad = joinS (m ++ [⟨a, b⟩]) := ⟨_, rfl⟩
  obtain ⟨cu, hC⟩ : ∃ cu, cu = cutS m ⟨a, b⟩ := ⟨_, rfl⟩
  have HA := Lib.hid (show addA m ⟨a, b⟩ = (ad, 0) by unfold addA; rw [HM.out.2.1, HB.out, hA]; rfl)
  have HC := Lib.hid (show cutA m ⟨a, b⟩ = (cu, 0) by unfold cutA; rw [HM.out.2.1, HB.out, hC]; rfl)
  have HO := Lib.hid (show ([⟨a, b⟩] : List Sp).all goodB = true by simp [HB.out])
  have HRA := Lib.hid (show rightB ad = true by rw [hA]; exact HK.out.add.1)
  have HRC := Lib.hid (show rightB cu = true by rw [hC]; exact HK.out.cut.1)
  have HIA := Lib.hid (show ∀ n, inB ad n = (inB l n || inB [⟨a, b⟩] n) by rw [hA]; exact HK.out.in_add)
  have HIC := Lib.hid (show ∀ n, inB cu n = (inB l n && !inB [⟨a, b⟩] n) by rw [hC]; exact HK.out.in_cut)
  have HE1 := Lib.hid (show meetsA m ⟨a, b⟩ = !decide (cu = m) by rw [hC]; exact HK.out.meets)
  have HE2 := Lib.hid (show sizeA ad = sizeA m + sizeA (leftS ⟨a, b⟩ m) by unfold sizeA; rw [if_pos HRA.out, if_pos HM.out.2.1, if_pos HK.out.left.1, hA]; exact HK.out.sizes)
  clear hA hC
  go_enter Try.func4, Try.ntmps4
  go_wp2_with fail
  refine (mosaiclaw09_alive.calls 400000000 true _ (alive_eval _ (by omega))).mono ?_
  rintro e w1 ⟨rfl, hb⟩
  have HS := Lib.hid ((St.begin H0.out).below hb)
  clear hb H0
  go_wp2_with fail
  refine (c_own (l := l) HS.out ?m).mono ?_
  case m => repeat (first | with_reducible exact List.mem_cons_self | with_reducible apply List.mem_cons_of_mem)
  rintro e w11 ⟨v11, rfl, hs⟩
  have HS := Lib.hid hs
  clear hs
  go_wp2_with fail
  refine (c_normx (l := l) HS.out ?m HM.out.1).mono ?_
  case m => repeat (first | with_reducible exact List.mem_cons_self | with_reducible apply List.mem_cons_of_mem)
  rintro e w12 ⟨v12, rfl, hs⟩
  have HS := Lib.hid hs
  clear hs
  go_wp2_with fail
  refine (c_risingx (l := m) HS.out ?m HM.out.2.1).mono ?_
  case m => repeat (first | with_reducible exact List.mem_cons_self | with_reducible apply List.mem_cons_of_mem)
  rintro e w13 ⟨rfl, hs⟩
  have HS := Lib.hid hs
  clear hs
  go_wp2_with fail
  refine (c_spansx (l := l) HS.out ?m true HG.out).mono ?_
  case m => repeat (first | with_reducible exact List.mem_cons_self | with_reducible apply List.mem_cons_of_mem)
  rintro e w14 ⟨rfl, hs⟩
  have HS := Lib.hid hs
  clear hs
  go_wp2
  go_region_held3 (fun w' => w'.cell? ⟨w.heap.size, 0, none⟩ = some (.int .i64 a) ∧ w'.cell? ⟨w.heap.size, 1, none⟩ = some (.int .i64 b)) (first | exact ⟨HS.out.c0, HS.out.c1⟩ | exact ⟨HS.out.drew.c0, HS.out.drew.c1⟩)
    (first | (go_at_call 10; refine (c_own (l := m) HS.out ?m).mono ?_; (case m => repeat (first | with_reducible exact List.mem_cons_self | with_reducible apply List.mem_cons_of_mem)); rintro e w' ⟨v', rfl, hs⟩; have HS := Lib.hid hs; clear hs) | (go_at_call 10; refine (c_own (l := m) HS.out.drew ?m).mono ?_; (case m => repeat (first | with_reducible exact List.mem_cons_self | with_reducible apply List.mem_cons_of_mem)); rintro e w' ⟨v', rfl, hs⟩; have HS := Lib.hid hs; clear hs) | (go_at_call 17; refine (c_addx (l := m) HS.out ?m HA.out).mono ?_; (case m => repeat (first | with_reducible exact List.mem_cons_self | with_reducible apply List.mem_cons_of_mem)); rintro e w' ⟨va, rfl, hs⟩; have HS := Lib.hid hs; clear hs) | (go_at_call 17; refine (c_addx (l := m) HS.out.drew ?m HA.out).mono ?_; (case m => repeat (first | with_reducible exact List.mem_cons_self | with_reducible apply List.mem_cons_of_mem)); rintro e w' ⟨va, rfl, hs⟩; have HS := Lib.hid hs; clear hs))
  go_wp2
  go_region_held3 (fun w' => w'.cell? ⟨w.heap.size, 0, none⟩ = some (.int .i64 a) ∧ w'.cell? ⟨w.heap.size, 1, none⟩ = some (.int .i64 b)) (first | exact ⟨HS.out.c0, HS.out.c1⟩ | exact ⟨HS.out.drew.c0, HS.out.drew.c1⟩)
    (first | (go_at_call 10; refine (c_own (l := m) HS.out ?m).mono ?_; (case m => repeat (first | with_reducible exact List.mem_cons_self | with_reducible apply List.mem_cons_of_mem)); rintro e w' ⟨v', rfl, hs⟩; have HS := Lib.hid hs; clear hs) | (go_at_call 10; refine (c_own (l := m) HS.out.drew ?m).mono ?_; (case m => repeat (first | with_reducible exact List.mem_cons_self | with_reducible apply List.mem_cons_of_mem)); rintro e w' ⟨v', rfl, hs⟩; have HS := Lib.hid hs; clear hs) | (go_at_call 19; refine (c_cutz (l := m) HS.out ?m a b HC.out).mono ?_; (case m => repeat (first | with_reducible exact List.mem_cons_self | with_reducible apply List.mem_cons_of_mem)); rintro e w' ⟨vc, rfl, hs⟩; have HS := Lib.hid hs; clear hs) | (go_at_call 19; refine (c_cutz (l := m) HS.out.drew ?m a b HC.out).mono ?_; (case m => repeat (first | with_reducible exact List.mem_cons_self | with_reducible apply List.mem_cons_of_mem)); rintro e w' ⟨vc, rfl, hs⟩; have HS := Lib.hid hs; clear hs))
  have h0 := HS.out.c0
  have h1 := HS.out.c1
  go_wp2_with fail
  clear h0 h1
  refine (c_spansx (l := [⟨a, b⟩]) HS.out.one ?m true HO.out).mono ?_
  case m => repeat (first | with_reducible exact List.mem_cons_self | with_reducible apply List.mem_cons_of_mem)
  rintro e w30 ⟨rfl, hs⟩
  have HS := Lib.hid hs
  clear hs
  go_wp2_with fail
  refine (c_risingx (l := ad) HS.out ?m HRA.out).mono ?_
  case m => repeat (first | with_reducible exact List.mem_cons_self | with_reducible apply List.mem_cons_of_mem)
  rintro e w15 ⟨rfl, hs⟩
  have HS := Lib.hid hs
  clear hs
  go_wp2_with fail
  refine (c_risingx (l := cu) HS.out ?m HRC.out).mono ?_
  case m => repeat (first | with_reducible exact List.mem_cons_self | with_reducible apply List.mem_cons_of_mem)
  rintro e w16 ⟨rfl, hs⟩
  have HS := Lib.hid hs
  clear hs
  have h0 := HS.out.c0
  have h1 := HS.out.c1
  go_wp2_with fail
  refine (c_near (l := l) HS.out ?m en).mono ?_
  case m => repeat (first | with_reducible exact List.mem_cons_self | with_reducible apply List.mem_cons_of_mem)
  rintro e w31 ⟨Az, cz, Z, rfl, hZ, hz, hs⟩
  have HZ := Lib.hid hz
  have HL := Lib.hid hZ
  have HS := Lib.hid hs
  clear hz hZ hs h0 h1
  have h0 := HS.out.c0
  have h1 := HS.out.c1
  obtain ⟨_, Am, cAm, rfl, _, _⟩ := HS.out.lv.get (v := v12) (l := m) (by repeat (first | with_reducible exact List.mem_cons_self | with_reducible apply List.mem_cons_of_mem))
  go_wp2
  have HS1 := Lib.hid HS.out.one
  have HZ1 := Lib.hid (Kd.C_below HZ.out (Below.alloc (Below.refl _ _) (Nat.le_refl _) (.cells #[.int .i64 a, .int .i64 b] 24)))
  clear HS HZ h0 h1
  generalize w31.alloc (.cells #[.int .i64 a, .int .i64 b] 24) = w32 at HS1 HZ1 ⊢
  generalize Value.slice (some ⟨w31.heap.size, 0, none⟩) 1 1 = vo at HS1 ⊢
  have HS2 := Lib.hid (show St w w.heap.size a b w32 [(v0, l), ((Value.slice Am m.length cAm), m), (va, ad), (vc, cu), (vo, [⟨a, b⟩])] from ⟨HS1.out.bl, HS1.out.lt, HS1.out.c0, HS1.out.c1, HS1.out.lv.get (by repeat (first | with_reducible exact List.mem_cons_self | with_reducible apply List.mem_cons_of_mem)), HS1.out.lv.get (by repeat (first | with_reducible exact List.mem_cons_self | with_reducible apply List.mem_cons_of_mem)), HS1.out.lv.get (by repeat (first | with_reducible exact List.mem_cons_self | with_reducible apply List.mem_cons_of_mem)), HS1.out.lv.get (by repeat (first | with_reducible exact List.mem_cons_self | with_reducible apply List.mem_cons_of_mem)), HS1.out.lv.get (by repeat (first | with_reducible exact List.mem_cons_self | with_reducible apply List.mem_cons_of_mem)), trivial⟩)
  clear HS1
  go_loopw [16] (fun t wr => ∃ i : Nat, i ≤ Z.length ∧ t = .int .i64 i ∧ Hid (St w w.heap.size a b wr [(v0, l), ((Value.slice Am m.length cAm), m), (va, ad), (vc, cu), (vo, [⟨a, b⟩])]) ∧ Hid (Kd.C (Kd.int .i64) wr Az Z.length Z)) (fun t _ => (Z.length - intOf t).toNat)
  case atStart => exact ⟨0, Nat.zero_le _, rfl, HS2, HZ1⟩
  case round =>
    clear HS2 HZ1
    obtain ⟨i, hi, rfl, HS, HZ⟩ := hrel
    by_cases hlt : i < Z.length
    · have hltz : (i : Int) < (Z.length : Int) := by omega
      obtain ⟨az, hAz, hcell⟩ := Kd.at_int HZ.out (i : Int) (by omega) hltz
      rw [Int.toNat_natCast] at hcell
      subst hAz
      generalize rd Z (i : Int) = kk at hcell
      obtain ⟨wa, hwa⟩ : ∃ x, inB l kk = x := ⟨_, rfl⟩
      obtain ⟨it, hit⟩ : ∃ x, inB [⟨a, b⟩] kk = x := ⟨_, rfl⟩
      have F1 := Lib.hid hwa
      have F2 := Lib.hid hit
      have F3 := Lib.hid ((HK.out.in_norm kk).trans hwa)
      have F4 := Lib.hid (show inB ad kk = (wa || it) by rw [HIA.out, hwa, hit])
      have F5 := Lib.hid (show inB cu kk = (wa && !it) by rw [HIC.out, hwa, hit])
      clear hwa hit
      have hni : (it != it) = false := by simp
      have hnj : ((!it) != (!it)) = false := by simp
      have hZL := HL.out
      cases wa
      all_goals
        simp only [Bool.false_or, Bool.true_or, Bool.false_and, Bool.true_and] at F4 F5
        go_wp2_with fail
        refine (c_inx (l := l) HS.out ?m kk _ F1.out).mono ?_
        case m => repeat (first | with_reducible exact List.mem_cons_self | with_reducible apply List.mem_cons_of_mem)
        rintro e w17 ⟨rfl, hs, hb⟩
        have HS := Lib.hid hs
        have HZ := Lib.hid (Kd.C_below HZ.out hb)
        clear hs hb hcell
        go_wp2_with fail
        refine (c_inx (l := [⟨a, b⟩]) HS.out ?m kk _ F2.out).mono ?_
        case m => repeat (first | with_reducible exact List.mem_cons_self | with_reducible apply List.mem_cons_of_mem)
        rintro e w18 ⟨rfl, hs, hb⟩
        have HS := Lib.hid hs
        have HZ := Lib.hid (Kd.C_below HZ.out hb)
        clear hs hb
        go_wp2_with fail
        refine (c_inx (l := m) HS.out ?m kk _ F3.out).mono ?_
        case m => repeat (first | with_reducible exact List.mem_cons_self | with_reducible apply List.mem_cons_of_mem)
        rintro e w19 ⟨rfl, hs, hb⟩
        have HS := Lib.hid hs
        have HZ := Lib.hid (Kd.C_below HZ.out hb)
        clear hs hb
        go_wp2_with fail
        refine (c_inx (l := ad) HS.out ?m kk _ F4.out).mono ?_
        case m => repeat (first | with_reducible exact List.mem_cons_self | with_reducible apply List.mem_cons_of_mem)
        rintro e w20 ⟨rfl, hs, hb⟩
        have HS := Lib.hid hs
        have HZ := Lib.hid (Kd.C_below HZ.out hb)
        clear hs hb
        go_wp2_with fail
        refine (c_inx (l := cu) HS.out ?m kk _ F5.out).mono ?_
        case m => repeat (first | with_reducible exact List.mem_cons_self | with_reducible apply List.mem_cons_of_mem)
        rintro e w21 ⟨rfl, hs, hb⟩
        have HS := Lib.hid hs
        have HZ := Lib.hid (Kd.C_below HZ.out hb)
        clear hs hb
        go_wp2
        go_roundw
        case rel => exact ⟨i + 1, by omega, by go_num, HS, HZ⟩
        case measure => simp [intOf]; omega
    · have hltz : ¬ (i : Int) < (Z.length : Int) := by omega
      clear hi hlt
      have HSx := Lib.hid HS.out
      clear HS HZ
      have HS := Lib.hid HSx.out
      clear HSx
      go_wp2_with fail
      refine (c_own (l := [⟨a, b⟩]) HS.out ?m).mono ?_
      case m => repeat (first | with_reducible exact List.mem_cons_self | with_reducible apply List.mem_cons_of_mem)
      rintro e w22 ⟨v22, rfl, hs⟩
      have HS := Lib.hid hs
      clear hs
      have HS2 := Lib.hid (show St w w.heap.size a b w22 [(v22, [⟨a, b⟩]), ((Value.slice Am m.length cAm), m), (va, ad), (vc, cu)] from ⟨HS.out.bl, HS.out.lt, HS.out.c0, HS.out.c1, HS.out.lv.get (by repeat (first | with_reducible exact List.mem_cons_self | with_reducible apply List.mem_cons_of_mem)), HS.out.lv.get (by repeat (first | with_reducible exact List.mem_cons_self | with_reducible apply List.mem_cons_of_mem)), HS.out.lv.get (by repeat (first | with_reducible exact List.mem_cons_self | with_reducible apply List.mem_cons_of_mem)), HS.out.lv.get (by repeat (first | with_reducible exact List.mem_cons_self | with_reducible apply List.mem_cons_of_mem)), trivial⟩)
      clear HS
      have HB0 := Lib.hid (show rightB [(⟨a, b⟩ : Sp)] = true from one_right HB.out)
      go_wp2
      go_loopw [20, 21] (fun s20 t wr => ∃ (i : Nat) (o : List Sp), i ≤ m.length ∧ t = .int .i64 i ∧ Hid (o = (m.take i).foldl (fun o x => cutS o x) [⟨a, b⟩] ∧ rightB o = true) ∧ Hid (St w w.heap.size a b wr [(s20, o), ((Value.slice Am m.length cAm), m), (va, ad), (vc, cu)])) (fun _ t _ => (m.length - intOf t).toNat)
      case atStart => exact ⟨0, [⟨a, b⟩], Nat.zero_le _, rfl, Lib.hid ⟨rfl, HB0.out⟩, HS2⟩
      case round =>
        clear HS2
        obtain ⟨i, o, hi, rfl, HL2, HS⟩ := hrel
        by_cases hlt : i < m.length
        · have hltz : (i : Int) < (m.length : Int) := by omega
          obtain ⟨am, hAm, x0, x1⟩ := at_T24 (Rd.C (HS.out.lv.get (v := (Value.slice Am m.length cAm)) (l := m) (by repeat (first | with_reducible exact List.mem_cons_self | with_reducible apply List.mem_cons_of_mem)))) (i : Int) (by omega) hltz
          have hx : rd_T24 m (i : Int) = m[i] := by simp [rd_T24, List.getD_eq_getElem?_getD, List.getElem?_eq_getElem hlt]
          have hgd := right_good HM.out.2.1 m[i] (List.getElem_mem hlt)
          have hfo : cutS o m[i] = (m.take (i + 1)).foldl (fun o x => cutS o x) [⟨a, b⟩] := by rw [List.take_succ_eq_append_getElem hlt, List.foldl_append, ← HL2.out.1]; rfl
          rw [hx, Int.toNat_natCast] at x0 x1
          subst hAm
          clear hx
          generalize m[i] = y at x0 x1 hgd hfo
          have HF := Lib.hid hfo
          have HN := Lib.hid (show cutA o ⟨y.f0, y.f1⟩ = (cutS o y, 0) by unfold cutA; rw [HL2.out.2, hgd]; rfl)
          have HR := Lib.hid (show rightB (cutS o y) = true from (cutS_spec y ((goodB_iff y).1 hgd).2.1 o (-1) HL2.out.2).1)
          clear hfo hgd
          go_wp2_with fail
          refine (c_cutz (l := o) HS.out ?m y.f0 y.f1 HN.out).mono ?_
          case m => repeat (first | with_reducible exact List.mem_cons_self | with_reducible apply List.mem_cons_of_mem)
          rintro e w23 ⟨v23, rfl, hs⟩
          have HS := Lib.hid hs
          clear hs
          have HS3 := Lib.hid (show St w w.heap.size a b w23 [(v23, cutS o y), ((Value.slice (some am) m.length cAm), m), (va, ad), (vc, cu)] from ⟨HS.out.bl, HS.out.lt, HS.out.c0, HS.out.c1, HS.out.lv.get (by repeat (first | with_reducible exact List.mem_cons_self | with_reducible apply List.mem_cons_of_mem)), HS.out.lv.get (by repeat (first | with_reducible exact List.mem_cons_self | with_reducible apply List.mem_cons_of_mem)), HS.out.lv.get (by repeat (first | with_reducible exact List.mem_cons_self | with_reducible apply List.mem_cons_of_mem)), HS.out.lv.get (by repeat (first | with_reducible exact List.mem_cons_self | with_reducible apply List.mem_cons_of_mem)), trivial⟩)
          clear HS x0 x1
          go_wp2
          go_roundw
          case rel => exact ⟨i + 1, cutS o y, by omega, by go_num, Lib.hid ⟨HF.out, HR.out⟩, HS3⟩
          case measure => simp [intOf]; omega
        · have hltm : ¬ (i : Int) < (m.length : Int) := by omega
          have ho : o = leftS ⟨a, b⟩ m := by rw [HL2.out.1, List.take_of_length_le (by omega)]; rfl
          have HH := Lib.hid (show hasA m ⟨a, b⟩ = (o.length == 0) by rw [ho]; exact HK.out.has)
          have HE3 := Lib.hid (show sizeA ad = sizeA m + sizeA o by rw [ho]; exact HE2.out)
          have HRo := HL2
          clear HE2 HL2
          clear ho
          obtain ⟨_, Ao, co, rfl, _, _⟩ := HS.out.lv.get (v := u20) (l := o) (by repeat (first | with_reducible exact List.mem_cons_self | with_reducible apply List.mem_cons_of_mem))
          have hz : sizeA ad = wrap64 (sizeA m + sizeA o) := by
            have z := (sizeS_nonneg HRA.out (by omega)).2 (by omega)
            have z0 := (sizeS_nonneg HRA.out (by omega)).1
            have e : sizeA ad = sizeS ad := by unfold sizeA; rw [if_pos HRA.out]
            rw [← HE3.out, e]; unfold wrap64; omega
          have HZ3 := Lib.hid hz
          clear hz
          generalize hzm : sizeA m = zm at HZ3
          generalize hzo : sizeA o = zo at HZ3
          have HZm := Lib.hid hzm
          have HZo := Lib.hid hzo
          clear hzm hzo
          have hself : (wrap64 (zm + zo) == wrap64 (zm + zo)) = true := by simp
          obtain ⟨dd, hdd⟩ : ∃ x, decide (cu = m) = x := ⟨_, rfl⟩
          have HD := Lib.hid hdd
          have HME := Lib.hid (show meetsA m ⟨a, b⟩ = !dd by rw [HE1.out, hdd])
          clear hdd
          obtain ⟨n0, hn0⟩ : ∃ x, (o.length == 0) = x := ⟨_, rfl⟩
          have HHx := Lib.hid (HH.out.trans hn0)
          clear HH
          have hlen : ((o.length : Int) == 0) = n0 := by rw [← hn0, Bool.eq_iff_iff, beq_iff_eq, beq_iff_eq]; omega
          have hlen2 : decide ((o.length : Int) = 0) = n0 := by rw [← hlen]; rfl
          clear hn0
          have hnn : (n0 == n0) = true := by simp
          have hdn : ((!dd) == (!dd)) = true := by simp
          go_wp2
          go_region_held3 (fun w' => w'.cell? ⟨w.heap.size, 0, none⟩ = some (.int .i64 a) ∧ w'.cell? ⟨w.heap.size, 1, none⟩ = some (.int .i64 b)) (first | exact ⟨HS.out.c0, HS.out.c1⟩ | exact ⟨HS.out.drew.c0, HS.out.drew.c1⟩)
            (first | (go_at_call 12; refine (c_samex (l := cu) (m := m) HS.out ?m ?n _ HD.out).mono ?_; (case m => repeat (first | with_reducible exact List.mem_cons_self | with_reducible apply List.mem_cons_of_mem)); (case n => repeat (first | with_reducible exact List.mem_cons_self | with_reducible apply List.mem_cons_of_mem)); rintro e w' ⟨rfl, hs⟩; have HS := Lib.hid hs; clear hs) | (go_at_call 12; refine (c_samex (l := cu) (m := m) HS.out.drew ?m ?n _ HD.out).mono ?_; (case m => repeat (first | with_reducible exact List.mem_cons_self | with_reducible apply List.mem_cons_of_mem)); (case n => repeat (first | with_reducible exact List.mem_cons_self | with_reducible apply List.mem_cons_of_mem)); rintro e w' ⟨rfl, hs⟩; have HS := Lib.hid hs; clear hs) | (go_at_call 10; refine (c_own (l := m) HS.out ?m).mono ?_; (case m => repeat (first | with_reducible exact List.mem_cons_self | with_reducible apply List.mem_cons_of_mem)); rintro e w' ⟨v', rfl, hs⟩; have HS := Lib.hid hs; clear hs) | (go_at_call 10; refine (c_own (l := m) HS.out.drew ?m).mono ?_; (case m => repeat (first | with_reducible exact List.mem_cons_self | with_reducible apply List.mem_cons_of_mem)); rintro e w' ⟨v', rfl, hs⟩; have HS := Lib.hid hs; clear hs) | (go_at_call 23; refine (c_hasx (l := m) HS.out ?m _ HHx.out).mono ?_; (case m => repeat (first | with_reducible exact List.mem_cons_self | with_reducible apply List.mem_cons_of_mem)); rintro e w' ⟨rfl, hs⟩; have HS := Lib.hid hs; clear hs) | (go_at_call 23; refine (c_hasx (l := m) HS.out.drew ?m _ HHx.out).mono ?_; (case m => repeat (first | with_reducible exact List.mem_cons_self | with_reducible apply List.mem_cons_of_mem)); rintro e w' ⟨rfl, hs⟩; have HS := Lib.hid hs; clear hs) | (go_at_call 25; refine (c_meetsx (l := m) HS.out ?m _ HME.out).mono ?_; (case m => repeat (first | with_reducible exact List.mem_cons_self | with_reducible apply List.mem_cons_of_mem)); rintro e w' ⟨rfl, hs⟩; have HS := Lib.hid hs; clear hs) | (go_at_call 25; refine (c_meetsx (l := m) HS.out.drew ?m _ HME.out).mono ?_; (case m => repeat (first | with_reducible exact List.mem_cons_self | with_reducible apply List.mem_cons_of_mem)); rintro e w' ⟨rfl, hs⟩; have HS := Lib.hid hs; clear hs) | (go_at_call 15; refine (c_sizex (l := ad) HS.out ?m _ HZ3.out).mono ?_; (case m => repeat (first | with_reducible exact List.mem_cons_self | with_reducible apply List.mem_cons_of_mem)); rintro e w' ⟨rfl, hs⟩; have HS := Lib.hid hs; clear hs) | (go_at_call 15; refine (c_sizex (l := ad) HS.out.drew ?m _ HZ3.out).mono ?_; (case m => repeat (first | with_reducible exact List.mem_cons_self | with_reducible apply List.mem_cons_of_mem)); rintro e w' ⟨rfl, hs⟩; have HS := Lib.hid hs; clear hs) | (go_at_call 15; refine (c_sizex (l := m) HS.out ?m _ HZm.out).mono ?_; (case m => repeat (first | with_reducible exact List.mem_cons_self | with_reducible apply List.mem_cons_of_mem)); rintro e w' ⟨rfl, hs⟩; have HS := Lib.hid hs; clear hs) | (go_at_call 15; refine (c_sizex (l := m) HS.out.drew ?m _ HZm.out).mono ?_; (case m => repeat (first | with_reducible exact List.mem_cons_self | with_reducible apply List.mem_cons_of_mem)); rintro e w' ⟨rfl, hs⟩; have HS := Lib.hid hs; clear hs) | (go_at_call 15; refine (c_sizex (l := o) HS.out ?m _ HZo.out).mono ?_; (case m => repeat (first | with_reducible exact List.mem_cons_self | with_reducible apply List.mem_cons_of_mem)); rintro e w' ⟨rfl, hs⟩; have HS := Lib.hid hs; clear hs) | (go_at_call 15; refine (c_sizex (l := o) HS.out.drew ?m _ HZo.out).mono ?_; (case m => repeat (first | with_reducible exact List.mem_cons_self | with_reducible apply List.mem_cons_of_mem)); rintro e w' ⟨rfl, hs⟩; have HS := Lib.hid hs; clear hs))
          go_wp2
          go_ret
          exact ⟨by first | rfl | (simp; done) | (simp [i64_w]; done), HS.out.bl⟩
theorem sets_calls (A : Option Addr) (c : Nat) (l : List Sp) (a b en : Int) (w : World) (hr : Kd.C k24 w A l.length l) (hc : l.length ≤ c) (hl : l.length ≤ 4000000) :
    Calls Try.prog 4 #[.slice A l.length c, .agg #[.int .i64 a, .int .i64 b], .int .i64 en] w fun e w' => e = .returned (.bool true) ∧ Below w.heap.size w w' := by
  cases hg : l.all goodB with
  | false => exact sets_bad A c l a b en w hr hc hl hg
  | true =>
    cases hs : goodB ⟨a, b⟩ with
    | false => exact sets_ill A c l a b en w hr hc hl hg hs
    | true => exact sets_good A c l a b en w hr hc hl hg hs
end Go.Proofs.Ytmfckkgebdfhjaa.Q
