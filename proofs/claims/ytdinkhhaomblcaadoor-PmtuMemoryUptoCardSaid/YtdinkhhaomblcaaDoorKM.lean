/- The watch: its making, the now of its next call, the destinations. No condition. -/
import Derived.Test.YtdinkhhaomblcaaDoorGF
import Derived.Test.YtdinkhhaomblcaaDoorGH
namespace Go.Proofs.YtdinkhhaomblcaaDoor.SL
open Go.RowKit Go.Proofs.YtdinkhhaomblcaaDoorW.PrintWords Go.Proofs.YtdinkhhaomblcaaDoorW.PrintLast Go.Proofs.YtdinkhhaomblcaaDoorW.PrintMore
abbrev kI : Kd Int := Kd.int .i64
theorem flI : Flat kI := flatI .i64
abbrev obI (v : Value) (l : List Int) : Ob := obW kI 3 flI v l
theorem St.front1 {w0 w : World} {Γ : List Ob} {x : Ob} (h : St w0 w (Γ ++ [x])) : St w0 w (x :: Γ) := h.perm (List.perm_append_singleton x Γ).symm
theorem St.sub {w0 w : World} {Γ Δ : List Ob} (h : St w0 w Γ) (hs : Δ.Sublist Γ) : St w0 w Δ := by
  refine ⟨h.bl, fun i o hi => ?_, fun i o hi => ?_, Apart.pair.2 ((Apart.pair.1 h.sep).sublist hs)⟩
  · obtain ⟨j, hj, he⟩ := List.getElem_of_mem (hs.subset (List.mem_of_getElem? hi))
    exact h.ok j o (by rw [List.getElem?_eq_getElem hj, he])
  · obtain ⟨j, hj, he⟩ := List.getElem_of_mem (hs.subset (List.mem_of_getElem? hi))
    exact h.base j o (by rw [List.getElem?_eq_getElem hj, he])
section
variable {w0 w : World} {Γ : List Ob} {p b : Nat} {c : Ca}
theorem St.boxF (h : St w0 w Γ) (cs : Array Value) (T : TypeId) : St w0 (w.alloc (.cells cs T)) (obB w.heap.size cs T :: Γ) := (h.box cs T).front1
theorem c_newF (h : St w0 w Γ) (E A : Int) (hb : ¬ (E < 1 ∨ 64 < E ∨ A < 1 ∨ 1099511627776 < A)) :
    Calls Tryd.prog 10 #[paV E A] w fun e w' => ∃ p b, e = .returned (.tuple #[.pointer (some ⟨p, 0, none⟩), .int .i64 0]) ∧ St w0 w' (obC p b ⟨E, A, [], 0, 0⟩ :: Γ) :=
  (c_new_yes h E A hb).mono fun _ _ ⟨p, b, he, hs⟩ => ⟨p, b, he, hs.front1⟩
theorem c_tickF (h : St w0 w Γ) (i : Nat) (hi : Γ[i]? = some (obC p b c)) (g : Nat) (hg : Γ[g]? = some obG) (hk : OkC c) (hok : AllB c) (now : Int) {e : Int} {c' : Ca} (hr : tickS c above now = (e, c')) {l : List Ad} (hl : tickL c now = l) :
    Calls Tryd.prog 19 #[.pointer (some ⟨p, 0, none⟩), .int .i64 now] w fun r w' => ∃ A cp, r = .returned (.tuple #[.slice A l.length cp, .int .i64 e]) ∧ St w0 w' (obAd (.slice A l.length cp) l :: Γ.set i (obC p b c')) :=
  (c_tickK h i hi g hg hk hok now hr hl).mono fun _ _ ⟨A, cp, he, hs⟩ => ⟨A, cp, he, hs.front1⟩
theorem c_allF (h : St w0 w Γ) (i : Nat) (hi : Γ[i]? = some (obC p b c)) (hk : OkC c) (hok : AllB c) {l : List Ad} (hl : ordS (c.M.map (·.1)) = l) :
    Calls Tryd.prog 14 #[.pointer (some ⟨p, 0, none⟩)] w fun r w' => ∃ A cp, r = .returned (.slice A l.length cp) ∧ St w0 w' (obAd (.slice A l.length cp) l :: Γ) :=
  (c_allK h i hi hk hok hl).mono fun _ _ ⟨A, cp, he, hs⟩ => ⟨A, cp, he, hs.front1⟩
end
/-- The watch's cells. -/
def wV (p : Nat) (E A first now : Int) (hv : Value) : Array Value := #[.pointer (some ⟨p, 0, none⟩), .int .i64 E, .int .i64 A, .int .i64 first, .int .i64 now, hv]
abbrev obWt (wp p : Nat) (E A first now : Int) (hv : Value) : Ob := obB wp (wV p E A first now hv) 53
def posI (x : Int) : Int := if x < 0 then -1 - x else x
def uI (x : Int) : Int := IntKind.u64.wrap x
theorem uI_pos (x : Int) : 0 ≤ uI x := by
  unfold uI
  simp only [IntKind.wrap, IntKind.bits, IntKind.signed]
  have := Int.emod_nonneg x (show (2 : Int) ^ 64 ≠ 0 by decide)
  simpa using this
theorem tm_range {x n : Int} (h : 0 ≤ x) (hn : 0 < n) : 0 ≤ x.tmod n ∧ x.tmod n < n := by
  rw [Int.tmod_eq_emod_of_nonneg h]
  exact ⟨Int.emod_nonneg x (by omega), Int.emod_lt_of_pos x hn⟩
def wE (entries : Int) : Int := 1 + (uI entries).tmod 8
def wA (age : Int) : Int := 1 + (posI age).tmod 1000
def wF (first : Int) : Int := 1280 + (uI first).tmod 64256
theorem posI_nn (x : Int) : 0 ≤ posI x := by unfold posI; split <;> omega
theorem w_ok (entries age : Int) : ¬ (wE entries < 1 ∨ 64 < wE entries ∨ wA age < 1 ∨ 1099511627776 < wA age) := by
  have h1 := tm_range (uI_pos entries) (show (0 : Int) < 8 by decide)
  have h2 := tm_range (posI_nn age) (show (0 : Int) < 1000 by decide)
  unfold wE wA
  omega
theorem w_rng (entries age first : Int) : (1 ≤ wE entries ∧ wE entries ≤ 8) ∧ (1 ≤ wA age ∧ wA age ≤ 1000) ∧ (1280 ≤ wF first ∧ wF first ≤ 65535) := by
  have h1 := tm_range (uI_pos entries) (show (0 : Int) < 8 by decide)
  have h2 := tm_range (posI_nn age) (show (0 : Int) < 1000 by decide)
  have h3 := tm_range (uI_pos first) (show (0 : Int) < 64256 by decide)
  unfold wE wA wF
  omega
set_option maxHeartbeats 4000000 in
theorem watch_calls {w0 w : World} {Γ : List Ob} (h : St w0 w Γ) (entries age first : Int) (ha : -9223372036854775808 ≤ age) (ha2 : age ≤ 9223372036854775807) :
    Calls Tryd.prog 16 #[.int .i64 entries, .int .i64 age, .int .i64 first] w fun e w' => ∃ wp p b, e = .returned (.tuple #[.pointer (some ⟨wp, 0, none⟩), .bool true]) ∧
      St w0 w' (obWt wp p (wE entries) (wA age) (wF first) 0 (.slice none 0 0) :: obI (.slice none 0 0) [] :: obC p b ⟨wE entries, wA age, [], 0, 0⟩ :: Γ) := by
  have HS := Lib.hid h
  have HE := Lib.hid (show wE entries = 1 + (uI entries).tmod 8 from rfl)
  have HA := Lib.hid (show wA age = 1 + (posI age).tmod 1000 from rfl)
  have HF := Lib.hid (show wF first = 1280 + (uI first).tmod 64256 from rfl)
  have HB := Lib.hid (w_ok entries age)
  obtain ⟨e8, h8, e8a, e8b⟩ : ∃ e8 : Int, (IntKind.u64.wrap entries).tmod 8 = e8 ∧ 0 ≤ e8 ∧ e8 < 8 := ⟨_, rfl, tm_range (uI_pos entries) (by decide)⟩
  obtain ⟨f8, h9, f8a, f8b⟩ : ∃ f8 : Int, (IntKind.u64.wrap first).tmod 64256 = f8 ∧ 0 ≤ f8 ∧ f8 < 64256 := ⟨_, rfl, tm_range (uI_pos first) (by decide)⟩
  obtain ⟨a8, h7, a8a, a8b⟩ : ∃ a8 : Int, (posI age).tmod 1000 = a8 ∧ 0 ≤ a8 ∧ a8 < 1000 := ⟨_, rfl, tm_range (posI_nn age) (by decide)⟩
  replace HE : Hid (wE entries = 1 + e8) := Lib.hid (by rw [← h8]; exact HE.out)
  replace HF : Hid (wF first = 1280 + f8) := Lib.hid (by rw [← h9]; exact HF.out)
  replace HA : Hid (wA age = 1 + a8) := Lib.hid (by rw [← h7]; exact HA.out)
  rw [HE.out, HA.out, HF.out]
  rw [HE.out, HA.out] at HB
  clear h HE HA HF
  go_enter Tryd.func16, Tryd.ntmps16
  by_cases hn : age < 0
  · have hw : wrap64 (-1 - age) = -1 - age := by simp only [wrap64]; omega
    have h7 : (-1 - age).tmod 1000 = a8 := by rw [← h7]; unfold posI; rw [if_pos hn]
    have HBX := Lib.hid (HS.out.boxF #[.int .i64 (1 + e8), .int .i64 (1 + a8)] 29)
    go_wp2_with (go_at_call 10; refine (c_newF HBX.out (1 + e8) (1 + a8) HB.out).mono ?_; rintro e w1 ⟨p, b, rfl, hs⟩; have HS1 := Lib.hid hs; have q0 := hs.cellB 1 rfl 0 rfl; have q1 := hs.cellB 1 rfl 1 rfl; clear hs)
    go_ret2
    exact ⟨_, p, b, rfl, (((HS1.out.newW (e := 3) flI).front1.boxF _ _).sub (((List.sublist_cons_self _ Γ).cons_cons _).cons_cons _ |>.cons_cons _))⟩
  · have hw : decide (age < 0) = false := decide_eq_false hn
    have h7 : age.tmod 1000 = a8 := by rw [← h7]; unfold posI; rw [if_neg hn]
    have HBX := Lib.hid (HS.out.boxF #[.int .i64 (1 + e8), .int .i64 (1 + a8)] 29)
    go_wp2_with (go_at_call 10; refine (c_newF HBX.out (1 + e8) (1 + a8) HB.out).mono ?_; rintro e w1 ⟨p, b, rfl, hs⟩; have HS1 := Lib.hid hs; have q0 := hs.cellB 1 rfl 0 rfl; have q1 := hs.cellB 1 rfl 1 rfl; clear hs)
    go_ret2
    exact ⟨_, p, b, rfl, (((HS1.out.newW (e := 3) flI).front1.boxF _ _).sub (((List.sublist_cons_self _ Γ).cons_cons _).cons_cons _ |>.cons_cons _))⟩
end Go.Proofs.YtdinkhhaomblcaaDoor.SL
namespace Go.Proofs.YtdinkhhaomblcaaDoor.SL
open Go.RowKit Go.Proofs.YtdinkhhaomblcaaDoorW.PrintWords Go.Proofs.YtdinkhhaomblcaaDoorW.PrintLast Go.Proofs.YtdinkhhaomblcaaDoorW.PrintMore
/-- The now of the next call. -/
def nxt (now t : Int) : Int := now + (posI t).tmod 4000
theorem nxt_rng (now t : Int) : now ≤ nxt now t ∧ nxt now t < now + 4000 := by
  have h := tm_range (posI_nn t) (show (0 : Int) < 4000 by decide)
  unfold nxt
  omega
set_option maxHeartbeats 2000000 in
theorem c_later {w0 w : World} {Γ : List Ob} (h : St w0 w Γ) (i : Nat) {wp p : Nat} {E A first now : Int} {hv : Value} (hi : Γ[i]? = some (obWt wp p E A first now hv)) (t : Int) (ht : -9223372036854775808 ≤ t ∧ t ≤ 9223372036854775807) (hn : 0 ≤ now ∧ now ≤ 1000000000000) :
    Calls Tryd.prog 18 #[.pointer (some ⟨wp, 0, none⟩), .int .i64 t] w fun e w' => e = .returned (.int .i64 (nxt now t)) ∧ w' = w := by
  have q4 : w.cell? ⟨wp, 4, none⟩ = some (.int .i64 now) := h.cellB i hi 4 rfl
  obtain ⟨a8, h7, a8a, a8b⟩ : ∃ a8 : Int, (posI t).tmod 4000 = a8 ∧ 0 ≤ a8 ∧ a8 < 4000 := ⟨_, rfl, tm_range (posI_nn t) (by decide)⟩
  have HN := Lib.hid (show nxt now t = now + a8 by unfold nxt; rw [h7])
  clear h hi
  obtain ⟨hn0, hn1⟩ := hn
  go_enter Tryd.func18, Tryd.ntmps18
  by_cases hneg : t < 0
  · have hw : wrap64 (-1 - t) = -1 - t := by simp only [wrap64]; omega
    have h7 : (-1 - t).tmod 4000 = a8 := by rw [← h7]; unfold posI; rw [if_pos hneg]
    go_wp2_with fail
    go_ret
    exact ⟨by rw [HN.out]; rfl, rfl⟩
  · have hw : decide (t < 0) = false := decide_eq_false hneg
    have h7 : t.tmod 4000 = a8 := by rw [← h7]; unfold posI; rw [if_neg hneg]
    go_wp2_with fail
    go_ret
    exact ⟨by rw [HN.out]; rfl, rfl⟩
/-- Destination number n. -/
def dstA (n : Int) : Ad := if (uI n).tmod 12 % 2 = 0 then fA ((uI n).tmod 12) else sA ((uI n).tmod 12)
theorem dst_ok (n : Int) : BOk (dstA n) := by
  have h := tm_range (uI_pos n) (show (0 : Int) < 12 by decide)
  unfold dstA
  split
  · exact four_ok _ (by omega)
  · exact six_ok _ (by omega)
set_option maxHeartbeats 2000000 in
theorem dst_calls (n : Int) (w : World) : Calls Tryd.prog 22 #[.int .i64 n] w fun e w' => e = .returned (.agg (aV (dstA n))) ∧ Below w.heap.size w w' := by
  obtain ⟨k, hk, ka, kb⟩ : ∃ k : Int, (IntKind.u64.wrap n).tmod 12 = k ∧ 0 ≤ k ∧ k < 12 := ⟨_, rfl, tm_range (uI_pos n) (by decide)⟩
  have hk8 : IntKind.u8.wrap k = k := by simp only [IntKind.wrap, IntKind.bits, IntKind.signed]; simp; omega
  have hk2 : k.tmod 2 = k % 2 := Int.tmod_eq_emod_of_nonneg ka
  have HS0 := Lib.hid (St.nil w)
  have HD := Lib.hid (show dstA n = if k % 2 = 0 then fA k else sA k by unfold dstA uI; rw [hk])
  go_enter Tryd.func22, Tryd.ntmps22
  by_cases h2 : k % 2 = 0
  · have hb : (k % 2 == 0) = true := by simpa using h2
    replace HD := Lib.hid (show dstA n = fA k by rw [HD.out, if_pos h2])
    go_wp2_with (first
      | (refine gate_ (.alloc 32) rfl ?_; go_must (refine wpList_alloc_B rfl 32 rfl _ zeroA _ rfl HS0.out ?_; intro w3 hz hs; clear hz; have HS3 := Lib.hid hs; clear hs HS0))
      | (go_at_call 28; refine (c_four HS3.out _).mono ?_; rintro e w4 ⟨rfl, hs⟩; have HS4 := Lib.hid hs; clear hs HS3)
      | (refine gate_ (.store 32 (.tmp 2) (.tmp 12)) rfl ?_; go_must (refine wpList_store_B HS4.out 0 rfl rfl rfl 32 (.tmp 2) (.tmp 12) rfl (aV (fA k)) rfl rfl (by rw [aV_size]; exact sizA) (by rw [aV_size]; exact aV_size _) (aV_one _) ?_; intro w5 hs; have HS5 := Lib.hid hs; clear hs HS4)))
    refine bodyPost_ret (results_cell_row rfl _ _ w.heap.size _ (aV (fA k)) _ _ rfl (HS5.out.get 0 rfl) Tryd.underlying32 rfl (by rw [aV_size]; exact sizA)) rfl ?_
    exact ⟨by rw [HD.out], HS5.out.bl⟩
  · have hb : (k % 2 == 0) = false := by simpa using h2
    replace HD := Lib.hid (show dstA n = sA k by rw [HD.out, if_neg h2])
    go_wp2_with (first
      | (refine gate_ (.alloc 32) rfl ?_; go_must (refine wpList_alloc_B rfl 32 rfl _ zeroA _ rfl HS0.out ?_; intro w3 hz hs; clear hz; have HS3 := Lib.hid hs; clear hs HS0))
      | (go_at_call 36; refine (c_six HS3.out _).mono ?_; rintro e w4 ⟨rfl, hs⟩; have HS4 := Lib.hid hs; clear hs HS3)
      | (refine gate_ (.store 32 (.tmp 2) (.tmp 14)) rfl ?_; go_must (refine wpList_store_B HS4.out 0 rfl rfl rfl 32 (.tmp 2) (.tmp 14) rfl (aV (sA k)) rfl rfl (by rw [aV_size]; exact sizA) (by rw [aV_size]; exact aV_size _) (aV_one _) ?_; intro w5 hs; have HS5 := Lib.hid hs; clear hs HS4)))
    refine bodyPost_ret (results_cell_row rfl _ _ w.heap.size _ (aV (sA k)) _ _ rfl (HS5.out.get 0 rfl) Tryd.underlying32 rfl (by rw [aV_size]; exact sizA)) rfl ?_
    exact ⟨by rw [HD.out], HS5.out.bl⟩
end Go.Proofs.YtdinkhhaomblcaaDoor.SL
