/- The walk of filled: a wheel filled out of timers, some of them cancelled. No condition. -/
import Derived.Test.YtadhceoaoopcjaaF5
import Derived.Test.YtadhceoaoopcjaaF4
import Derived.Test.YtadhceoaoopcjaaRow
namespace Go.Proofs.Ytadhceoaoopcjaa.SL
open Go.RowKit Go.Proofs.YtadhceoaoopcjaaW.PrintWords Go.Proofs.YtadhceoaoopcjaaW.PrintLast Go.Proofs.YtadhceoaoopcjaaW.PrintMore
def zTm : Tm := ⟨0, false⟩
structure TmAt (w : World) (ad : Addr) (k : Nat) (x : Tm) : Prop where
  n0 : w.cell? (ad.add (k * 2)) = some (.int .i64 x.far)
  n1 : w.cell? ⟨(ad.add (k * 2)).block, (ad.add (k * 2)).off + 1, none⟩ = some (.bool x.can)
theorem tm_at {w : World} {A : Option Addr} {s : List Tm} (h : kTm.C w A s.length s) (k : Nat) (hk : k < s.length) : ∃ ad, A = some ad ∧ TmAt w ad k (s.getD k zTm) := by
  obtain ⟨ad, c, hA, _, hK, hc⟩ := Kd.C_get h zTm (k : Int) (by omega) (by omega)
  obtain rfl : c = tmL (s.getD (k : Int).toNat zTm) := hK
  rw [Int.toNat_natCast] at hc
  have hc' : ∀ j u, (tmL (s.getD k zTm))[j]? = some u → w.cell? (ad.add (k * 2 + j)) = some u := hc
  refine ⟨ad, hA, ⟨hc' 0 _ rfl, ?_⟩⟩
  rw [← add_field _ _ 1 (by omega)]; exact hc' 1 _ rfl
theorem TmAt.below {w w' : World} {ad : Addr} {k : Nat} {x : Tm} (h : TmAt w ad k x) (hb : Below w.heap.size w w') : TmAt w' ad k x := by
  have hlt : ad.block < w.heap.size := by
    have := World.block_lt_of_cell? w _ h.n0
    rwa [add_block'] at this
  have hbl : (ad.add (k * 2)).block = ad.block := add_block' _ _
  have key : ∀ q : Addr, q.block = ad.block → w'.cell? q = w.cell? q := fun q hq => World.cell?_of_block (w := w) (by rw [hq]; exact hb.block _ hlt)
  exact ⟨(key _ hbl).trans h.n0, (key ⟨(ad.add (k * 2)).block, _, none⟩ hbl).trans h.n1⟩
/-! ### what is filled in, as a list of ticks -/
def addAt (now : Int) (x : Tm) : Int := if 1099511627776 < now + wi x.far then 1099511627776 else now + wi x.far
def filA (now : Int) (z : List Tm) (k : Nat) : List Int := (z.take k).map (addAt now)
def cutA (z : List Tm) (l : List Int) : Nat → List Int
  | 0 => l
  | k + 1 => if (z.getD k zTm).can then (cutA z l k).set k (-1) else cutA z l k
def tmN (z : List Tm) : Nat := min z.length 3000
/-- The ticks of a filled wheel; -1: cancelled. -/
def filT (now : Int) (z : List Tm) : List Int := cutA z (filA now z (tmN z)) (tmN z)
theorem addAt_rng {now : Int} (h0 : 0 ≤ now) (h1 : now ≤ 1099511627776) (x : Tm) : now ≤ addAt now x ∧ addAt now x ≤ 1099511627776 := by
  have := wi_rng x.far
  unfold addAt
  split <;> omega
theorem filA_len (now : Int) (z : List Tm) {k : Nat} (hk : k ≤ z.length) : (filA now z k).length = k := by unfold filA; rw [List.length_map, List.length_take]; omega
theorem filA_succ (now : Int) (z : List Tm) {k : Nat} (hk : k < z.length) : filA now z (k + 1) = filA now z k ++ [addAt now (z.getD k zTm)] := by
  unfold filA
  rw [List.take_succ_eq_append_getElem hk, List.map_append, List.getD_eq_getElem?_getD, List.getElem?_eq_getElem hk]
  rfl
theorem cutA_len (z : List Tm) (l : List Int) : ∀ k, (cutA z l k).length = l.length
  | 0 => rfl
  | k + 1 => by
    unfold cutA
    split
    · rw [List.length_set]; exact cutA_len z l k
    · exact cutA_len z l k
/-- What waits at the start, at a tick or cancelled. -/
structure FilI (now : Int) (ats : List Int) : Prop where
  n0 : 0 ≤ now
  n1 : now ≤ 1099511627776
  l : ats.length ≤ 3000
  r : ∀ i, i < ats.length → ats.getD i 0 = -1 ∨ (now ≤ ats.getD i 0 ∧ ats.getD i 0 ≤ 1099511627776)
theorem FilI.ok {now : Int} {ats : List Int} (h : FilI now ats) : WOk (bkW now ats (-1)) :=
  book_ok h.n0 h.n1 (by have := h.l; omega) fun i hi hc => by rcases h.r i hi with e | e <;> omega
theorem FilI.filA {now : Int} {z : List Tm} (h0 : 0 ≤ now) (h1 : now ≤ 1099511627776) {k : Nat} (hk : k ≤ z.length) (hk2 : k ≤ 3000) : FilI now (SL.filA now z k) := by
  refine ⟨h0, h1, by rw [filA_len _ _ hk]; exact hk2, fun i hi => .inr ?_⟩
  have he : (SL.filA now z k).getD i 0 ∈ SL.filA now z k := by
    rw [List.getD_eq_getElem?_getD, List.getElem?_eq_getElem hi]; exact List.getElem_mem hi
  unfold SL.filA at he ⊢
  obtain ⟨x, _, hx⟩ := List.mem_map.1 he
  rw [← hx]
  exact addAt_rng h0 h1 x
theorem filA_ge {now : Int} {z : List Tm} (h0 : 0 ≤ now) (h1 : now ≤ 1099511627776) {k : Nat} (i : Nat) (hi : i < (SL.filA now z k).length) : now ≤ (SL.filA now z k).getD i 0 := by
  have he : (SL.filA now z k).getD i 0 ∈ SL.filA now z k := by
    rw [List.getD_eq_getElem?_getD, List.getElem?_eq_getElem hi]; exact List.getElem_mem hi
  unfold SL.filA at he ⊢
  obtain ⟨x, _, hx⟩ := List.mem_map.1 he
  rw [← hx]
  exact (addAt_rng h0 h1 x).1
theorem siz64 : (Try.prog.info? 2).map (·.size) = some 1 := by kernel_rfl
theorem FilI.set {now : Int} {ats : List Int} (h : FilI now ats) (k : Nat) (hk : k < ats.length) : FilI now (ats.set k (-1)) := by
  refine ⟨h.n0, h.n1, by rw [List.length_set]; exact h.l, fun i hi => ?_⟩
  rw [List.length_set] at hi
  rw [getD_set _ _ _ _ hk]
  by_cases e : i = k
  · rw [if_pos e]; exact .inl rfl
  · rw [if_neg e]; exact h.r i hi
theorem FilI.cutA {now : Int} {z : List Tm} {l : List Int} (h : FilI now l) : ∀ k, k ≤ l.length → FilI now (SL.cutA z l k)
  | 0, _ => h
  | k + 1, hk => by
    unfold SL.cutA
    have ih := FilI.cutA (z := z) h k (by omega)
    split
    · exact ih.set k (by rw [cutA_len]; omega)
    · exact ih
theorem cutA_keep (z : List Tm) (l : List Int) : ∀ k, k ≤ l.length → ∀ i, k ≤ i → (cutA z l k).getD i 0 = l.getD i 0
  | 0, _, i, _ => rfl
  | k + 1, hk, i, hi => by
    unfold cutA
    have ih := cutA_keep z l k (by omega) i (by omega)
    split
    · rw [getD_set _ _ _ _ (by rw [cutA_len]; omega), if_neg (by omega)]; exact ih
    · exact ih
theorem filT_ok {now : Int} {z : List Tm} (h0 : 0 ≤ now) (h1 : now ≤ 1099511627776) : FilI now (filT now z) := by
  have hm : tmN z ≤ z.length ∧ tmN z ≤ 3000 := by unfold tmN; omega
  exact FilI.cutA (FilI.filA h0 h1 hm.1 hm.2) _ (by rw [filA_len _ _ hm.1]; exact Nat.le_refl _)
theorem filT_len (now : Int) (z : List Tm) : (filT now z).length = tmN z := by
  unfold filT
  rw [cutA_len, filA_len _ _ (by unfold tmN; omega)]
/-- One timer more. -/
theorem fil_add {now : Int} {ats : List Int} (h : FilI now ats) {t : Int} (h1 : now ≤ t) (h2 : t ≤ 1099511627776) : addR (bkW now ats (-1)) t = (ats.length : Int) + 1 ∧ addE (bkW now ats (-1)) t = 0 ∧ addS (bkW now ats (-1)) t (7 * (ats.length : Int)) = bkW now (ats ++ [t]) (-1) := by
  have hl := h.l
  have hn := h.n0
  have hb : (bookL ats (-1)).length ≤ ats.length := by unfold bookL; rw [List.length_map]; exact Nat.le_trans (List.length_filter_le _ _) (by rw [List.length_range]; exact Nat.le_refl _)
  have he : addE (bkW now ats (-1)) t = 0 := by
    unfold addE
    rw [if_neg (by show ¬ (t < now ∨ _); omega), if_neg (by show ¬ (4096 ≤ ((bookL ats (-1)).length : Int)); omega)]
  refine ⟨by unfold addR; rw [if_pos he]; rfl, he, ?_⟩
  unfold addS
  rw [if_pos he]
  show Wh.mk now ((ats.length : Int) + 1) (bookL ats (-1) ++ [⟨(ats.length : Int) + 1, t, 7 * (ats.length : Int)⟩]) = Wh.mk now ((ats ++ [t]).length : Nat) (bookL (ats ++ [t]) (-1))
  rw [book_snoc _ _ _ (by omega), List.length_append, List.length_singleton]
  rfl
theorem fil_cut {now : Int} {ats : List Int} {k : Nat} (hk : k < ats.length) : cutW (bkW now ats (-1)) ((k : Int) + 1) = bkW now (ats.set k (-1)) (-1) := by
  show Wh.mk now (ats.length : Nat) ((bookL ats (-1)).filter (notId ((k : Int) + 1))) = Wh.mk now ((ats.set k (-1)).length : Nat) _
  rw [book_cut _ (by decide) hk, List.length_set]
theorem fil_find {now : Int} {ats : List Int} {k : Nat} (hk : k < ats.length) : (findW (bkW now ats (-1)) ((k : Int) + 1)).isSome = decide (-1 < ats.getD k 0) := by
  rw [book_find _ hk]
  by_cases h : -1 < ats.getD k 0
  · rw [if_pos h, decide_eq_true h]; rfl
  · rw [if_neg h, decide_eq_false h]; rfl
theorem fil_cut2 {now : Int} {ats : List Int} {k : Nat} (hk : k < ats.length) : (findW (bkW now (ats.set k (-1)) (-1)) ((k : Int) + 1)).isSome = false ∧ cutW (bkW now (ats.set k (-1)) (-1)) ((k : Int) + 1) = bkW now (ats.set k (-1)) (-1) := by
  have hk' : k < (ats.set k (-1)).length := by rw [List.length_set]; exact hk
  refine ⟨?_, ?_⟩
  · rw [fil_find hk', getD_set _ _ _ _ hk, if_pos rfl]; rfl
  · rw [fil_cut hk', List.set_set]
def FillP (w0 : World) (Γ : List Ob) (now : Int) (z : List Tm) (e : Ending) (w' : World) : Prop :=
  ∃ p x A c, e = .returned (.tuple #[.pointer (some ⟨p, 0, none⟩), .slice A (filT now z).length c]) ∧ WSt.Is x p (bkW now (filT now z) (-1)) ∧ St w0 w' (ob64 (.slice A (filT now z).length c) (filT now z) :: obWh x :: Γ)
set_option maxHeartbeats 16000000 in
set_option maxRecDepth 100000 in
theorem c_filled {w0 w : World} {Γ : List Ob} (h : St w0 w Γ) (now : Int) (hn0 : 0 ≤ now) (hn1 : now ≤ 1099511627776) (a : Option Addr) (cap : Nat) (z : List Tm) (hC : kTm.C w0 a z.length z) (hz : z.length * 16 ≤ 140737488351232) :
    Calls Try.prog 17 #[.int .i64 now, .slice a z.length cap] w (FillP w0 Γ now z) := by
  have HA : Hid (∀ k, k < z.length → ∃ ad, a = some ad ∧ TmAt w0 ad k (z.getD k zTm)) := Lib.hid fun k hk => tm_at hC k hk
  have HW1 := Lib.hid fun (W : World) (n : Int) => within_calls n W
  have H := Lib.hid h
  clear h hC
  go_enter Try.func17, Try.ntmps17
  go_wp2_with (go_at_call 11; refine (c_new H.out now (by omega) (by omega)).mono ?_; rintro e w3 ⟨p, x, rfl, hx, hs⟩; have HX : Hid (x.Is p (bkW now (filA now z 0) (-1))) := Lib.hid hx; have HS : Hid (St w0 w3 (ob64 (.slice none 0 0) (filA now z 0) :: obWh x :: Γ)) := Lib.hid ((hs.newW (d := kI) (e := 2) flI).front1); clear hx hs H)
  go_loopw [8, 9] (fun v s9 wr => ∃ (k : Nat) (x : WSt) (A : Option Addr) (c : Nat), k ≤ z.length ∧ k ≤ 3000 ∧ s9 = .int .i64 k ∧ v = .slice A k c ∧ Hid (x.Is p (bkW now (filA now z k) (-1))) ∧ Hid (St w0 wr (ob64 (.slice A k c) (filA now z k) :: obWh x :: Γ))) (fun _ s9 _ => 3000 - (intOf s9).toNat)
  case atStart => exact ⟨0, x, none, 0, Nat.zero_le _, Nat.zero_le _, rfl, rfl, HX, HS⟩
  case round =>
    clear HX HS
    obtain ⟨k, x, A, c, hk, hk3, rfl, rfl, HX, HS⟩ := hrel
    have hk0 : (0 : Int) ≤ (k : Int) := by omega
    by_cases hkz : k < z.length ∧ k < 3000
    · have hkt : (k : Int) < (z.length : Int) := by omega
      have hkt3 : (k : Int) < 3000 := by omega
      obtain ⟨ad, rfl, hT⟩ := HA.out k hkz.1
      obtain ⟨y0, _⟩ := hT.below HS.out.bl
      have hsucc := filA_succ now z hkz.1
      have hfl := filA_len now z hk
      have hrng := addAt_rng hn0 hn1 (z.getD k zTm)
      have hwi := wi_rng (z.getD k zTm).far
      have hdef : addAt now (z.getD k zTm) = if 1099511627776 < now + wi (z.getD k zTm).far then 1099511627776 else now + wi (z.getD k zTm).far := rfl
      obtain ⟨q1, q2, q3⟩ := fil_add (FilI.filA hn0 hn1 hk hk3 (z := z)) hrng.1 hrng.2
      rw [← hsucc, hfl] at q3
      rw [hfl] at q1
      have HQ := Lib.hid (And.intro q1 (And.intro q2 q3))
      have HSU := Lib.hid hsucc
      have HFL := Lib.hid hfl
      have hb3 : (filA now z k).length + 1 ≤ 3000 := by omega
      have HB3 : Hid (True → ((filA now z k).length + 1) * 8 ≤ 140737488355328) := Lib.hid fun _ => (by omega)
      clear q1 q2 q3 hsucc hfl hb3 hT
      generalize addAt now (z.getD k zTm) = t at *
      generalize (z.getD k zTm).far = far at *
      obtain ⟨wf, hwf⟩ : ∃ wf, wi far = wf := ⟨_, rfl⟩
      have HWI : Hid (∀ W, Calls Try.prog 10 #[.int .i64 far] W fun e w' => e = .returned (.int .i64 wf) ∧ w' = W) := Lib.hid fun W => by rw [← hwf]; exact HW1.out W far
      rw [hwf] at hwi hdef
      have HLS : Hid (True → (bkW now (filA now z k) (-1)).last < 4000000000000000000) := Lib.hid fun _ => (by show ((filA now z k).length : Int) < _; rw [HFL.out]; omega)
      clear hwf
      obtain ⟨hw0, hw1⟩ := hwi
      obtain ⟨ht0, ht1⟩ := hrng
      clear ht0 ht1
      by_cases hbig : 1099511627776 < now + wf
      · rw [if_pos hbig] at hdef
        have HT := Lib.hid hdef
        clear hdef
        have HQ2 := Lib.hid (show addR (bkW now (filA now z k) (-1)) 1099511627776 = (k : Int) + 1 by rw [← HT.out]; exact HQ.out.1)
        have HQ3 := Lib.hid (show addE (bkW now (filA now z k) (-1)) 1099511627776 = 0 by rw [← HT.out]; exact HQ.out.2.1)
        have HQ4 := Lib.hid (show addS (bkW now (filA now z k) (-1)) 1099511627776 (7 * (k : Int)) = bkW now (filA now z (k + 1)) (-1) by rw [← HT.out]; exact HQ.out.2.2)
        clear HQ
        go_wp2_with (first
          | (go_at_call 10; refine (HWI.out _).mono ?_; rintro e w2 ⟨rfl, rfl⟩; dsimp only)
          | (go_at_call 12; refine (c_add HS.out 1 rfl HX.out (HLS.out trivial) 1099511627776 (7 * (k : Int)) HQ2.out HQ3.out HQ4.out).mono ?_; rintro e w4 ⟨x4, rfl, hx, hs⟩; have HX4 := Lib.hid hx; have HS4 : Hid (St w0 w4 (ob64 (.slice A k c) (filA now z k) :: obWh x4 :: Γ)) := Lib.hid hs; clear hx hs)
          | (at_builtin; go_must (refine wpList_append_St kI HS4.out 0 rfl rfl (.tmp 61) (.tmp 63) 28 (.int .i64 0) 8 rfl Try.underlying28 info64 rfl (by decide) (by decide) 1099511627776 [.int .i64 1099511627776] rfl rfl rfl (HB3.out trivial) ?_; intro v1 w9 HG HS9; rw [HFL.out] at HG; obtain ⟨X1, c1x, rfl⟩ := HG.out.slice; have HS5 : Hid (St w0 w9 (ob64 (.slice (some X1) (k + 1) c1x) (filA now z (k + 1)) :: obWh x4 :: Γ)) := Lib.hid (by rw [HSU.out, HT.out]; exact HS9.out); clear HG HS9 HS4)))
        go_roundw
        case rel => exact ⟨k + 1, x4, some X1, c1x, by omega, by omega, by go_num, rfl, HX4, HS5⟩
        case measure => simp [intOf]; omega
      · rw [if_neg hbig] at hdef
        have HT := Lib.hid hdef
        have hle : now + wf < 1099511627777 := by omega
        clear hbig
        clear hdef
        have HQ2 := Lib.hid (show addR (bkW now (filA now z k) (-1)) (now + wf) = (k : Int) + 1 by rw [← HT.out]; exact HQ.out.1)
        have HQ3 := Lib.hid (show addE (bkW now (filA now z k) (-1)) (now + wf) = 0 by rw [← HT.out]; exact HQ.out.2.1)
        have HQ4 := Lib.hid (show addS (bkW now (filA now z k) (-1)) (now + wf) (7 * (k : Int)) = bkW now (filA now z (k + 1)) (-1) by rw [← HT.out]; exact HQ.out.2.2)
        clear HQ
        go_wp2_with (first
          | (go_at_call 10; refine (HWI.out _).mono ?_; rintro e w2 ⟨rfl, rfl⟩; dsimp only)
          | (go_at_call 12; refine (c_add HS.out 1 rfl HX.out (HLS.out trivial) (now + wf) (7 * (k : Int)) HQ2.out HQ3.out HQ4.out).mono ?_; rintro e w4 ⟨x4, rfl, hx, hs⟩; have HX4 := Lib.hid hx; have HS4 : Hid (St w0 w4 (ob64 (.slice A k c) (filA now z k) :: obWh x4 :: Γ)) := Lib.hid hs; clear hx hs)
          | (at_builtin; go_must (refine wpList_append_St kI HS4.out 0 rfl rfl (.tmp 61) (.tmp 63) 28 (.int .i64 0) 8 rfl Try.underlying28 info64 rfl (by decide) (by decide) (now + wf) [.int .i64 (now + wf)] rfl rfl rfl (HB3.out trivial) ?_; intro v1 w9 HG HS9; rw [HFL.out] at HG; obtain ⟨X1, c1x, rfl⟩ := HG.out.slice; have HS5 : Hid (St w0 w9 (ob64 (.slice (some X1) (k + 1) c1x) (filA now z (k + 1)) :: obWh x4 :: Γ)) := Lib.hid (by rw [HSU.out, HT.out]; exact HS9.out); clear HG HS9 HS4)))
        go_roundw
        case rel => exact ⟨k + 1, x4, some X1, c1x, by omega, by omega, by go_num, rfl, HX4, HS5⟩
        case measure => simp [intOf]; omega
    · have hkm : k = tmN z := by unfold tmN; omega
      have hfl := filA_len now z hk
      have HI0 := Lib.hid (FilI.filA hn0 hn1 hk hk3 (z := z))
      have HGE : Hid (∀ i, i < k → 0 ≤ (filA now z k).getD i 0) := Lib.hid fun i hi => by have := (filA_ge hn0 hn1 (z := z) (k := k) i (by omega)); omega
      have HFT : Hid (filT now z = cutA z (filA now z k) k) := Lib.hid (by unfold filT; rw [← hkm])
      have HST0 : Hid (St w0 wr (ob64 (.slice A k c) (cutA z (filA now z k) 0) :: obWh x :: Γ)) := HS
      have HX0 : Hid (x.Is p (bkW now (cutA z (filA now z k) 0) (-1))) := HX
      clear hkm HS HX
      generalize filA now z k = L at *
      have HFL := Lib.hid hfl
      clear hfl
      by_cases hkl : k < z.length
      · have hk3t : ¬ (k : Int) < 3000 := by omega
        have hklz : (k : Int) < (z.length : Int) := by omega
        go_wp2_with fail
        go_loopw [13] (fun s13 wr => ∃ (j : Nat) (x : WSt), j ≤ k ∧ s13 = .int .i64 j ∧ Hid (x.Is p (bkW now (cutA z L j) (-1))) ∧ Hid (St w0 wr (ob64 (.slice A k c) (cutA z L j) :: obWh x :: Γ))) (fun s13 _ => k - (intOf s13).toNat)
        case atStart => exact ⟨0, x, Nat.zero_le _, rfl, HX0, HST0⟩
        case round =>
          clear HX0 HST0
          obtain ⟨j, x, hj, rfl, HX, HS⟩ := hrel
          have hj0 : (0 : Int) ≤ (j : Int) := by omega
          by_cases hjk : j < k
          · have hjz : (j : Int) < (k : Int) := by omega
            obtain ⟨ad, rfl, hT⟩ := HA.out j (by omega)
            obtain ⟨_, y1⟩ := hT.below HS.out.bl
            have hjl : j < (cutA z L j).length := by rw [cutA_len, HFL.out]; exact hjk
            have hlk : (cutA z L j).length = k := by rw [cutA_len, HFL.out]
            obtain ⟨g, ⟨c9, e1⟩, y2⟩ := RI_at (show kI.R _ _ _ _ _ _ from HS.out.get 0 rfl) j (cutA z L j)[j] (List.getElem?_eq_getElem hjl)
            injection e1 with e1 e2 e3
            subst e1
            have hkeep : 0 ≤ (cutA z L j).getD j 0 := by rw [cutA_keep z L j (by rw [HFL.out]; omega) j (Nat.le_refl _)]; exact HGE.out j hjk
            have hf1 := fil_find (now := now) hjl
            rw [decide_eq_true (by omega)] at hf1
            have hf2 := fil_cut (now := now) hjl
            have hf3 := fil_cut2 (now := now) hjl
            have hsucc : cutA z L (j + 1) = if (z.getD j zTm).can then (cutA z L j).set j (-1) else cutA z L j := rfl
            have HF1 := Lib.hid (And.intro hf1 (And.intro hf2 hf3))
            clear hf1 hf2 hf3 hkeep hT e2 e3 y2
            cases hcan : (z.getD j zTm).can with
            | false =>
              rw [hcan] at y1 hsucc
              have HSU := Lib.hid (hsucc.trans (if_neg (by decide)))
              clear hsucc hcan
              go_wp2_with fail
              go_roundw
              case rel => exact ⟨j + 1, x, by omega, by go_num, by rw [HSU.out]; exact HX, by rw [HSU.out]; exact HS⟩
              case measure => simp [intOf]; omega
            | true =>
              rw [hcan] at y1 hsucc
              have HSU := Lib.hid (hsucc.trans (if_pos rfl))
              clear hsucc hcan
              go_wp2_with (first
                | (refine gate_ (.store 2 (.tmp 89) (.const (.int .i64 (-1)))) rfl ?_; go_must (refine wpList_store_St kI HS3.out 0 rfl rfl rfl 2 (.tmp 89) (.const (.int .i64 (-1))) rfl (j : Int) hj0 hjz (-1) (.int .i64 (-1)) [.int .i64 (-1)] ?h1 rfl rfl siz64 rfl rfl ?_))
                | (go_at_call 16; refine (c_cancel HS2.out 1 rfl HX2.out _ HF1.out.2.2.1 HF1.out.2.2.2).mono ?_; rintro e w6 ⟨x3, rfl, hx, hs⟩; have HX3 := Lib.hid hx; have HS3 : Hid (St w0 w6 (ob64 (.slice (some ⟨g, 0, none⟩) k c) (cutA z L j) :: obWh x3 :: Γ)) := Lib.hid hs; clear hx hs)
                | (go_at_call 16; refine (c_cancel HS.out 1 rfl HX.out _ HF1.out.1 HF1.out.2.1).mono ?_; rintro e w5 ⟨x2, rfl, hx, hs⟩; have HX2 := Lib.hid hx; have HS2 : Hid (St w0 w5 (ob64 (.slice (some ⟨g, 0, none⟩) k c) (cutA z L j) :: obWh x2 :: Γ)) := Lib.hid hs; clear hx hs))
              case h1 => (show _ = Value.pointer (some ⟨g, j * 1, none⟩)); rw [Nat.mul_one]; rfl
              intro w9 HS9
              have HS8 : Hid (St w0 w9 (ob64 (.slice (some ⟨g, 0, none⟩) k c) (cutA z L (j + 1)) :: obWh x3 :: Γ)) := Lib.hid (by rw [HSU.out]; exact HS9.out)
              clear HS9 HS3
              go_wp2_with fail
              go_roundw
              case rel => exact ⟨j + 1, x3, by omega, by go_num, by rw [HSU.out]; exact HX3, HS8⟩
              case measure => simp [intOf]; omega
          · obtain rfl : j = k := by omega
            have hjz : ¬ (j : Int) < (j : Int) := by omega
            go_wp2_with fail
            go_ret2
            have hl : (filT now z).length = j := by rw [HFT.out, cutA_len, HFL.out]
            refine ⟨p, x, A, c, by rw [hl]; rfl, by rw [HFT.out]; exact HX.out, ?_⟩
            rw [hl, HFT.out]
            exact HS.out
      · have hklz : ¬ (k : Int) < (z.length : Int) := by omega
        go_wp2_with fail
        go_loopw [13] (fun s13 wr => ∃ (j : Nat) (x : WSt), j ≤ k ∧ s13 = .int .i64 j ∧ Hid (x.Is p (bkW now (cutA z L j) (-1))) ∧ Hid (St w0 wr (ob64 (.slice A k c) (cutA z L j) :: obWh x :: Γ))) (fun s13 _ => k - (intOf s13).toNat)
        case atStart => exact ⟨0, x, Nat.zero_le _, rfl, HX0, HST0⟩
        case round =>
          clear HX0 HST0
          obtain ⟨j, x, hj, rfl, HX, HS⟩ := hrel
          have hj0 : (0 : Int) ≤ (j : Int) := by omega
          by_cases hjk : j < k
          · have hjz : (j : Int) < (k : Int) := by omega
            obtain ⟨ad, rfl, hT⟩ := HA.out j (by omega)
            obtain ⟨_, y1⟩ := hT.below HS.out.bl
            have hjl : j < (cutA z L j).length := by rw [cutA_len, HFL.out]; exact hjk
            have hlk : (cutA z L j).length = k := by rw [cutA_len, HFL.out]
            obtain ⟨g, ⟨c9, e1⟩, y2⟩ := RI_at (show kI.R _ _ _ _ _ _ from HS.out.get 0 rfl) j (cutA z L j)[j] (List.getElem?_eq_getElem hjl)
            injection e1 with e1 e2 e3
            subst e1
            have hkeep : 0 ≤ (cutA z L j).getD j 0 := by rw [cutA_keep z L j (by rw [HFL.out]; omega) j (Nat.le_refl _)]; exact HGE.out j hjk
            have hf1 := fil_find (now := now) hjl
            rw [decide_eq_true (by omega)] at hf1
            have hf2 := fil_cut (now := now) hjl
            have hf3 := fil_cut2 (now := now) hjl
            have hsucc : cutA z L (j + 1) = if (z.getD j zTm).can then (cutA z L j).set j (-1) else cutA z L j := rfl
            have HF1 := Lib.hid (And.intro hf1 (And.intro hf2 hf3))
            clear hf1 hf2 hf3 hkeep hT e2 e3 y2
            cases hcan : (z.getD j zTm).can with
            | false =>
              rw [hcan] at y1 hsucc
              have HSU := Lib.hid (hsucc.trans (if_neg (by decide)))
              clear hsucc hcan
              go_wp2_with fail
              go_roundw
              case rel => exact ⟨j + 1, x, by omega, by go_num, by rw [HSU.out]; exact HX, by rw [HSU.out]; exact HS⟩
              case measure => simp [intOf]; omega
            | true =>
              rw [hcan] at y1 hsucc
              have HSU := Lib.hid (hsucc.trans (if_pos rfl))
              clear hsucc hcan
              go_wp2_with (first
                | (refine gate_ (.store 2 (.tmp 89) (.const (.int .i64 (-1)))) rfl ?_; go_must (refine wpList_store_St kI HS3.out 0 rfl rfl rfl 2 (.tmp 89) (.const (.int .i64 (-1))) rfl (j : Int) hj0 hjz (-1) (.int .i64 (-1)) [.int .i64 (-1)] ?h1 rfl rfl siz64 rfl rfl ?_))
                | (go_at_call 16; refine (c_cancel HS2.out 1 rfl HX2.out _ HF1.out.2.2.1 HF1.out.2.2.2).mono ?_; rintro e w6 ⟨x3, rfl, hx, hs⟩; have HX3 := Lib.hid hx; have HS3 : Hid (St w0 w6 (ob64 (.slice (some ⟨g, 0, none⟩) k c) (cutA z L j) :: obWh x3 :: Γ)) := Lib.hid hs; clear hx hs)
                | (go_at_call 16; refine (c_cancel HS.out 1 rfl HX.out _ HF1.out.1 HF1.out.2.1).mono ?_; rintro e w5 ⟨x2, rfl, hx, hs⟩; have HX2 := Lib.hid hx; have HS2 : Hid (St w0 w5 (ob64 (.slice (some ⟨g, 0, none⟩) k c) (cutA z L j) :: obWh x2 :: Γ)) := Lib.hid hs; clear hx hs))
              case h1 => (show _ = Value.pointer (some ⟨g, j * 1, none⟩)); rw [Nat.mul_one]; rfl
              intro w9 HS9
              have HS8 : Hid (St w0 w9 (ob64 (.slice (some ⟨g, 0, none⟩) k c) (cutA z L (j + 1)) :: obWh x3 :: Γ)) := Lib.hid (by rw [HSU.out]; exact HS9.out)
              clear HS9 HS3
              go_wp2_with fail
              go_roundw
              case rel => exact ⟨j + 1, x3, by omega, by go_num, by rw [HSU.out]; exact HX3, HS8⟩
              case measure => simp [intOf]; omega
          · obtain rfl : j = k := by omega
            have hjz : ¬ (j : Int) < (j : Int) := by omega
            go_wp2_with fail
            go_ret2
            have hl : (filT now z).length = j := by rw [HFT.out, cutA_len, HFL.out]
            refine ⟨p, x, A, c, by rw [hl]; rfl, by rw [HFT.out]; exact HX.out, ?_⟩
            rw [hl, HFT.out]
            exact HS.out
end Go.Proofs.Ytadhceoaoopcjaa.SL
