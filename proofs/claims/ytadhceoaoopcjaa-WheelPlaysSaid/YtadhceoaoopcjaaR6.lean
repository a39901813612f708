/- The reference's Cancel. No condition but sizes. -/
import Derived.Test.YtadhceoaoopcjaaR5
namespace Go.Proofs.Ytadhceoaoopcjaa.SL
open Go.RowKit Go.Proofs.YtadhceoaoopcjaaW.PrintWords Go.Proofs.YtadhceoaoopcjaaW.PrintLast Go.Proofs.YtadhceoaoopcjaaW.PrintMore
/-- Behind a call the reference at p is s. -/
def RAt (w0 : World) (Δ : List Ob) (p : Nat) (s : Wh) (w' : World) : Prop := ∃ x : RSt, x.p = p ∧ x.s = s ∧ St w0 w' (x.G ++ Δ)
theorem cut_erase : ∀ {L : List Du} {k : Nat} (hk : k < L.length), (L.map (·.id)).Nodup → L.filter (notId L[k].id) = L.eraseIdx k
  | d :: L, 0, _, hn => by
    rw [List.map_cons, List.nodup_cons] at hn
    rw [List.eraseIdx_cons_zero, List.filter_cons_of_neg (by unfold notId; simp), List.filter_eq_self]
    intro u hu
    unfold notId
    have : u.id ≠ d.id := fun e => hn.1 (List.mem_map.2 ⟨u, hu, e⟩)
    simpa using this
  | d :: L, k + 1, hk, hn => by
    rw [List.map_cons, List.nodup_cons] at hn
    have hk' : k < L.length := by simpa using hk
    rw [List.eraseIdx_cons_succ, List.getElem_cons_succ, List.filter_cons_of_pos, cut_erase hk' hn.2]
    unfold notId
    have : d.id ≠ L[k].id := fun e => hn.1 (List.mem_map.2 ⟨L[k], List.getElem_mem hk', e.symm⟩)
    simpa using this
theorem cut_miss {s : Wh} {id : Int} (h : findW s id = none) : cutW s id = s := by
  unfold cutW
  rw [List.filter_eq_self.2 fun d hd => ?_]
  have := findW_none h d hd
  unfold notId
  simpa using this
section
variable {w0 w : World} {Γ Δ : List Ob}
/-- The list's header is written anew, the list before it is dropped. -/
theorem rf_list {p : Nat} {v : Value} {s : Wh} {l' : List Du} {B : Option Addr} {c' : Nat} {o : Ob} (h : St w0 w (obTi (.slice B l'.length c') l' :: obB p (rfV s v) 82 :: o :: Δ)) :
    St w0 (w.setCell ⟨p, 2, none⟩ (.slice B l'.length c')) (RSt.G ⟨p, B, c', { s with L := l' }⟩ ++ Δ) := by
  have h1 := h.setB 1 rfl 2 (.slice B l'.length c')
  have h2 : St w0 (w.setCell ⟨p, 2, none⟩ (.slice B l'.length c')) (obTi (.slice B l'.length c') l' :: obB p (rfV s (.slice B l'.length c')) 82 :: o :: Δ) := h1
  have h3 : St w0 (w.setCell ⟨p, 2, none⟩ (.slice B l'.length c')) (obB p (rfV s (.slice B l'.length c')) 82 :: obTi (.slice B l'.length c') l' :: o :: Δ) := h2.perm (List.Perm.swap _ _ _)
  exact h3.sub (List.Sublist.cons_cons _ (List.Sublist.cons_cons _ (List.sublist_cons_self _ _)))
set_option maxHeartbeats 4000000 in
theorem rcancel_raw (x : RSt) (hk : WOk x.s) (h : St w0 w (x.G ++ Δ)) (id : Int) : Calls Try.prog 38 #[.pointer (some ⟨x.p, 0, none⟩), .int .i64 id] w fun e w' => e = .returned (.bool (findW x.s id).isSome) ∧ RAt w0 Δ x.p (cutW x.s id) w' := by
  obtain ⟨p, A, c, s⟩ := x
  have c2 : w.cell? ⟨p, 2, none⟩ = some (.slice A s.L.length c) := (RSt.cells h).2.2
  have HK := Lib.hid hk
  have H := Lib.hid h
  have hl : s.L.length ≤ 4096 := hk.len
  obtain ⟨L, hL⟩ : ∃ L, s.L = L := ⟨_, rfl⟩
  have HL := Lib.hid hL
  rw [hL] at c2 hl
  have HRET : Hid (∀ r w', r = (findW s id).isSome → RAt w0 Δ p (cutW s id) w' → (Ending.returned (.bool r) = .returned (.bool (findW s id).isSome) ∧ RAt w0 Δ p (cutW s id) w')) := Lib.hid fun r w' h1 h2 => ⟨by rw [h1], h2⟩
  show Calls Try.prog _ #[.pointer (some ⟨p, 0, none⟩), .int .i64 id] w fun e w' => e = .returned (.bool (findW s id).isSome) ∧ RAt w0 Δ p (cutW s id) w'
  clear h hk hL
  go_enter Try.func38, Try.ntmps38
  go_wp2
  go_loop [5] (fun s6 => ∃ k : Nat, k ≤ L.length ∧ s6 = .int .i64 k ∧ Hid (∀ j y, j < k → L[j]? = some y → y.id ≠ id)) (fun s6 => L.length - (intOf s6).toNat)
  case atStart => exact ⟨0, Nat.zero_le _, rfl, Lib.hid fun j y hj => absurd hj (Nat.not_lt_zero _)⟩
  case round =>
    obtain ⟨k, hkl, rfl, HN⟩ := hrel
    have hk0 : (0 : Int) ≤ (k : Int) := by omega
    by_cases hkt : k < L.length
    · have hkz : (k : Int) < (L.length : Int) := by omega
      have HY : Hid (L[k]? = some L[k]) := Lib.hid (List.getElem?_eq_getElem hkt)
      obtain ⟨g, rfl, y0, y1, y2⟩ := H.out.cellT 1 rfl k L[k] (by rw [HL.out]; exact HY.out)
      have HM : Hid (L[k] ∈ L) := Lib.hid (List.getElem_mem hkt)
      have HCE : Hid (L.filter (notId L[k].id) = L.eraseIdx k) := Lib.hid (cut_erase hkt (by rw [← HL.out]; exact HK.out.nodup))
      generalize L[k] = y at *
      by_cases he : y.id = id
      · have hb : (y.id == id) = true := by simpa using he
        have HS : Hid ((findW s id).isSome = true) := Lib.hid (by rw [← he, find_hit HK.out (by rw [HL.out]; exact HM.out)]; rfl)
        have HCW : Hid (cutW s id = { s with L := L.eraseIdx k }) := Lib.hid (by
          rw [← he, ← HCE.out, ← HL.out]
          rfl)
        have HWO := Lib.hid (without_raw (A := some ⟨g, 0, none⟩) (c := c) (l := L) H.out 1 (by rw [← HL.out]; rfl) hl k hkt)
        clear he
        go_wp2_with (go_at_call 51; refine HWO.out.mono ?_; rintro e w2 ⟨B, c', rfl, hs⟩; have c9 := hs.cellB 1 rfl 2 rfl; have HS2 : Hid (St w0 w2 (obTi (.slice B (L.eraseIdx k).length c') (L.eraseIdx k) :: obB p (rfV s (.slice (some ⟨g, 0, none⟩) s.L.length c)) 82 :: obTi (.slice (some ⟨g, 0, none⟩) s.L.length c) s.L :: Δ)) := Lib.hid hs; have e9 := hs.freeB 1 rfl 2; clear hs)
        go_ret
        exact HRET.out _ _ HS.out.symm ⟨⟨p, B, c', { s with L := L.eraseIdx k }⟩, rfl, HCW.out.symm, rf_list HS2.out⟩
      · have hb : (y.id == id) = false := by simpa using he
        have HE := Lib.hid he
        clear he
        go_wp2
        go_round
        case rel => exact ⟨k + 1, by omega, by go_num, Lib.hid fun j u hj hu => by
          rcases Nat.lt_or_eq_of_le (Nat.le_of_lt_succ hj) with h1 | rfl
          · exact HN.out j u h1 hu
          · obtain rfl : y = u := Option.some.inj (HY.out.symm.trans hu)
            exact HE.out⟩
        case measure => simp [intOf]; omega
    · obtain rfl : k = L.length := by omega
      have hkz : ¬ (L.length : Int) < (L.length : Int) := by omega
      have hfind : findW s id = none := by
        refine find_none fun d hd e => ?_
        rw [HL.out] at hd
        obtain ⟨j, hj, rfl⟩ := List.getElem_of_mem hd
        exact HN.out j _ hj (List.getElem?_eq_getElem hj) e
      have HF := Lib.hid hfind
      clear hfind
      go_wp2
      go_ret
      exact HRET.out _ _ (by rw [HF.out]; rfl) ⟨⟨p, A, c, s⟩, rfl, by rw [cut_miss HF.out], H.out⟩
end
end Go.Proofs.Ytadhceoaoopcjaa.SL
