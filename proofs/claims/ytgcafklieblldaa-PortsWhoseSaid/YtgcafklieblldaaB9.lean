/- The walk of Close; the calls as objects' calls. No condition but sizes. -/
import Derived.Test.YtgcafklieblldaaB8
namespace Go.Proofs.Ytgcafklieblldaa.SL
open Go.RowKit Go.Proofs.YtgcafklieblldaaW.PrintWords Go.Proofs.YtgcafklieblldaaW.PrintLast Go.Proofs.YtgcafklieblldaaW.PrintMore
theorem Touch.toGrown {S : List Nat} {a w w' : World} {row : Option Nat} (h : Touch S a w) (hg : w.grownBy w' row) (hr : ∀ k, row = some k → k ∈ S) : Touch S a w' := h.grown hg fun k hk => .inl (hr k hk)
set_option maxHeartbeats 2000000 in
theorem close_no (p : Nat) (v : Value) (most g : Int) (l : List Bd) (n : Int) (w : World) (h : TAt w p v most g l) (hi : idxB l n < 0) :
    Calls Try.prog 11 #[.pointer (some ⟨p, 0, none⟩), .int .i64 n] w fun e w' => e = .returned (.int .i64 1) ∧ Below w.heap.size w w' := by
  have HC := Lib.hid (index_calls p v most g l n w h)
  have hd : decide (idxB l n < 0) = true := decide_eq_true hi
  generalize idxB l n = f at HC hd
  clear hi h
  go_enter Try.func11, Try.ntmps11
  go_wp2_with (go_at_call 23; refine HC.out.mono ?_; rintro e w' ⟨rfl, hb'⟩)
  go_ret
  exact ⟨rfl, hb'⟩
set_option maxHeartbeats 2000000 in
theorem close_yes (p : Nat) (v : Value) (most g : Int) (l : List Bd) (n : Int) (k : Nat) (w : World) (h : TAt w p v most g l) (hi : idxB l n = (k : Int)) :
    Calls Try.prog 11 #[.pointer (some ⟨p, 0, none⟩), .int .i64 n] w fun e w' => ∃ v', e = .returned (.int .i64 0) ∧ TAt w' p v' most g (l.eraseIdx k) ∧ Touch (p :: v.ownBlock.toList) w w' ∧ v'.ownBlock = v.ownBlock := by
  obtain ⟨x, hx, _⟩ := idxI_some hi
  have hkl := (List.getElem?_eq_some_iff.1 hx).1
  obtain ⟨m, hm⟩ : ∃ m, l.length = k + 1 + m := ⟨l.length - (k + 1), by omega⟩
  obtain ⟨gr, c, rfl, _⟩ := RB_at h.row k x hx
  have hne : gr ≠ p := fun e => h.ne (by rw [e]; rfl)
  rw [hm] at h
  have HC : Hid (Calls Try.prog 23 #[.pointer (some ⟨p, 0, none⟩), .int .i64 n] w fun e w' => e = .returned (.int .i64 (k : Int)) ∧ w'.cell? ⟨p, 2, none⟩ = some (.slice (some ⟨gr, 0, none⟩) (k + 1 + m) c) ∧ Hid (TAt w' p (.slice (some ⟨gr, 0, none⟩) (k + 1 + m) c) most g l) ∧ Hid (Below w.heap.size w w')) :=
    Lib.hid ((index_calls p _ most g l n w h).mono fun e w' hh => by
      obtain ⟨h1, h2⟩ := hh
      rw [hi] at h1
      have h3 := h.below h2
      exact ⟨h1, cell_of_row _ _ 2 _ _ _ h3.st, Lib.hid h3, Lib.hid h2⟩)
  have HD : Hid (∀ w1 : World, TAt w1 p (.slice (some ⟨gr, 0, none⟩) (k + 1 + m) c) most g l → Calls Try.prog 24 #[.slice (some ⟨gr, 0, none⟩) (k + 1 + m) c, .int .i64 k, .int .i64 (k + 1)] w1 fun e w' => e = .returned (.slice (some ⟨gr, 0, none⟩) (k + m) c) ∧ w'.cell? ⟨p, 2, none⟩ = some (.slice (some ⟨gr, 0, none⟩) (k + 1 + m) c) ∧ w'.frozen? ⟨p, 2, none⟩ = false ∧ Hid (w'.heap[p]? = some (.cells #[.int .i64 most, .int .i64 g, .slice (some ⟨gr, 0, none⟩) (k + 1 + m) c] 61 (0, 0)) ∧ RB w' 0 (.slice (some ⟨gr, 0, none⟩) (k + m) c) (l.eraseIdx k) ∧ w1.grownBy w' (some gr))) :=
    Lib.hid fun w1 h1 => (delete_calls k m gr c l w1 hm h1.row).mono fun e w' hh => by
      obtain ⟨h2, h3, h4⟩ := hh
      have h5 : w'.heap[p]? = _ := (h4.block p (lt_of_block h1.st) (by simpa using fun e => hne e.symm)).trans h1.st
      exact ⟨h2, cell_of_row _ _ 2 _ _ _ h5, blk_frozen h5 2, Lib.hid ⟨h5, h3, h4⟩⟩
  have hd : decide ((k : Int) < 0) = false := decide_eq_false (by omega)
  have hbig : k + 1 + m ≤ 9223372036854775807 := by have := (Kd.R_reads' h.row).2.2.2.1; omega
  have HN := Lib.hid hne
  have hw : IntKind.i64.wrap ((k : Int) + 1) = (k : Int) + 1 := by go_unwrap
  clear hi h hx hkl hm hne hw
  go_enter Try.func11, Try.ntmps11
  go_wp2_with (first | (go_at_call 23; refine HC.out.mono ?_; rintro e w' ⟨rfl, c2, hT, hb'⟩) | (go_at_call 24; refine (HD.out _ hT.out).mono ?_; rintro e w2 ⟨rfl, c3, f3, hh⟩))
  go_ret
  obtain ⟨h5, h3, h4⟩ := hh.out
  have hst := blk_set h5 2 (.slice (some ⟨gr, 0, none⟩) (k + m) c)
  refine ⟨_, rfl, ⟨hst, RB_same h3 fun b hb => ?_, fun e => HN.out (by simpa [Value.ownBlock] using e)⟩, ?_, rfl⟩
  · exact Below.heap_setCell _ _ _ _ (fun e => HN.out ((show gr = b from Option.some.inj hb).trans e))
  · have ht : Touch [p, gr] w w2 := (Touch.of_below hb'.out).toGrown h4 (fun j hj => by obtain rfl := Option.some.inj hj; simp)
    exact ht.setCell (.inl List.mem_cons_self) _
section
variable {w0 w : World} {Γ : List Ob} {p : Nat} {v : Value} {most g : Int} {l : List Bd}
/-- What Close leaves. -/
def closeL (l : List Bd) (n : Int) : List Bd := match l.findIdx? (fun x => decide (x.n = n)) with | some k => l.eraseIdx k | none => l
def closeE (l : List Bd) (n : Int) : Int := if idxB l n < 0 then 1 else 0
theorem closeL_yes {n : Int} {k : Nat} (h : idxB l n = (k : Int)) : closeL l n = l.eraseIdx k := by
  unfold idxB idxI at h
  unfold closeL
  cases hf : l.findIdx? (fun x => decide (x.n = n)) with
  | none => rw [hf] at h; simp only at h; omega
  | some i => rw [hf] at h; simp only at h; rw [show i = k by omega]
theorem closeL_no {n : Int} (h : idxB l n < 0) : closeL l n = l := by
  unfold idxB idxI at h
  unfold closeL
  cases hf : l.findIdx? (fun x => decide (x.n = n)) with
  | none => rfl
  | some i => rw [hf] at h; simp only at h; omega
theorem St.putT (h : St w0 w Γ) (i : Nat) (hi : Γ[i]? = some (obT p v most g l)) {w' : World} {v' : Value} {most' g' : Int} {l' : List Bd} (hT : TAt w' p v' most' g' l') (ht : Touch (p :: v.ownBlock.toList) w w')
    (hv : v'.ownBlock = v.ownBlock ∨ ∃ b, v'.ownBlock = some b ∧ w.heap.size ≤ b) : St w0 w' (Γ.set i (obT p v' most' g' l')) := by
  have key : ∀ o ∈ [obT p v' most' g' l'], ∀ b ∈ o.all, b ∈ p :: v.ownBlock.toList ∨ w.heap.size ≤ b := fun o ho b hb => by
    obtain rfl := List.mem_singleton.1 ho
    rcases List.mem_cons.1 hb with rfl | hb
    · exact .inl List.mem_cons_self
    · rcases hv with hv | ⟨b', hv, hle⟩
      · rw [hv] at hb; exact .inl (List.mem_cons_of_mem _ hb)
      · rw [hv] at hb
        obtain rfl : b = b' := by simpa using hb
        exact .inr hle
  have := h.upd i hi ht (obT p v' most' g' l') [] (fun o ho => by obtain rfl := List.mem_singleton.1 ho; exact hT) (fun o ho b hb => key o ho b (o.sub b hb)) key (List.pairwise_singleton _ _)
  rwa [List.append_nil] at this
theorem c_close (h : St w0 w Γ) (i : Nat) (hi : Γ[i]? = some (obT p v most g l)) (n : Int) :
    Calls Try.prog 11 #[.pointer (some ⟨p, 0, none⟩), .int .i64 n] w fun e w' => ∃ v', e = .returned (.int .i64 (closeE l n)) ∧ St w0 w' (Γ.set i (obT p v' most g (closeL l n))) := by
  by_cases hq : idxB l n < 0
  · refine (close_no p v most g l n w (h.get i hi) hq).mono ?_
    rintro e w' ⟨rfl, hb⟩
    refine ⟨v, by rw [closeE, if_pos hq], ?_⟩
    rw [closeL_no hq]
    have h2 := h.below hb
    have e : Γ.set i (obT p v most g l) = Γ := by
      obtain ⟨h1, h2⟩ := List.getElem?_eq_some_iff.1 hi
      rw [← h2, List.set_getElem_self]
    rw [e]; exact h2
  · obtain ⟨k, hk⟩ : ∃ k : Nat, idxB l n = k := ⟨(idxB l n).toNat, by omega⟩
    refine (close_yes p v most g l n k w (h.get i hi) hk).mono ?_
    rintro e w' ⟨v', rfl, hT, ht, hv⟩
    refine ⟨v', by rw [closeE, if_neg hq], ?_⟩
    rw [closeL_yes hk]
    exact h.putT i hi hT ht (.inl hv)
theorem c_at (h : St w0 w Γ) (i : Nat) (hi : Γ[i]? = some (obT p v most g l)) (n : Int) :
    Calls Try.prog 19 #[.pointer (some ⟨p, 0, none⟩), .int .i64 n] w fun e w' => e = .returned (.tuple #[.agg (aV (atB l n).1), .int .i64 (atB l n).2.1, .int .i64 (atB l n).2.2]) ∧ St w0 w' Γ :=
  (atN_calls p v most g l n w (h.get i hi)).mono fun _ _ ⟨he, hb⟩ => ⟨he, h.below hb⟩
theorem c_all (h : St w0 w Γ) (i : Nat) (hi : Γ[i]? = some (obT p v most g l)) (hl : l.length ≤ 1000000) :
    Calls Try.prog 12 #[.pointer (some ⟨p, 0, none⟩)] w fun e w' => ∃ A c, e = .returned (.slice A l.length c) ∧ St w0 w' (Γ ++ [obI (.slice A l.length c) (nums l)]) := by
  refine (all_calls p v most g l w (h.get i hi) hl).mono ?_
  rintro e w' ⟨u, rfl, ⟨A, c, rfl⟩, hs⟩
  exact ⟨A, c, rfl, h.add hs.bl [obI (.slice A l.length c) (nums l)] (fun o ho => by obtain rfl := List.mem_singleton.1 ho; exact hs.get 0 rfl) (fun o ho b hb => by obtain rfl := List.mem_singleton.1 ho; exact hs.base 0 _ rfl b hb) (List.pairwise_singleton _ _)⟩
theorem c_new (h : St w0 w Γ) (n : Int) (h1 : 1 ≤ n) (h2 : n ≤ 32) :
    Calls Try.prog 8 #[.int .i64 n] w fun e w' => ∃ p, e = .returned (.tuple #[.pointer (some ⟨p, 0, none⟩), .int .i64 0]) ∧ St w0 w' (Γ ++ [obT p (.slice none 0 0) n 0 []]) := by
  refine (new_calls_yes n w h1 h2).mono ?_
  rintro e w' ⟨rfl, rfl⟩
  refine ⟨_, rfl, h.add ((Touch.refl [] w).alloc _).below [obT w.heap.size (.slice none 0 0) n 0 []] (fun o ho => ?_) (fun o ho b hb => ?_) (List.pairwise_singleton _ _)⟩
  · obtain rfl := List.mem_singleton.1 ho
    exact ⟨heap_alloc_new w _, Kd.R_nil _ _ _ _ _, by simp [Value.ownBlock]⟩
  · obtain rfl := List.mem_singleton.1 ho
    have hb' : b ∈ [w.heap.size] := hb
    obtain rfl := List.mem_singleton.1 hb'
    exact Nat.le_refl _
end
end Go.Proofs.Ytgcafklieblldaa.SL
