/- The reference wheel's calls as a law meets them: over the objects that it holds. No condition but sizes. -/
import Derived.Test.YtadhceoaoopcjaaR8
namespace Go.Proofs.Ytadhceoaoopcjaa.SL
open Go.RowKit Go.Proofs.YtadhceoaoopcjaaW.PrintWords Go.Proofs.YtadhceoaoopcjaaW.PrintLast Go.Proofs.YtadhceoaoopcjaaW.PrintMore
section
variable {w0 w : World} {Γ : List Ob} {p : Nat} {s : Wh} {y : RSt}
theorem r_new (h : St w0 w Γ) (now : Int) (h1 : 0 ≤ now) (h2 : now ≤ 1099511627776) : Calls Try.prog 20 #[.int .i64 now] w fun e w' => ∃ p y, e = .returned (.tuple #[.pointer (some ⟨p, 0, none⟩), .int .i64 0]) ∧ RSt.Is y p ⟨now, 0, []⟩ ∧ St w0 w' (obRf y :: Γ) :=
  (rnew_raw h now h1 h2).mono fun _ _ ⟨p, he, hs⟩ => ⟨p, _, he, ⟨rfl, rfl⟩, hs.grp⟩
theorem r_new_bad (h : St w0 w Γ) (now : Int) (h1 : now < 0 ∨ 1099511627776 < now) : Calls Try.prog 20 #[.int .i64 now] w fun e w' => e = .returned (.tuple #[.pointer none, .int .i64 1]) ∧ St w0 w' Γ :=
  (rnew_bad now h1 w).mono fun _ _ ⟨he, hw⟩ => ⟨he, by rw [hw]; exact h⟩
theorem RAt.back {w' : World} {i : Nat} {s' : Wh} (hi : Γ[i]? = some (obRf y)) (h : RAt w0 (Γ.eraseIdx i) p s' w') : ∃ y', RSt.Is y' p s' ∧ St w0 w' (Γ.set i (obRf y')) := by
  obtain ⟨y', h1, h3, h4⟩ := h
  exact ⟨y', ⟨h1, h3⟩, St.unfocus hi h4⟩
theorem r_add (h : St w0 w Γ) (i : Nat) (hi : Γ[i]? = some (obRf y)) (hy : y.Is p s) (hk : WOk s) (hl : s.last < 4000000000000000000) (t v : Int) {r e' : Int} {s' : Wh} (h1 : addR s t = r) (h2 : addE s t = e') (h3 : addS s t v = s') :
    Calls Try.prog 37 #[.pointer (some ⟨p, 0, none⟩), .int .i64 t, .int .i64 v] w fun e w' => ∃ y', e = .returned (.tuple #[.int .i64 r, .int .i64 e']) ∧ RSt.Is y' p s' ∧ St w0 w' (Γ.set i (obRf y')) := by
  obtain ⟨rfl, rfl⟩ := hy
  subst h1 h2 h3
  refine (radd_raw y hk hl (h.focus hi) t v).mono fun e w' ⟨he, hw⟩ => ?_
  obtain ⟨y', q1, q2⟩ := hw.back hi
  exact ⟨y', he, q1, q2⟩
theorem r_cancel (h : St w0 w Γ) (i : Nat) (hi : Γ[i]? = some (obRf y)) (hy : y.Is p s) (hk : WOk s) (id : Int) {r : Bool} {s' : Wh} (h1 : (findW s id).isSome = r) (h2 : cutW s id = s') :
    Calls Try.prog 38 #[.pointer (some ⟨p, 0, none⟩), .int .i64 id] w fun e w' => ∃ y', e = .returned (.bool r) ∧ RSt.Is y' p s' ∧ St w0 w' (Γ.set i (obRf y')) := by
  obtain ⟨rfl, rfl⟩ := hy
  subst h1 h2
  refine (rcancel_raw y hk (h.focus hi) id).mono fun e w' ⟨he, hw⟩ => ?_
  obtain ⟨y', q1, q2⟩ := hw.back hi
  exact ⟨y', he, q1, q2⟩
theorem r_adv (h : St w0 w Γ) (i : Nat) (hi : Γ[i]? = some (obRf y)) (hy : y.Is p s) (hk : WOk s) (tk : Int) {l : List Du} {e' : Int} {s' : Wh} (h1 : dueL s tk = l) (h2 : advE s tk = e') (h3 : advS s tk = s') :
    Calls Try.prog 39 #[.pointer (some ⟨p, 0, none⟩), .int .i64 tk] w fun e w' => ∃ A c y', e = .returned (.tuple #[.slice A l.length c, .int .i64 e']) ∧ RSt.Is y' p s' ∧ St w0 w' (obTi (.slice A l.length c) l :: Γ.set i (obRf y')) := by
  obtain ⟨rfl, rfl⟩ := hy
  subst h1 h2 h3
  have key : Calls Try.prog 39 #[.pointer (some ⟨y.p, 0, none⟩), .int .i64 tk] w (RAdvP w0 (Γ.eraseIdx i) y.p y.s tk) := by
    by_cases hb : tk < y.s.now ∨ 1099511627776 < tk
    · exact radv_bad y (h.focus hi) tk hb
    · exact radv_good y hk (h.focus hi) tk (by omega) (by omega)
  refine key.mono fun e w' ⟨A, c, he, y', q1, q3, q4⟩ => ⟨A, c, y', he, ⟨q1, q3⟩, ?_⟩
  have h5 : St w0 w' (obTi (.slice A (dueL y.s tk).length c) (dueL y.s tk) :: (y'.G ++ Γ.eraseIdx i)) := q4.perm List.perm_middle.symm
  have h6 := (h5.perm List.perm_middle).grp
  have h7 : St w0 w' (obTi (.slice A (dueL y.s tk).length c) (dueL y.s tk) :: (obRf y' :: Γ.eraseIdx i)) := h6.perm (List.Perm.swap _ _ _)
  exact h7.perm (List.Perm.cons _ (perm_in hi))
theorem r_next (h : St w0 w Γ) (i : Nat) (hi : Γ[i]? = some (obRf y)) (hy : y.Is p s) (hk : WOk s) {r : Int} {is : Bool} (h1 : nextS s = (r, is)) :
    Calls Try.prog 41 #[.pointer (some ⟨p, 0, none⟩)] w fun e w' => e = .returned (.tuple #[.int .i64 r, .bool is]) ∧ St w0 w' Γ := by
  obtain ⟨rfl, rfl⟩ := hy
  exact (rnext_raw y hk (h.focus hi) h1).mono fun e w' ⟨he, hw⟩ => ⟨he, h.below hw⟩
theorem r_at (h : St w0 w Γ) (i : Nat) (hi : Γ[i]? = some (obRf y)) (hy : y.Is p s) (hk : WOk s) (id : Int) {r : Int} {is : Bool} (h1 : ((findW s id).map (·.t)).getD 0 = r) (h2 : (findW s id).isSome = is) :
    Calls Try.prog 42 #[.pointer (some ⟨p, 0, none⟩), .int .i64 id] w fun e w' => e = .returned (.tuple #[.int .i64 r, .bool is]) ∧ w' = w := by
  obtain ⟨rfl, rfl⟩ := hy
  subst h1 h2
  exact rat_raw y hk (h.focus hi) id
theorem r_now (h : St w0 w Γ) (i : Nat) (hi : Γ[i]? = some (obRf y)) (hy : y.Is p s) :
    Calls Try.prog 43 #[.pointer (some ⟨p, 0, none⟩)] w fun e w' => e = .returned (.int .i64 s.now) ∧ w' = w := by
  obtain ⟨rfl, rfl⟩ := hy
  exact rnow_raw y (h.focus hi)
theorem r_len (h : St w0 w Γ) (i : Nat) (hi : Γ[i]? = some (obRf y)) (hy : y.Is p s) :
    Calls Try.prog 44 #[.pointer (some ⟨p, 0, none⟩)] w fun e w' => e = .returned (.int .i64 (s.L.length : Int)) ∧ w' = w := by
  obtain ⟨rfl, rfl⟩ := hy
  exact rlen_raw y (h.focus hi)
theorem St.cellRf (h : St w0 w Γ) (i : Nat) (hi : Γ[i]? = some (obRf y)) (hy : y.Is p s) : w.cell? ⟨p, 0, none⟩ = some (.int .i64 s.now) := by
  obtain ⟨rfl, rfl⟩ := hy
  exact (RSt.cells (h.focus hi)).1
theorem same_one {l : List Du} {A B : Option Addr} {n m c c' : Nat} {i j : Nat} (h : St w0 w Γ) (hi : Γ[i]? = some (obD (.slice A n c) l)) (hj : Γ[j]? = some (obTi (.slice B m c') l)) (k : Nat) (hk : k < l.length) :
    ∃ g g', A = some ⟨g, 0, none⟩ ∧ B = some ⟨g', 0, none⟩ ∧ w.cell? ⟨g, k * 3, none⟩ = some (.int .i64 l[k].id) ∧ w.cell? ⟨g, k * 3 + 1, none⟩ = some (.int .i64 l[k].t) ∧ w.cell? ⟨g, k * 3 + 2, none⟩ = some (.int .i64 l[k].x) ∧
      w.cell? ⟨g', k * 3, none⟩ = some (.int .i64 l[k].id) ∧ w.cell? ⟨g', k * 3 + 1, none⟩ = some (.int .i64 l[k].t) ∧ w.cell? ⟨g', k * 3 + 2, none⟩ = some (.int .i64 l[k].x) := by
  obtain ⟨g, e1, _, q1, q2, q3⟩ := h.cellD i hi k hk
  obtain ⟨g', e2, q4, q5, q6⟩ := h.cellT j hj k l[k] (List.getElem?_eq_getElem hk)
  exact ⟨g, g', e1, e2, q1, q2, q3, q4, q5, q6⟩
set_option maxHeartbeats 4000000 in
theorem c_same27 (h : St w0 w Γ) (i j : Nat) {l : List Du} {A B : Option Addr} {c c' : Nat} (hi : Γ[i]? = some (obD (.slice A l.length c) l)) (hj : Γ[j]? = some (obTi (.slice B l.length c') l)) (hl : l.length ≤ 100000) :
    Calls Try.prog 40 #[.slice A l.length c, .slice B l.length c'] w fun e w' => e = .returned (.bool true) ∧ St w0 w' Γ := by
  have HI := Lib.hid (And.intro hi hj)
  have HS := Lib.hid h
  clear h hi hj
  go_enter Try.func40, Try.ntmps40
  go_wp2
  go_loopw [5] (fun s5 wr => ∃ k : Nat, k ≤ l.length ∧ s5 = .int .i64 k ∧ Hid (St w0 wr Γ)) (fun s5 _ => l.length - (intOf s5).toNat)
  case atStart => exact ⟨0, Nat.zero_le _, rfl, HS⟩
  case round =>
    clear HS
    obtain ⟨k, hkl, rfl, HS⟩ := hrel
    have hk0 : (0 : Int) ≤ (k : Int) := by omega
    by_cases hkt : k < l.length
    · have hkz : (k : Int) < (l.length : Int) := by omega
      obtain ⟨g, g', rfl, rfl, x0, x1, x2, y0, y1, y2⟩ := same_one HS.out HI.out.1 HI.out.2 k hkt
      generalize l[k] = u at *
      have z0 : (u.id != u.id) = false := by simp
      have z1 : (u.t != u.t) = false := by simp
      have z2 : (u.x != u.x) = false := by simp
      go_wp2_with fail
      go_quiet (fail)
      go_wp2_with fail
      go_roundw
      case rel => exact ⟨k + 1, by omega, by go_num, Lib.hid (HS.out.drewN _)⟩
      case measure => simp [intOf]; omega
    · obtain rfl : k = l.length := by omega
      have hkz : ¬ (l.length : Int) < (l.length : Int) := by omega
      go_wp2_with fail
      go_ret
      exact ⟨rfl, HS.out⟩
end
end Go.Proofs.Ytadhceoaoopcjaa.SL
