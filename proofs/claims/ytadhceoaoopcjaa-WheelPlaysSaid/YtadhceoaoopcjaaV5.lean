/- A wheel's calls as a law meets them: over the objects that it holds. No condition but sizes. -/
import Derived.Test.YtadhceoaoopcjaaV4
namespace Go.Proofs.Ytadhceoaoopcjaa.SL
open Go.RowKit Go.Proofs.YtadhceoaoopcjaaW.PrintWords Go.Proofs.YtadhceoaoopcjaaW.PrintLast Go.Proofs.YtadhceoaoopcjaaW.PrintMore
/-- x is a wheel at p that is s. -/
structure WSt.Is (x : WSt) (p : Nat) (s : Wh) : Prop where
  hp : x.p = p
  ok : x.Ok
  hs : x.s = s
section
variable {w0 w : World} {Γ : List Ob} {p : Nat} {s : Wh} {x : WSt}
theorem WSt.Is.wok (h : x.Is p s) : WOk s := by rw [← h.hs]; exact h.ok.ok
theorem c_new (h : St w0 w Γ) (now : Int) (h1 : 0 ≤ now) (h2 : now ≤ 1099511627776) : Calls Try.prog 11 #[.int .i64 now] w fun e w' => ∃ p x, e = .returned (.tuple #[.pointer (some ⟨p, 0, none⟩), .int .i64 0]) ∧ WSt.Is x p ⟨now, 0, []⟩ ∧ St w0 w' (obWh x :: Γ) :=
  (new_raw h now h1 h2).mono fun _ _ ⟨p, b, he, hs⟩ => ⟨p, _, he, ⟨rfl, new_ok now ⟨h1, h2⟩ p b, rfl⟩, hs.grp⟩
theorem c_new_bad (h : St w0 w Γ) (now : Int) (h1 : now < 0 ∨ 1099511627776 < now) : Calls Try.prog 11 #[.int .i64 now] w fun e w' => e = .returned (.tuple #[.pointer none, .int .i64 1]) ∧ St w0 w' Γ :=
  (new_bad now w h1).mono fun _ _ ⟨he, hw⟩ => ⟨he, by rw [hw]; exact h⟩
theorem WAt.back {w' : World} {i : Nat} {s' : Wh} (hi : Γ[i]? = some (obWh x)) (h : WAt w0 (Γ.eraseIdx i) p s' w') : ∃ x', WSt.Is x' p s' ∧ St w0 w' (Γ.set i (obWh x')) := by
  obtain ⟨x', h1, h2, h3, h4⟩ := h
  exact ⟨x', ⟨h1, h2, h3⟩, St.unfocus hi h4⟩
theorem c_add (h : St w0 w Γ) (i : Nat) (hi : Γ[i]? = some (obWh x)) (hx : x.Is p s) (hl : s.last < 4000000000000000000) (t v : Int) {r e' : Int} {s' : Wh} (h1 : addR s t = r) (h2 : addE s t = e') (h3 : addS s t v = s') :
    Calls Try.prog 12 #[.pointer (some ⟨p, 0, none⟩), .int .i64 t, .int .i64 v] w fun e w' => ∃ x', e = .returned (.tuple #[.int .i64 r, .int .i64 e']) ∧ WSt.Is x' p s' ∧ St w0 w' (Γ.set i (obWh x')) := by
  obtain ⟨rfl, hok, rfl⟩ := hx
  subst h1 h2 h3
  refine (add_raw x hok hl (h.focus hi) t v).mono fun e w' ⟨he, hw⟩ => ?_
  obtain ⟨x', q1, q2⟩ := hw.back hi
  exact ⟨x', he, q1, q2⟩
theorem c_cancel (h : St w0 w Γ) (i : Nat) (hi : Γ[i]? = some (obWh x)) (hx : x.Is p s) (id : Int) {r : Bool} {s' : Wh} (h1 : (findW s id).isSome = r) (h2 : cutW s id = s') :
    Calls Try.prog 16 #[.pointer (some ⟨p, 0, none⟩), .int .i64 id] w fun e w' => ∃ x', e = .returned (.bool r) ∧ WSt.Is x' p s' ∧ St w0 w' (Γ.set i (obWh x')) := by
  obtain ⟨rfl, hok, rfl⟩ := hx
  subst h1 h2
  refine (cancel_raw x hok (h.focus hi) id).mono fun e w' ⟨he, hw⟩ => ?_
  obtain ⟨x', q1, q2⟩ := hw.back hi
  exact ⟨x', he, q1, q2⟩
theorem c_adv (h : St w0 w Γ) (i : Nat) (hi : Γ[i]? = some (obWh x)) (hx : x.Is p s) (tk : Int) {l : List Du} {e' : Int} {s' : Wh} (h1 : dueL s tk = l) (h2 : advE s tk = e') (h3 : advS s tk = s') :
    Calls Try.prog 14 #[.pointer (some ⟨p, 0, none⟩), .int .i64 tk] w fun e w' => ∃ A c x', e = .returned (.tuple #[.slice A l.length c, .int .i64 e']) ∧ WSt.Is x' p s' ∧ St w0 w' (obD (.slice A l.length c) l :: Γ.set i (obWh x')) := by
  obtain ⟨rfl, hok, rfl⟩ := hx
  subst h1 h2 h3
  have key : Calls Try.prog 14 #[.pointer (some ⟨x.p, 0, none⟩), .int .i64 tk] w (AdvP w0 (Γ.eraseIdx i) x.p x.s tk) := by
    by_cases hb : tk < x.s.now ∨ 1099511627776 < tk
    · exact adv_bad x hok (h.focus hi) tk hb
    · exact adv_good x hok (h.focus hi) tk (by omega) (by omega)
  refine key.mono fun e w' ⟨A, c, he, x', q1, q2, q3, q4⟩ => ⟨A, c, x', he, ⟨q1, q2, q3⟩, ?_⟩
  have h5 : St w0 w' (obD (.slice A (dueL x.s tk).length c) (dueL x.s tk) :: (x'.G ++ Γ.eraseIdx i)) := q4.perm List.perm_middle.symm
  have h6 := (h5.perm List.perm_middle).grp
  have h7 : St w0 w' (obD (.slice A (dueL x.s tk).length c) (dueL x.s tk) :: (obWh x' :: Γ.eraseIdx i)) := h6.perm (List.Perm.swap _ _ _)
  exact h7.perm (List.Perm.cons _ (perm_in hi))
theorem c_next (h : St w0 w Γ) (i : Nat) (hi : Γ[i]? = some (obWh x)) (hx : x.Is p s) {r : Int} {is : Bool} (h1 : nextS s = (r, is)) :
    Calls Try.prog 18 #[.pointer (some ⟨p, 0, none⟩)] w fun e w' => e = .returned (.tuple #[.int .i64 r, .bool is]) ∧ St w0 w' Γ := by
  obtain ⟨rfl, hok, rfl⟩ := hx
  refine (next_raw x hok (h.focus hi)).mono fun e w' ⟨he, hw⟩ => ⟨by rw [he, h1], ?_⟩
  have := St.unfocus hi hw
  have e2 : Γ.set i (obGrp x.G) = Γ := set_same hi
  rwa [e2] at this
theorem c_at (h : St w0 w Γ) (i : Nat) (hi : Γ[i]? = some (obWh x)) (hx : x.Is p s) (id : Int) {r : Int} {is : Bool} (h1 : ((findW s id).map (·.t)).getD 0 = r) (h2 : (findW s id).isSome = is) :
    Calls Try.prog 19 #[.pointer (some ⟨p, 0, none⟩), .int .i64 id] w fun e w' => e = .returned (.tuple #[.int .i64 r, .bool is]) ∧ w' = w := by
  obtain ⟨rfl, hok, rfl⟩ := hx
  have h' : St w0 w (obH x.p x.b x.s.now x.s.last x.hs :: obMp x.b (prD x.s.L) :: (fam 448 (famD x.hs x.ct) ++ Γ.eraseIdx i)) := h.focus hi
  refine (at_raw h' hok.hl id).mono fun e w' ⟨he, hw⟩ => ⟨?_, hw⟩
  rw [he, pr_look, h1, Option.isSome_map, h2]
theorem c_now (h : St w0 w Γ) (i : Nat) (hi : Γ[i]? = some (obWh x)) (hx : x.Is p s) :
    Calls Try.prog 13 #[.pointer (some ⟨p, 0, none⟩)] w fun e w' => e = .returned (.int .i64 s.now) ∧ w' = w := by
  obtain ⟨rfl, hok, rfl⟩ := hx
  have h' : St w0 w (obH x.p x.b x.s.now x.s.last x.hs :: obMp x.b (prD x.s.L) :: (fam 448 (famD x.hs x.ct) ++ Γ.eraseIdx i)) := h.focus hi
  exact now_raw h'
theorem c_len (h : St w0 w Γ) (i : Nat) (hi : Γ[i]? = some (obWh x)) (hx : x.Is p s) :
    Calls Try.prog 15 #[.pointer (some ⟨p, 0, none⟩)] w fun e w' => e = .returned (.int .i64 (s.L.length : Int)) ∧ w' = w := by
  obtain ⟨rfl, hok, rfl⟩ := hx
  have h' : St w0 w (obH x.p x.b x.s.now x.s.last x.hs :: obMp x.b (prD x.s.L) :: (fam 448 (famD x.hs x.ct) ++ Γ.eraseIdx i)) := h.focus hi
  have := len_raw h' hok.hl
  unfold prD at this
  rwa [List.length_map] at this
end
end Go.Proofs.Ytadhceoaoopcjaa.SL
