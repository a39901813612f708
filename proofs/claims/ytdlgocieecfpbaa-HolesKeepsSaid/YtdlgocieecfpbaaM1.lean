/- Lists that are each one's own, with their headers in a list: what the walk of the statement's marked needs. No condition. -/
import Derived.Test.YtdlgocieecfpbaaTs
import Derived.Test.YtdlgocieecfpbaaV
import Derived.Test.YtdlgocieecfpbaaE
namespace Go.Proofs.Ytdlgocieecfpbaa.Q
open Go.RowKit Go.Proofs.YtdlgocieecfpbaaW.PrintWords Go.Proofs.YtdlgocieecfpbaaW.PrintLast Go.Proofs.YtdlgocieecfpbaaW.PrintMore Go.Proofs.Ytdlgocieecfpbaa.SL

theorem flatS : Flat k50 := fun w w' base ok x cs h => by
  obtain rfl := k50_open h
  exact k50_mkM w' base ok x
theorem szS : 0 < (k50).sz := by decide
abbrev Hdr := Option Addr × Nat × Nat
abbrev hv (s : Hdr) : Value := .slice s.1 s.2.1 s.2.2
def hd (hs : List Hdr) (i : Nat) : Hdr := hs.getD i (none, 0, 0)
abbrev obS (v : Value) (l : List Sp) : Ob := obW k50 50 flatS v l
abbrev obLL (v : Value) (l : List Hdr) : Ob := obW kSl 30 flatSl v l
abbrev obT (s : Hdr) (l : List Sp) (v : Value) (l2 : List Sp) : Ob := obTw k50 50 flatS szS s.1 s.2.2 l v l2
abbrev fL (hs : List Hdr) (c : Nat → List Sp) (j : Nat) : Ob := obS (hv (hd hs j)) (c j)
def mk (i : Nat) : Sp := ⟨-9, -100 - i⟩
def rep (c : Nat → List Sp) (k i : Nat) : List Sp := if i < k then List.replicate (c i).length (mk i) else c i
/-- While list k is written full. -/
def fillC (c : Nat → List Sp) (k m j : Nat) : List Sp := if j = k then filled (mk k) m (c k) else rep c k j
theorem fillC_zero (c : Nat → List Sp) (k j : Nat) : rep c k j = fillC c k 0 j := by
  unfold fillC
  by_cases h : j = k
  · subst h
    rw [if_pos rfl, rep, if_neg (by omega)]
    rfl
  · rw [if_neg h]
theorem fillC_at (c : Nat → List Sp) (k m : Nat) : fillC c k m k = filled (mk k) m (c k) := if_pos rfl
theorem fillC_step (c : Nat → List Sp) (k m m' j : Nat) : fillC c k m' j = if j = k then filled (mk k) m' (c k) else fillC c k m j := by
  unfold fillC
  by_cases h : j = k
  · rw [if_pos h, if_pos h]
  · rw [if_neg h, if_neg h, if_neg h]
theorem fillC_end (c : Nat → List Sp) (k j : Nat) : fillC c k (c k).length j = rep c (k + 1) j := by
  unfold fillC
  by_cases h : j = k
  · subst h
    rw [if_pos rfl, rep, if_pos (by omega), filled_all]
  · rw [if_neg h]
    unfold rep
    by_cases h2 : j < k
    · rw [if_pos h2, if_pos (by omega)]
    · rw [if_neg h2, if_neg (by omega)]
theorem szL : (Try.prog.info? 50).map (·.size) = some 2 := by kernel_rfl
/-- While the list's copy k is lengthened; vs: the longer ones ahead of it. -/
def twO (hs vs : List Hdr) (c : Nat → List Sp) (j : Nat) : Ob :=
  if j < vs.length then obT (hd hs j) (List.replicate (c j).length (mk j)) (hv (hd vs j)) (List.replicate ((c j).length + 80) (mk j)) else obS (hv (hd hs j)) (List.replicate (c j).length (mk j))
def twK (hs vs : List Hdr) (c : Nat → List Sp) (v : Hdr) (m j : Nat) : Ob :=
  if j = vs.length then obT (hd hs j) (List.replicate (c j).length (mk j)) (hv v) (List.replicate ((c j).length + m) (mk j)) else twO hs vs c j
theorem twO_zero (hs : List Hdr) (c : Nat → List Sp) (n j : Nat) (h : j < n) : fL hs (rep c n) j = twO hs [] c j := by
  have e : rep c n j = List.replicate (c j).length (mk j) := if_pos h
  unfold twO
  rw [if_neg (by simp)]
  show obS _ _ = obS _ _
  rw [e]
theorem twO_at (hs vs : List Hdr) (c : Nat → List Sp) : twO hs vs c vs.length = obS (hv (hd hs vs.length)) (List.replicate (c vs.length).length (mk vs.length)) := by
  unfold twO
  rw [if_neg (by omega)]
theorem twO_old (hs vs : List Hdr) (c : Nat → List Sp) (j : Nat) (h : j < vs.length) : twO hs vs c j = obT (hd hs j) (List.replicate (c j).length (mk j)) (hv (hd vs j)) (List.replicate ((c j).length + 80) (mk j)) := by
  unfold twO
  rw [if_pos h]
theorem twK_start (hs vs : List Hdr) (c : Nat → List Sp) (j : Nat) : twK hs vs c (hd hs vs.length) 0 j = if j = vs.length then obT (hd hs vs.length) (List.replicate (c vs.length).length (mk vs.length)) (hv (hd hs vs.length)) (List.replicate (c vs.length).length (mk vs.length)) else twO hs vs c j := by
  unfold twK
  by_cases h : j = vs.length
  · subst h; rfl
  · rw [if_neg h, if_neg h]
theorem twK_at (hs vs : List Hdr) (c : Nat → List Sp) (v : Hdr) (m : Nat) : twK hs vs c v m vs.length = obT (hd hs vs.length) (List.replicate (c vs.length).length (mk vs.length)) (hv v) (List.replicate ((c vs.length).length + m) (mk vs.length)) := if_pos rfl
theorem twK_step (hs vs : List Hdr) (c : Nat → List Sp) (v v' : Hdr) (m m' j : Nat) : twK hs vs c v' m' j = if j = vs.length then obT (hd hs vs.length) (List.replicate (c vs.length).length (mk vs.length)) (hv v') (List.replicate ((c vs.length).length + m') (mk vs.length)) else twK hs vs c v m j := by
  unfold twK
  by_cases h : j = vs.length
  · subst h; rw [if_pos rfl, if_pos rfl]
  · rw [if_neg h, if_neg h, if_neg h]
theorem hd_snoc (vs : List Hdr) (v : Hdr) : hd (vs ++ [v]) vs.length = v := by
  unfold hd
  simp [List.getD_eq_getElem?_getD]
theorem hd_old (vs : List Hdr) (v : Hdr) (j : Nat) (h : j < vs.length) : hd (vs ++ [v]) j = hd vs j := by
  unfold hd
  simp [List.getD_eq_getElem?_getD, List.getElem?_append_left h]
theorem twK_end (hs vs : List Hdr) (c : Nat → List Sp) (v : Hdr) (j : Nat) : twK hs vs c v 80 j = twO hs (vs ++ [v]) c j := by
  unfold twK
  by_cases h : j = vs.length
  · subst h
    rw [if_pos rfl, twO_old _ _ _ _ (by simp), hd_snoc]
  · rw [if_neg h]
    rcases Nat.lt_or_ge j vs.length with h2 | h2
    · rw [twO_old _ _ _ _ h2, twO_old _ _ _ _ (by simp; omega), hd_old _ _ _ h2]
    · unfold twO
      rw [if_neg (by omega), if_neg (by simp; omega)]
theorem rdM (x : Sp) (n m : Nat) (h : m < n) : rd_T50 (List.replicate n x) (m : Int) = x := by
  simp [rd_T50, List.getD_eq_getElem?_getD, h]
theorem cellM {w : World} {A : Option Addr} {n m : Nat} {x : Sp} (h : Kd.C k50 w A (List.replicate n x).length (List.replicate n x)) (hm : m < n) : ∃ ad, A = some ad ∧ w.cell? ⟨(ad.add (m * 2)).block, (ad.add (m * 2)).off + 1, none⟩ = some (.int .i64 x.f1) := by
  obtain ⟨ad, hA, _, h1⟩ := at_T50 h (m : Int) (by omega) (by rw [List.length_replicate]; omega)
  rw [rdM x n m hm, Int.toNat_natCast] at h1
  exact ⟨ad, hA, h1⟩
theorem infoL : (Try.prog.info? 30).map (fun i => (i.zero, i.size, i.bytes)) = some (some (.slice none 0 0), 1, 24) := by kernel_rfl
theorem cellSl {w : World} {A : Option Addr} {l : List Hdr} (h : kSl.C w A l.length l) (i : Nat) (hi : i < l.length) : ∃ ad, A = some ad ∧ w.cell? (ad.add i) = some (hv (hd l i)) := by
  obtain ⟨ad, c, hA, hc, hK, hcell⟩ := Kd.C_get h (none, 0, 0) (i : Int) (by omega) (by omega)
  have hK' : c = [hv (hd l i)] := by
    have h2 : c = [hv (l.getD (i : Int).toNat (none, 0, 0))] := hK
    rw [Int.toNat_natCast] at h2
    exact h2
  subst hK'
  have := hcell 0 _ rfl
  refine ⟨ad, hA, ?_⟩
  rw [Int.toNat_natCast] at this
  simpa [kSl, Kd.scalar] using this
end Go.Proofs.Ytdlgocieecfpbaa.Q
namespace Go.Proofs.Ytdlgocieecfpbaa.SL
open Go.RowKit Go.Proofs.YtdlgocieecfpbaaW.PrintWords Go.Proofs.YtdlgocieecfpbaaW.PrintLast Go.Proofs.YtdlgocieecfpbaaW.PrintMore Go.Proofs.Ytdlgocieecfpbaa.Q
section
variable {w0 w : World} {Γ : List Ob}
/-- A header's cell. -/
theorem St.hdr (h : St w0 w Γ) (i : Nat) {A : Option Addr} {n c : Nat} {hs : List Hdr} (hi : Γ[i]? = some (obLL (.slice A n c) hs)) (k : Nat) (hk : k < hs.length) : ∃ ad, A = some ad ∧ w.cell? (ad.add k) = some (hv (hd hs k)) := cellSl (h.readW i hi) k hk
theorem St.len (h : St w0 w Γ) (i : Nat) {s : Hdr} {l : List Sp} (hi : Γ[i]? = some (obS (hv s) l)) : s.2.1 = l.length ∧ l.length ≤ s.2.2 := by
  obtain ⟨h1, h2, _⟩ := Kd.R_reads' (h.get i hi)
  exact ⟨h1, by omega⟩
theorem d_sameW (h : St w0 w Γ) (i j : Nat) {s t : Hdr} {a : List Sp} (hi : Γ[i]? = some (obS (hv s) a)) (hj : Γ[j]? = some (obS (hv t) a)) (hl : a.length ≤ 100000000) :
    Calls Try.prog 11 #[.slice s.1 s.2.1 s.2.2, .slice t.1 t.2.1 t.2.2] w fun e w' => e = .returned (.bool true) ∧ Drawn0 w w' := by
  obtain ⟨n1, c1, h1⟩ := Kd.R_reads' (h.get i hi)
  obtain ⟨n2, c2, h2⟩ := Kd.R_reads' (h.get j hj)
  have := mosaiclaw13_same.calls 400000000 s.1 s.2.2 a t.1 t.2.2 a _ w h1 (by omega) h2 (by omega) (same_eval a a (by omega) 400000000 (by omega))
  rw [decide_eq_true rfl] at this

  rw [n1, n2]
  exact this
theorem quiet_w {f : FuncId} {args : Array Value} {n : Nat} {v : Value}
    (h : Calls Try.prog f args (w.drewN n) fun e w' => e = .returned v ∧ Drawn0 (w.drewN n) w') : Calls Try.prog f args (w.drewN n) fun e w'' => e = .returned v ∧ ∃ m, w'' = w.drewN m :=
  h.mono fun _ _ ⟨he, hm⟩ => ⟨he, by obtain ⟨m, rfl⟩ := hm.out; exact ⟨n + m, by rw [World.drewN_drewN]⟩⟩
theorem St.addLL (h : St w0 w Γ) {a b : Ob} {R : List Ob} (e : Γ = a :: b :: R) : St w0 w (a :: b :: obLL (.slice none 0 0) [] :: R) := by
  subst e
  exact (h.newW (d := kSl) (e := 30) flatSl).perm (.cons a (.cons b (by have := List.perm_append_comm (l₁ := [obLL (.slice none 0 0) []]) (l₂ := R); exact this)))
end
theorem fam_at (F : List Ob) {n i : Nat} (f : Nat → Ob) (D : List Ob) (h : i < n) : (F ++ (fam n f ++ D))[F.length + i]? = some (f i) := by
  rw [← List.append_assoc, List.getElem?_append_left (by rw [List.length_append, fam_len]; omega)]
  exact app_get F f h
theorem fam_at2 (F : List Ob) {n i : Nat} (f g : Nat → Ob) (D : List Ob) (h : i < n) : (F ++ (fam n f ++ (fam n g ++ D)))[F.length + n + i]? = some (g i) := by
  have := fam_at (F ++ fam n f) g D h
  rwa [List.append_assoc, List.length_append, fam_len] at this
theorem St.famPut {w0 w : World} {F D : List Ob} {n i : Nat} {f g : Nat → Ob} {x : Ob} (h : St w0 w ((F ++ (fam n f ++ D)).set (F.length + i) x)) (hi : i < n) (hg : ∀ j, j < n → g j = if j = i then x else f j) : St w0 w (F ++ (fam n g ++ D)) := by
  rw [List.set_append_right _ _ (by omega), show F.length + i - F.length = i by omega, List.set_append_left _ _ (by rw [fam_len]; exact hi), fam_set hg] at h
  exact h
theorem St.famEq2 {w0 w : World} {F D : List Ob} {n : Nat} {f g : Nat → Ob} (h : St w0 w (F ++ (fam n f ++ D))) (hg : ∀ j, j < n → f j = g j) : St w0 w (F ++ (fam n g ++ D)) := by
  rw [← fam_congr hg]; exact h
end Go.Proofs.Ytdlgocieecfpbaa.SL
