/- What the statement WheelMemory needs beside: a refused Advance, two lists that share memory, marked lists. No condition. -/
import Derived.Test.YtadhceoaoopcjaaF7
namespace Go.Proofs.Ytadhceoaoopcjaa.SL
open Go.RowKit Go.Proofs.YtadhceoaoopcjaaW.PrintWords Go.Proofs.YtadhceoaoopcjaaW.PrintLast Go.Proofs.YtadhceoaoopcjaaW.PrintMore
theorem c_adv_bad {w0 w : World} {Γ : List Ob} {p : Nat} {s : Wh} {x : WSt} (h : St w0 w Γ) (i : Nat) (hi : Γ[i]? = some (obWh x)) (hx : x.Is p s) (tk : Int) (hb : tk < s.now ∨ 1099511627776 < tk) :
    Calls Try.prog 14 #[.pointer (some ⟨p, 0, none⟩), .int .i64 tk] w fun e w' => ∃ A c x', e = .returned (.tuple #[.slice A 0 c, .int .i64 1]) ∧ WSt.Is x' p s ∧ St w0 w' (Γ.set i (obWh x')) := by
  have he : advE s tk = 1 := if_pos hb
  have hl : dueL s tk = [] := by unfold dueL; rw [he]; rfl
  have hs : advS s tk = s := by unfold advS; rw [he]; rfl
  refine (c_adv h i hi hx tk hl he hs).mono fun e w' ⟨A, c, x', q1, q2, q3⟩ => ⟨A, c, x', q1, q2, q3.sub (List.sublist_cons_self _ _)⟩
def m1 : Du := ⟨-1, 0, 0⟩
def m2 : Du := ⟨-2, 0, 0⟩
theorem blt_m1 : Try.prog.built 36 [(0, .int .i64 (-1))] = some (dV m1) := by kernel_rfl
theorem blt_m2 : Try.prog.built 36 [(0, .int .i64 (-2))] = some (dV m2) := by kernel_rfl
/-- The first k of a list marked. -/
def mkL (l : List Du) (k : Nat) : List Du := List.replicate k m1 ++ l.drop k
theorem mkL_len (l : List Du) {k : Nat} (h : k ≤ l.length) : (mkL l k).length = l.length := by unfold mkL; rw [List.length_append, List.length_replicate, List.length_drop]; omega
theorem mkL_zero (l : List Du) : mkL l 0 = l := rfl
theorem mkL_all (l : List Du) : mkL l l.length = List.replicate l.length m1 := by unfold mkL; rw [List.drop_length, List.append_nil]
theorem mkL_set (l : List Du) {k : Nat} (h : k < l.length) : (mkL l k).set k m1 = mkL l (k + 1) := by
  unfold mkL
  rw [List.set_append_right _ _ (by rw [List.length_replicate]; exact Nat.le_refl _), List.length_replicate, Nat.sub_self, List.drop_eq_getElem_cons h, List.set_cons_zero, List.replicate_succ', List.append_assoc]
  rfl
theorem hz3 : 0 < kD.sz := by decide
abbrev obT (A : Option Addr) (c : Nat) (l : List Du) (v : Value) (l2 : List Du) : Ob := obTw kD 36 flD hz3 A c l v l2
theorem tw_lo {w0 w : World} {Γ : List Ob} (h : St w0 w Γ) (i : Nat) {A : Option Addr} {c : Nat} {l l2 : List Du} {v : Value} (hi : Γ[i]? = some (obT A c l v l2)) (k : Nat) (y : Du) (hk : l[k]? = some y) : ∃ g, A = some ⟨g, 0, none⟩ ∧ w.cell? ⟨g, k * 3, none⟩ = some (.int .i64 y.id) := by
  have hT : Twin kD 36 w A c l v l2 := h.get i hi
  have hkl := (List.getElem?_eq_some_iff.1 hk).1
  obtain ⟨ad, cs, hA, _, hK, hcs⟩ := Kd.C_get hT.rd y (k : Int) (by omega) (by omega)
  obtain ⟨o1, o2⟩ := hT.one ad hA (by intro e; subst e; exact absurd hkl (Nat.not_lt_zero _))
  have had := addr0 ad o1 o2
  obtain rfl : cs = dL (l.getD (k : Int).toNat y) := hK
  rw [Int.toNat_natCast, List.getD_eq_getElem?_getD, hk] at hcs
  generalize ad.block = g at had
  subst had
  have hadd : ∀ i, (⟨g, 0, none⟩ : Addr).add i = ⟨g, i, none⟩ := fun i => by unfold Addr.add; split <;> simp_all
  refine ⟨g, hA, ?_⟩
  have := hcs 0 _ rfl
  rw [hadd] at this
  exact this
theorem tw_hi {w0 w : World} {Γ : List Ob} (h : St w0 w Γ) (i : Nat) {A A2 : Option Addr} {c n2 c2 : Nat} {l l2 : List Du} (hi : Γ[i]? = some (obT A c l (.slice A2 n2 c2) l2)) (k : Nat) (y : Du) (hk : l2[k]? = some y) : ∃ g, A2 = some ⟨g, 0, none⟩ ∧ w.cell? ⟨g, k * 3, none⟩ = some (.int .i64 y.id) := by
  have hT : Twin kD 36 w A c l (.slice A2 n2 c2) l2 := h.get i hi
  obtain ⟨g, c', hv, h0, h1, h2⟩ := RD_at hT.row k y hk
  injection hv with e1 e2 e3
  exact ⟨g, e1, h0⟩
theorem due_id {ats : List Int} {c tk : Int} (hc : c ≤ tk) : ∀ y ∈ ordT ((bookL ats c).filter (dueP tk)), 1 ≤ y.id := fun y hy => by
  obtain ⟨i, _, _, rfl⟩ := mem_book.1 (List.mem_filter.1 ((bk_due ats hc).2.1.mem_iff.1 hy)).1
  show 1 ≤ (i : Int) + 1
  omega
end Go.Proofs.Ytadhceoaoopcjaa.SL
