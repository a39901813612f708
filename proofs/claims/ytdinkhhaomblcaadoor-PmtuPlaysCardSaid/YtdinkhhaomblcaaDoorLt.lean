/- The order of addresses: whole, strict; a sorted list of distinct ones is one. No program in sight. -/
import Derived.Test.YtdinkhhaomblcaaDoorPl
import Derived.Sort.Statements
import Derived.Shelf.SlSortCmp.Insertion
namespace Go.Proofs.YtdinkhhaomblcaaDoor.SL
open Go.RowKit Go.Proofs.YtdinkhhaomblcaaDoorW.PrintWords Go.Proofs.YtdinkhhaomblcaaDoorW.PrintLast Go.Proofs.YtdinkhhaomblcaaDoorW.PrintMore
def ltL : List Int → List Int → Bool
  | x :: xs, y :: ys => if x = y then ltL xs ys else decide (x < y)
  | _, _ => false
theorem ltL_irrefl : ∀ l, ltL l l = false
  | [] => rfl
  | x :: l => by unfold ltL; rw [if_pos rfl]; exact ltL_irrefl l
theorem ltL_trans : ∀ a b c : List Int, ltL a b = true → ltL b c = true → ltL a c = true
  | x :: a, y :: b, z :: c, h1, h2 => by
    unfold ltL at h1 h2 ⊢
    by_cases e1 : x = y
    · rw [if_pos e1] at h1
      by_cases e2 : y = z
      · rw [if_pos e2] at h2
        rw [if_pos (e1.trans e2)]
        exact ltL_trans a b c h1 h2
      · rw [if_neg e2] at h2
        rw [if_neg (by omega)]
        have := of_decide_eq_true h2
        exact decide_eq_true (by omega)
    · rw [if_neg e1] at h1
      have h1 := of_decide_eq_true h1
      by_cases e2 : y = z
      · rw [if_neg (by omega)]
        exact decide_eq_true (by omega)
      · rw [if_neg e2] at h2
        have h2 := of_decide_eq_true h2
        rw [if_neg (by omega)]
        exact decide_eq_true (by omega)
  | [], _, _, h1, _ => by simp [ltL] at h1
  | _ :: _, [], _, h1, _ => by simp [ltL] at h1
  | _ :: _, _ :: _, [], _, h2 => by simp [ltL] at h2
theorem ltL_tri : ∀ a b : List Int, a.length = b.length → ltL a b = false → ltL b a = false → a = b
  | [], [], _, _, _ => rfl
  | x :: a, y :: b, hl, h1, h2 => by
    unfold ltL at h1 h2
    by_cases e : x = y
    · rw [if_pos e] at h1
      rw [if_pos e.symm] at h2
      rw [e, ltL_tri a b (by simpa using hl) h1 h2]
    · rw [if_neg e] at h1
      rw [if_neg (fun h => e h.symm)] at h2
      have h1 := of_decide_eq_false h1
      have h2 := of_decide_eq_false h2
      omega
  | [], _ :: _, hl, _, _ => by simp at hl
  | _ :: _, [], hl, _, _ => by simp at hl
def ltA (x y : Ad) : Bool := if x.v = y.v then ltL x.b y.b else decide (x.v < y.v)
theorem ltA_irrefl (x : Ad) : ltA x x = false := by unfold ltA; rw [if_pos rfl]; exact ltL_irrefl _
theorem ltA_trans {x y z : Ad} (h1 : ltA x y = true) (h2 : ltA y z = true) : ltA x z = true := by
  unfold ltA at *
  by_cases e1 : x.v = y.v
  · rw [if_pos e1] at h1
    by_cases e2 : y.v = z.v
    · rw [if_pos e2] at h2
      rw [if_pos (e1.trans e2)]
      exact ltL_trans _ _ _ h1 h2
    · rw [if_neg e2] at h2
      have h2 := of_decide_eq_true h2
      rw [if_neg (by omega)]
      exact decide_eq_true (by omega)
  · rw [if_neg e1] at h1
    have h1 := of_decide_eq_true h1
    by_cases e2 : y.v = z.v
    · rw [if_neg (by omega)]
      exact decide_eq_true (by omega)
    · rw [if_neg e2] at h2
      have h2 := of_decide_eq_true h2
      rw [if_neg (by omega)]
      exact decide_eq_true (by omega)
theorem ltA_tri {x y : Ad} (h1 : ltA x y = false) (h2 : ltA y x = false) : x = y := by
  unfold ltA at *
  by_cases e : x.v = y.v
  · rw [if_pos e] at h1
    rw [if_pos e.symm] at h2
    exact Ad.ext' e (ltL_tri _ _ (by rw [x.hb, y.hb]) h1 h2)
  · rw [if_neg e] at h1
    rw [if_neg (fun h => e h.symm)] at h2
    have h1 := of_decide_eq_false h1
    have h2 := of_decide_eq_false h2
    omega
/-- What the closure of ordered tells. -/
def cfA (x y : Ad) : Int := if ltA x y then -1 else 1
theorem ltOf_cfA (x y : Ad) : ltOf cfA x y = ltA x y := by
  unfold ltOf cfA
  cases ltA x y <;> decide
theorem swoA : Sort.SWO (ltOf cfA) where
  irrefl x := by rw [ltOf_cfA]; exact ltA_irrefl x
  trans x y z h1 h2 := by rw [ltOf_cfA] at *; exact ltA_trans h1 h2
  ntrans x y z h1 h2 := by
    rw [ltOf_cfA] at *
    cases hq : ltA x z
    · rfl
    · cases hyx : ltA y x
      · have := ltA_tri h1 hyx
        subst this
        rw [h2] at hq; exact hq.symm
      · have := ltA_trans hyx hq
        rw [h2] at this; exact this.symm
/-- A list in order, each once. -/
def OrdA (l : List Ad) : Prop := l.Pairwise fun x y => ltA x y = true
theorem ordA_unique : ∀ {l m : List Ad}, OrdA l → OrdA m → l.Perm m → l = m
  | [], m, _, _, hp => (List.nil_perm.1 hp).symm
  | x :: l, [], _, _, hp => absurd (List.perm_nil.1 hp) (by simp)
  | x :: l, y :: m, h1, h2, hp => by
    unfold OrdA at h1 h2
    rw [List.pairwise_cons] at h1 h2
    have hxy : x = y := by
      have hx : x ∈ y :: m := hp.mem_iff.1 List.mem_cons_self
      have hy : y ∈ x :: l := hp.mem_iff.2 List.mem_cons_self
      rcases List.mem_cons.1 hx with e | hx
      · exact e
      · rcases List.mem_cons.1 hy with e | hy
        · exact e.symm
        · have q1 := h2.1 x hx
          have q2 := h1.1 y hy
          have := ltA_trans q1 q2
          rw [ltA_irrefl] at this
          cases this
    subst hxy
    rw [ordA_unique h1.2 h2.2 (List.perm_cons _ |>.1 hp)]
theorem ordA_of_sorted {l : List Ad} (hn : l.Nodup) (hs : l.Pairwise fun x y => ltA y x = false) : OrdA l := by
  refine (List.pairwise_and_iff.2 ⟨hs, hn⟩ : l.Pairwise fun x y => ltA y x = false ∧ x ≠ y).imp fun {x y} ⟨h1, h2⟩ => ?_
  cases hq : ltA x y
  · exact absurd (ltA_tri hq h1) h2
  · rfl
end Go.Proofs.YtdinkhhaomblcaaDoor.SL
