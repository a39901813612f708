/- The calls of the statement SpanAsks, by what stays readable: each returns what the plain lists say, and all that was readable stays so. No condition. -/
import Derived.Test.YtmfckkgebdfhjaaQN1
import Derived.Handy
namespace Go.Proofs.Ytmfckkgebdfhjaa.Q
open Go.RowKit Go.Proofs.YtmfckkgebdfhjaaW.PrintWords Go.Proofs.YtmfckkgebdfhjaaW.PrintLast Go.Proofs.YtmfckkgebdfhjaaW.PrintMore
/-- A list that can be read. -/
def Rd (w : World) (v : Value) (l : List Sp) : Prop := l.length ≤ 4000000 ∧ ∃ A c, v = .slice A l.length c ∧ l.length ≤ c ∧ Kd.C k24 w A l.length l
def Live (w : World) : List (Value × List Sp) → Prop
  | [] => True
  | p :: r => Rd w p.1 p.2 ∧ Live w r
theorem Rd.below {w w' : World} {v : Value} {l : List Sp} (h : Rd w v l) (hb : Below w.heap.size w w') : Rd w' v l := by
  obtain ⟨h1, A, c, rfl, h2, h3⟩ := h
  exact ⟨h1, A, c, rfl, h2, Kd.C_below h3 hb⟩
theorem Live.below {w w' : World} : ∀ {L : List (Value × List Sp)}, Live w L → Below w.heap.size w w' → Live w' L
  | [], _, _ => trivial
  | _ :: _, h, hb => ⟨h.1.below hb, Live.below h.2 hb⟩
theorem Live.get {w : World} {v : Value} {l : List Sp} : ∀ {L : List (Value × List Sp)}, Live w L → (v, l) ∈ L → Rd w v l
  | p :: L, h, hm => by
    cases hm with
    | head => exact h.1
    | tail _ hm => exact Live.get h.2 hm
/-- What the walk keeps: the world above the call's own, the two numbers of the boxed span, the lists that can be read. -/
structure St (w0 : World) (bx : Nat) (a b : Int) (w : World) (L : List (Value × List Sp)) : Prop where
  bl : Below w0.heap.size w0 w
  lt : bx < w.heap.size
  c0 : w.cell? ⟨bx, 0, none⟩ = some (.int .i64 a)
  c1 : w.cell? ⟨bx, 1, none⟩ = some (.int .i64 b)
  lv : Live w L
theorem St.below {w0 : World} {bx : Nat} {a b : Int} {w w' : World} {L : List (Value × List Sp)} (h : St w0 bx a b w L) (hb : Below w.heap.size w w') : St w0 bx a b w' L :=
  ⟨h.bl.trans (hb.mono h.bl.size), Nat.lt_of_lt_of_le h.lt hb.size, (hb.cell (p := ⟨bx, 0, none⟩) h.lt).trans h.c0, (hb.cell (p := ⟨bx, 1, none⟩) h.lt).trans h.c1, h.lv.below hb⟩
theorem St.drew {w0 : World} {bx : Nat} {a b : Int} {w : World} {L : List (Value × List Sp)} (h : St w0 bx a b w L) : St w0 bx a b w.drew L := h.below (below_drew (Below.refl _ _))
theorem St.lift1 {w0 : World} {bx : Nat} {a b : Int} {w : World} {L : List (Value × List Sp)} {f : FuncId} {args : Array Value} {g : Value → Value} {r : List Sp} (hS : St w0 bx a b w L) (hr : r.length ≤ 4000000)
    (hc : Calls Try.prog f args w fun e w' => ∃ v0 : Value, e = .returned (g v0) ∧ Kd.R k24 24 w' w.heap.size (fun _ => True) v0 r ∧ Below w.heap.size w w') :
    Calls Try.prog f args w fun e w' => ∃ v' : Value, e = .returned (g v') ∧ St w0 bx a b w' ((v', r) :: L) := by
  refine hc.mono fun e w' h => ?_
  obtain ⟨v0, he, hR, hb⟩ := h
  obtain ⟨A, c, rfl⟩ := Kd.R_slice hR
  have h3 := (Kd.R_reads' hR).2
  have h := hS.below hb
  exact ⟨_, he, h.bl, h.lt, h.c0, h.c1, ⟨hr, A, c, rfl, h3.1, h3.2⟩, h.lv⟩
theorem St.lift0 {w0 : World} {bx : Nat} {a b : Int} {w : World} {L : List (Value × List Sp)} {f : FuncId} {args : Array Value} {x : Value} (hS : St w0 bx a b w L)
    (hc : Calls Try.prog f args w fun e w' => e = .returned x ∧ Below w.heap.size w w') :
    Calls Try.prog f args w fun e w' => e = .returned x ∧ St w0 bx a b w' L := hc.mono fun _ _ ⟨he, hb⟩ => ⟨he, hS.below hb⟩
theorem norm_len (l : List Sp) : (normS l).1.length ≤ 65536 := by
  unfold normS
  by_cases hg : l.all goodB = true
  · rw [if_pos hg]; exact rightB_len (joinS_right l (List.all_eq_true.1 hg)).1
  · rw [if_neg hg]; simp
theorem addA_len (l : List Sp) (s : Sp) : (addA l s).1.length ≤ 65536 := by
  unfold addA
  by_cases h : (rightB l && goodB s) = true
  · rw [if_pos h]
    rw [Bool.and_eq_true] at h
    refine rightB_len (joinS_right _ fun t ht => ?_).1
    rcases List.mem_append.1 ht with ht | ht
    · exact right_good h.1 t ht
    · exact all_one h.2 t ht
  · rw [if_neg h]; simp
theorem cutA_len (l : List Sp) (s : Sp) : (cutA l s).1.length ≤ 65536 := by
  unfold cutA
  by_cases h : (rightB l && goodB s) = true
  · rw [if_pos h]
    rw [Bool.and_eq_true] at h
    exact rightB_len (cutS_spec s ((goodB_iff s).1 h.2).2.1 l (-1) h.1).1
  · rw [if_neg h]; simp
theorem holesB_len (l : List Sp) (en : Int) : (holesB l en).1.length ≤ 65536 := by
  unfold holesB
  by_cases h : (rightB l && (decide (0 ≤ en) && decide (en ≤ 65535))) = true
  · rw [if_pos h]
    rw [Bool.and_eq_true, Bool.and_eq_true, decide_eq_true_eq, decide_eq_true_eq] at h
    exact rightB_len (holesA_spec en h.2.2 l 0 (by omega) h.1).1
  · rw [if_neg h]; simp
section
variable {w0 : World} {bx : Nat} {a b : Int} {w : World} {L : List (Value × List Sp)} {v u : Value} {l : List Sp}
theorem c_own (hS : St w0 bx a b w L) (hm : (v, l) ∈ L) :
    Calls Try.prog 10 #[v] w fun e w' => ∃ v' : Value, e = .returned v' ∧ St w0 bx a b w' ((v', l) :: L) := by
  obtain ⟨hl, A, c, rfl, hc, hr⟩ := hS.lv.get hm
  exact hS.lift1 (g := fun x => x) hl (mosaiclaw09_own.calls 400000000 A c l l w hr hc (own_eval l (by omega) 400000000 (by omega)))
theorem c_norm (hS : St w0 bx a b w L) (hm : (v, l) ∈ L) :
    Calls Try.prog 9 #[v] w fun e w' => ∃ v' : Value, e = .returned (.tuple #[v', .int .i64 (normS l).2]) ∧ St w0 bx a b w' ((v', (normS l).1) :: L) := by
  obtain ⟨hl, A, c, rfl, hc, hr⟩ := hS.lv.get hm
  exact hS.lift1 (g := fun x => .tuple #[x, .int .i64 (normS l).2]) (Nat.le_trans (norm_len l) (by omega)) (span_Norm.calls 400000000 A c l _ _ w hr hc (norm_eval l (by omega) 400000000 (by omega)))
theorem c_add (hS : St w0 bx a b w L) (hm : (v, l) ∈ L) :
    Calls Try.prog 17 #[v, .agg #[.int .i64 a, .int .i64 b]] w fun e w' => ∃ v' : Value, e = .returned (.tuple #[v', .int .i64 (addA l ⟨a, b⟩).2]) ∧ St w0 bx a b w' ((v', (addA l ⟨a, b⟩).1) :: L) := by
  obtain ⟨hl, A, c, rfl, hc, hr⟩ := hS.lv.get hm
  exact hS.lift1 (g := fun x => .tuple #[x, .int .i64 (addA l ⟨a, b⟩).2]) (Nat.le_trans (addA_len _ _) (by omega)) (span_Add.calls 400000000 A c l a b _ _ w hr hc (add_evalA l (by omega) a b 400000000))
theorem c_cut (hS : St w0 bx a b w L) (hm : (v, l) ∈ L) :
    Calls Try.prog 19 #[v, .agg #[.int .i64 a, .int .i64 b]] w fun e w' => ∃ v' : Value, e = .returned (.tuple #[v', .int .i64 (cutA l ⟨a, b⟩).2]) ∧ St w0 bx a b w' ((v', (cutA l ⟨a, b⟩).1) :: L) := by
  obtain ⟨hl, A, c, rfl, hc, hr⟩ := hS.lv.get hm
  exact hS.lift1 (g := fun x => .tuple #[x, .int .i64 (cutA l ⟨a, b⟩).2]) (Nat.le_trans (cutA_len _ _) (by omega)) (span_Cut.calls 400000000 A c l a b _ _ w hr hc (cut_evalA l (by omega) a b 400000000 (by omega)))
theorem c_holes (hS : St w0 bx a b w L) (hm : (v, l) ∈ L) (en : Int) :
    Calls Try.prog 21 #[v, .int .i64 en] w fun e w' => ∃ v' : Value, e = .returned (.tuple #[v', .int .i64 (holesB l en).2]) ∧ St w0 bx a b w' ((v', (holesB l en).1) :: L) := by
  obtain ⟨hl, A, c, rfl, hc, hr⟩ := hS.lv.get hm
  exact hS.lift1 (g := fun x => .tuple #[x, .int .i64 (holesB l en).2]) (Nat.le_trans (holesB_len _ _) (by omega)) (span_Holes.calls 400000000 A c l en _ _ w hr hc (holes_evalA l (by omega) en 400000000 (by omega)))
theorem c_right (hS : St w0 bx a b w L) (hm : (v, l) ∈ L) : Calls Try.prog 13 #[v] w fun e w' => e = .returned (.bool (rightB l)) ∧ St w0 bx a b w' L := by
  obtain ⟨hl, A, c, rfl, hc, hr⟩ := hS.lv.get hm
  exact hS.lift0 (span_Right.calls 400000000 A c l _ w hr hc (right_eval l (by omega) 400000000 (by omega)))
theorem c_size (hS : St w0 bx a b w L) (hm : (v, l) ∈ L) : Calls Try.prog 15 #[v] w fun e w' => e = .returned (.int .i64 (sizeA l)) ∧ St w0 bx a b w' L := by
  obtain ⟨hl, A, c, rfl, hc, hr⟩ := hS.lv.get hm
  exact hS.lift0 (span_Size.calls 400000000 A c l _ w hr hc (size_evalA l (by omega) 400000000 (by omega)))
theorem c_has (hS : St w0 bx a b w L) (hm : (v, l) ∈ L) : Calls Try.prog 23 #[v, .agg #[.int .i64 a, .int .i64 b]] w fun e w' => e = .returned (.bool (hasA l ⟨a, b⟩)) ∧ St w0 bx a b w' L := by
  obtain ⟨hl, A, c, rfl, hc, hr⟩ := hS.lv.get hm
  exact hS.lift0 (span_Has.calls A c l a b _ w hr hc rfl)
theorem c_meets (hS : St w0 bx a b w L) (hm : (v, l) ∈ L) : Calls Try.prog 25 #[v, .agg #[.int .i64 a, .int .i64 b]] w fun e w' => e = .returned (.bool (meetsA l ⟨a, b⟩)) ∧ St w0 bx a b w' L := by
  obtain ⟨hl, A, c, rfl, hc, hr⟩ := hS.lv.get hm
  exact hS.lift0 (span_Meets.calls A c l a b _ w hr hc rfl)
theorem c_same (hS : St w0 bx a b w L) (hm : (v, l) ∈ L) (hn : (u, l) ∈ L) : Calls Try.prog 12 #[v, u] w fun e w' => e = .returned (.bool true) ∧ St w0 bx a b w' L := by
  obtain ⟨hl, A, c, rfl, hc, hr⟩ := hS.lv.get hm
  obtain ⟨_, B, d, rfl, hd, hq⟩ := hS.lv.get hn
  exact hS.lift0 ((mosaiclaw09_same.calls 400000000 A c l B d l true w hr hc hq hd (by rw [same_eval l l (by omega) 400000000 (by omega), decide_eq_true rfl])).mono fun _ _ ⟨he, hb⟩ => ⟨he, hb.below⟩)
end
end Go.Proofs.Ytmfckkgebdfhjaa.Q
