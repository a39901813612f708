/- More calls of the statements over spans, by what stays readable. No condition. -/
import Derived.Test.YtmfckkgebdfhjaaQE2
import Derived.Test.YtmfckkgebdfhjaaQV
import Derived.Test.YtmfckkgebdfhjaaQP
namespace Go.Proofs.Ytmfckkgebdfhjaa.Q
open Go.RowKit Go.Proofs.YtmfckkgebdfhjaaW.PrintWords Go.Proofs.YtmfckkgebdfhjaaW.PrintLast Go.Proofs.YtmfckkgebdfhjaaW.PrintMore
theorem spans_l0 (l : List Sp) (hb : l.length < 4611686018427387904) : ∀ (d i k : Nat), i + d = l.length → d < k → mosaiclaw09_spans.l0 k l (i : Int) = some ((l.drop i).all goodB) := by
  intro d
  induction d with
  | zero =>
    intro i k hi hk
    obtain ⟨k, rfl⟩ : ∃ m, k = m + 1 := ⟨k - 1, by omega⟩
    rw [drop_nil l i (by omega)]
    simp only [mosaiclaw09_spans.l0]
    rw [if_neg (by omega)]; rfl
  | succ d ih =>
    intro i k hi hk
    obtain ⟨k, rfl⟩ : ∃ m, k = m + 1 := ⟨k - 1, by omega⟩
    have hlt : i < l.length := by omega
    simp only [mosaiclaw09_spans.l0]
    rw [if_pos (by omega), if_pos (by omega), rdT l i hlt, wr1 i (by omega), ih (i + 1) k (by omega) (by omega), dropc l i hlt, List.all_cons]
    by_cases h1 : l[i].f0 < 0
    · rw [if_pos h1]
      have : goodB l[i] = false := by rw [Bool.eq_false_iff, ne_eq, goodB_iff]; omega
      simp [this]
    · rw [if_neg h1]
      by_cases h2 : l[i].f1 > 65535
      · rw [if_pos h2]
        have : goodB l[i] = false := by rw [Bool.eq_false_iff, ne_eq, goodB_iff]; omega
        simp [this]
      · rw [if_neg h2]
        by_cases h3 : l[i].f0 ≥ l[i].f1
        · rw [if_pos h3]
          have : goodB l[i] = false := by rw [Bool.eq_false_iff, ne_eq, goodB_iff]; omega
          simp [this]
        · rw [if_neg h3]
          have hg : goodB l[i] = true := by rw [goodB_iff]; omega
          rw [hg, Bool.true_and]
theorem spans_eval (l : List Sp) (hb : l.length < 4611686018427387904) (k : Nat) (hk : l.length < k) : mosaiclaw09_spans.f k l = some (l.all goodB) := by
  have := spans_l0 l hb l.length 0 k (by omega) hk
  unfold mosaiclaw09_spans.f
  rw [show (0 : Int) = ((0 : Nat) : Int) from rfl, this]; rfl
section
variable {w0 : World} {bx : Nat} {a b : Int} {w : World} {L : List (Value × List Sp)} {v u : Value} {l m : List Sp}
/-- A list of numbers that can be read. -/
def RdI (w : World) (v : Value) (l : List Int) : Prop := ∃ A c, v = .slice A l.length c ∧ l.length ≤ c ∧ Kd.C (Kd.int .i64) w A l.length l
theorem RdI.below {w w' : World} {v : Value} {l : List Int} (h : RdI w v l) (hb : Below w.heap.size w w') : RdI w' v l := by
  obtain ⟨A, c, rfl, h2, h3⟩ := h
  exact ⟨A, c, rfl, h2, Kd.C_below h3 hb⟩
theorem St.lift0b {f : FuncId} {args : Array Value} {x : Value} (hS : St w0 bx a b w L)
    (hc : Calls Try.prog f args w fun e w' => e = .returned x ∧ Below w.heap.size w w') :
    Calls Try.prog f args w fun e w' => e = .returned x ∧ St w0 bx a b w' L ∧ Below w.heap.size w w' := hc.mono fun _ _ ⟨he, hb⟩ => ⟨he, hS.below hb, hb⟩
theorem c_spans (hS : St w0 bx a b w L) (hm : (v, l) ∈ L) : Calls Try.prog 27 #[v] w fun e w' => e = .returned (.bool (l.all goodB)) ∧ St w0 bx a b w' L := by
  obtain ⟨hl, A, c, rfl, hc, hr⟩ := hS.lv.get hm
  exact hS.lift0 ((mosaiclaw09_spans.calls 400000000 A c l _ w hr hc (spans_eval l (by omega) 400000000 (by omega))).mono fun _ _ ⟨he, hb⟩ => ⟨he, hb.below⟩)
theorem c_rising (hS : St w0 bx a b w L) (hm : (v, l) ∈ L) : Calls Try.prog 28 #[v] w fun e w' => e = .returned (.bool (rightB l)) ∧ St w0 bx a b w' L := by
  obtain ⟨hl, A, c, rfl, hc, hr⟩ := hS.lv.get hm
  exact hS.lift0 ((mosaiclaw09_rising.calls 400000000 A c l _ w hr hc (rising_eval l (by omega) 400000000 (by omega))).mono fun _ _ ⟨he, hb⟩ => ⟨he, hb.below⟩)
theorem c_in (hS : St w0 bx a b w L) (hm : (v, l) ∈ L) (n : Int) : Calls Try.prog 30 #[v, .int .i64 n] w fun e w' => e = .returned (.bool (inB l n)) ∧ St w0 bx a b w' L ∧ Below w.heap.size w w' := by
  obtain ⟨hl, A, c, rfl, hc, hr⟩ := hS.lv.get hm
  exact hS.lift0b ((mosaiclaw09_in.calls 400000000 A c l n _ w hr hc (in_eval l (by omega) n 400000000 (by omega))).mono fun _ _ ⟨he, hb⟩ => ⟨he, hb.below⟩)
theorem c_sameb (hS : St w0 bx a b w L) (hm : (v, l) ∈ L) (hn : (u, m) ∈ L) : Calls Try.prog 12 #[v, u] w fun e w' => e = .returned (.bool (decide (l = m))) ∧ St w0 bx a b w' L := by
  obtain ⟨hl, A, c, rfl, hc, hr⟩ := hS.lv.get hm
  obtain ⟨_, B, d, rfl, hd, hq⟩ := hS.lv.get hn
  exact hS.lift0 ((mosaiclaw09_same.calls 400000000 A c l B d m _ w hr hc hq hd (same_eval l m (by omega) 400000000 (by omega))).mono fun _ _ ⟨he, hb⟩ => ⟨he, hb.below⟩)
theorem c_cutx (hS : St w0 bx a b w L) (hm : (v, l) ∈ L) (x y : Int) :
    Calls Try.prog 19 #[v, .agg #[.int .i64 x, .int .i64 y]] w fun e w' => ∃ v' : Value, e = .returned (.tuple #[v', .int .i64 (cutA l ⟨x, y⟩).2]) ∧ St w0 bx a b w' ((v', (cutA l ⟨x, y⟩).1) :: L) := by
  obtain ⟨hl, A, c, rfl, hc, hr⟩ := hS.lv.get hm
  exact hS.lift1 (g := fun z => .tuple #[z, .int .i64 (cutA l ⟨x, y⟩).2]) (Nat.le_trans (cutA_len _ _) (by omega)) (span_Cut.calls 400000000 A c l x y _ _ w hr hc (cut_evalA l (by omega) x y 400000000 (by omega)))
theorem c_near (hS : St w0 bx a b w L) (hm : (v, l) ∈ L) (n : Int) :
    Calls Try.prog 29 #[v, .agg #[.int .i64 a, .int .i64 b], .int .i64 n] w fun e w' => ∃ A c, ∃ Z : List Int, e = .returned (.slice A Z.length c) ∧ Z.length ≤ 805 ∧ Kd.C (Kd.int .i64) w' A Z.length Z ∧ St w0 bx a b w' L := by
  obtain ⟨hl, A, c, rfl, hc, hr⟩ := hS.lv.get hm
  obtain ⟨Z, eZ, hZ⟩ := near_eval l a b n 400000000 (by omega)
  refine (mosaiclaw09_near.calls 400000000 A c l a b n Z w hr hc eZ).mono fun e w' h => ?_
  obtain ⟨v0, he, hR, hb⟩ := h
  obtain ⟨A, c, rfl⟩ := Kd.R_slice hR
  exact ⟨A, c, Z, he, hZ, (Kd.R_reads' hR).2.2, hS.below hb⟩
/-- A list of the boxed span alone, made new. -/
theorem St.one (hS : St w0 bx a b w L) : St w0 bx a b (w.alloc (.cells #[.int .i64 a, .int .i64 b] 24)) ((.slice (some ⟨w.heap.size, 0, none⟩) 1 1, [⟨a, b⟩]) :: L) := by
  have h := hS.below (Below.alloc (Below.refl w.heap.size w) (Nat.le_refl _) (.cells #[.int .i64 a, .int .i64 b] 24))
  refine ⟨h.bl, h.lt, h.c0, h.c1, ⟨by simp, some ⟨w.heap.size, 0, none⟩, 1, rfl, Nat.le_refl _, rfl, by simp, fun _ => ⟨_, rfl, fun j p hj => ?_⟩⟩, h.lv⟩
  match j, hj with
  | 0, hj =>
    obtain rfl := Option.some.inj hj
    refine ⟨[.int .i64 a, .int .i64 b], rfl, k24_mk _ _, fun i u hu => ?_⟩
    match i, hu with
    | 0, hu => obtain rfl := Option.some.inj hu; simp [Addr.add]
    | 1, hu => obtain rfl := Option.some.inj hu; simp [Addr.add]
end
end Go.Proofs.Ytmfckkgebdfhjaa.Q
