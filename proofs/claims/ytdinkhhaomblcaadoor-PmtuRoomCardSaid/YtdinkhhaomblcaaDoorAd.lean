/- Addresses as values of seventeen cells, taken as wholes: kinds, equality, building. No condition. -/
import Derived.Test.YtdinkhhaomblcaaDoorTm
import Derived.Test.YtdinkhhaomblcaaDoorWEqStruct
import Derived.Test.YtdinkhhaomblcaaDoorProg
import Derived.Deep.MidRow
import Derived.ChangeKeysEq
import Derived.WalkKit
namespace Go.Proofs.YtdinkhhaomblcaaDoor.SL
open Go.RowKit Go.Proofs.YtdinkhhaomblcaaDoorW.PrintWords Go.Proofs.YtdinkhhaomblcaaDoorW.PrintLast Go.Proofs.YtdinkhhaomblcaaDoorW.PrintMore
/-- A kind whose cells are a function of the value. -/
def kF {α : Type} (n : Nat) (enc : α → List Value) (hl : ∀ x, (enc x).length = n) (h1 : ∀ x, ∀ u ∈ enc x, u.oneCell' = true) : Kd α where
  sz := n
  E := []
  K := fun _ x cs => cs = enc x
  M := fun _ _ _ x cs => cs = enc x
  K_len := fun h => by rw [h]; exact hl _
  K_one := fun h u hu => by rw [h] at hu; exact h1 _ u hu
  K_below := fun _ h => h
  K_of_M := fun h => h
  M_mono := fun _ h => h
  M_bound := fun h => h
  M_move := fun _ h => h
  M_lower := fun _ h => h
theorem flatF {α : Type} {n : Nat} {enc : α → List Value} {hl : ∀ x, (enc x).length = n} {h1 : ∀ x, ∀ u ∈ enc x, u.oneCell' = true} : Flat (kF n enc hl h1) := fun _ _ _ _ _ _ h => h
/-- An address. -/
structure Ad where
  v : Int
  b : List Int
  hb : b.length = 16
deriving DecidableEq
def aL (a : Ad) : List Value := .int .i64 a.v :: a.b.map (.int .u8 ·)
def aV (a : Ad) : Array Value := (aL a).toArray
theorem aL_len (a : Ad) : (aL a).length = 17 := by unfold aL; rw [List.length_cons, List.length_map, a.hb]
theorem aV_size (a : Ad) : (aV a).size = 17 := by unfold aV; rw [List.size_toArray, aL_len]
theorem aL_one (a : Ad) : ∀ u ∈ aL a, u.oneCell' = true := fun u hu => by
  rcases List.mem_cons.1 hu with rfl | hu
  · rfl
  · obtain ⟨x, _, rfl⟩ := List.mem_map.1 hu
    rfl
theorem Ad.ext' {x y : Ad} (h1 : x.v = y.v) (h2 : x.b = y.b) : x = y := by
  obtain ⟨v, b, hb⟩ := x
  obtain ⟨v', b', hb'⟩ := y
  simp only at h1 h2
  subst h1 h2
  rfl
section
variable (w : World)
theorem part_int (e : TypeId) (q : IntKind) (hu : Tryd.prog.underlying e = some (.int q)) (xs : Array Value) (off : Nat) {v : Value} (hx : xs[off]? = some v) : (part e xs off).run Tryd.prog w = .ok v w :=
  run_part_plain w (by unfold Program.plainKey; rw [hu]) hx
theorem part_agg (e : TypeId) (hu : (∃ n e', Tryd.prog.underlying e = some (.array n e')) ∨ ∃ fs, Tryd.prog.underlying e = some (.struct fs)) (xs : Array Value) (off : Nat) : (part e xs off).run Tryd.prog w = .ok (.agg (xs.extract off (off + Tryd.prog.cellsOf e))) w := by
  rcases hu with ⟨n, e', hu⟩ | ⟨fs, hu⟩
  · obtain ⟨i, hi⟩ := info_of_underlying hu
    simp [part, isAgg, run_underlying hu, run_sizeOf w hi]
  · obtain ⟨i, hi⟩ := info_of_underlying hu
    simp [part, isAgg, run_underlying hu, run_sizeOf w hi]
/-- Items that are whole numbers. -/
theorem eqItems_ints (d : Nat) (e : TypeId) (q : IntKind) (hu : Tryd.prog.underlying e = some (.int q)) (xs ys : Array Value) (f g : Nat → Int) : ∀ (is : List Nat), (∀ i ∈ is, xs[i]? = some (.int q (f i)) ∧ ys[i]? = some (.int q (g i))) →
    (Op.eqItems (d + 1) e 1 xs ys is).run Tryd.prog w = .ok (is.all fun i => f i == g i) w
  | [], _ => rfl
  | i :: is, h => by
    obtain ⟨h1, h2⟩ := h i List.mem_cons_self
    have ih := eqItems_ints d e q hu xs ys f g is (fun j hj => h j (List.mem_cons_of_mem _ hj))
    unfold Op.eqItems
    simp only [Nat.mul_one, Sem.run_bind, part_int w e q hu xs i h1, part_int w e q hu ys i h2, run_equalIn_int w d e q q _ _ hu, Result.andThen_ok, List.all_cons]
    cases hc : f i == g i
    · rfl
    · rw [Bool.true_and]
      exact ih
theorem aV_at (a : Ad) (i : Nat) (h : i < 16) : (aV a)[i + 1]? = some (.int .u8 (a.b.getD i 0)) := by
  have hb := a.hb
  unfold aV aL
  simp [List.getD_eq_getElem?_getD, show i < a.b.length by omega]
theorem bytes_eq (x y : List Int) (hx : x.length = 16) (hy : y.length = 16) : ((List.range 16).all fun i => x.getD i 0 == y.getD i 0) = decide (x = y) := by
  rw [Bool.eq_iff_iff, List.all_eq_true, decide_eq_true_eq]
  constructor
  · intro h
    apply List.ext_getElem (by omega)
    intro i h1 h2
    have := h i (List.mem_range.2 (by omega))
    simpa [List.getD_eq_getElem?_getD, h1, h2] using this
  · rintro rfl i _
    simp
theorem cells1 : Tryd.prog.cellsOf 5 = 1 := by kernel_rfl
theorem cells16 : Tryd.prog.cellsOf 30 = 16 := by kernel_rfl
theorem cells17 : Tryd.prog.cellsOf 32 = 17 := by kernel_rfl
theorem eqB (d : Nat) (x y : Ad) : (Op.equalIn (d + 2) 30 (.agg ((aV x).extract 1 17)) (.agg ((aV y).extract 1 17))).run Tryd.prog w = .ok (decide (x.b = y.b)) w := by
  obtain ⟨i, hi⟩ := info_of_underlying Tryd.underlying5
  rw [run_equalIn_array (P := Tryd.prog) w (d + 1) _ _ Tryd.underlying30 hi, cells1, eqItems_ints w d 5 .u8 Tryd.underlying5 _ _ (fun i => x.b.getD i 0) (fun i => y.b.getD i 0) (List.range 16) (fun j hj => ?_), bytes_eq x.b y.b x.hb y.hb]
  have hj := List.mem_range.1 hj
  have h1 := aV_at x j hj
  have h2 := aV_at y j hj
  constructor
  · rw [Array.getElem?_extract, if_pos (by rw [aV_size]; omega), Nat.add_comm]; exact h1
  · rw [Array.getElem?_extract, if_pos (by rw [aV_size]; omega), Nat.add_comm]; exact h2
theorem eqAd (d : Nat) (x y : Ad) : (Op.equalIn (d + 3) 32 (.agg (aV x)) (.agg (aV y))).run Tryd.prog w = .ok (decide (x = y)) w := by
  have h := eqf_cons (P := Tryd.prog) (w := w) (d := d + 2) (xs := aV x) (ys := aV y) (f := ⟨"V", 3, 0, false, "", "", 0⟩) (fs := [⟨"B", 30, 1, false, "", "", 8⟩]) (by rfl) (part_int w _ .i64 Tryd.underlying3 _ _ rfl) (part_int w _ .i64 Tryd.underlying3 _ _ rfl) (run_equalIn_int w (d + 1) _ _ .i64 _ _ Tryd.underlying3)
    (eqf_last (by rfl) (part_agg w _ (.inl ⟨_, _, Tryd.underlying30⟩) _ _) (part_agg w _ (.inl ⟨_, _, Tryd.underlying30⟩) _ _) (by rw [cells16]; exact eqB w d x y))
  have e : (x.v == y.v && decide (x.b = y.b)) = decide (x = y) := by
    rw [Bool.eq_iff_iff, Bool.and_eq_true, beq_iff_eq, decide_eq_true_eq, decide_eq_true_eq]
    exact ⟨fun ⟨h1, h2⟩ => Ad.ext' h1 h2, fun h => by rw [h]; exact ⟨rfl, rfl⟩⟩
  rw [e] at h
  exact eqA_of Tryd.underlying32 (by kernel_rfl) h
end
/-- What is built. -/
def ofBytes (v : Int) (bs : List Int) (h : bs.length = 16) : Ad := ⟨v, bs, h⟩
end Go.Proofs.YtdinkhhaomblcaaDoor.SL
