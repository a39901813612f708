/- The walk of the document's spans: the stretches of one flag, as a right list. No condition. -/
import Derived.Test.YtdlgocieecfpbaaC4
import Derived.Deep.AppendLies
namespace Go.Proofs.Ytdlgocieecfpbaa.Q
open Go.RowKit Go.Proofs.YtdlgocieecfpbaaW.PrintWords Go.Proofs.YtdlgocieecfpbaaW.PrintLast Go.Proofs.YtdlgocieecfpbaaW.PrintMore Go.Proofs.Ytdlgocieecfpbaa.SL

/-- The document's list behind a pointer: its flags in a block of their own. -/
structure RefAt (w : World) (q t : Nat) (bits : List Bool) (ends top : Int) : Prop where
  st : w.heap[q]? = some (.cells #[.slice (some ⟨t, 0, none⟩) 65535 65535, .int .i64 ends, .int .i64 top] 55 (0, 0))
  row : w.heap[t]? = some (.cells (bits.map Value.bool).toArray 4 (0, 0))
  len : bits.length = 65535
  ne : q ≠ t
theorem RefAt.below {w w' : World} {q t : Nat} {bits : List Bool} {ends top : Int} (h : RefAt w q t bits ends top) (hb : Below w.heap.size w w') : RefAt w' q t bits ends top :=
  ⟨(hb.block q (lt_of_block h.st)).trans h.st, (hb.block t (lt_of_block h.row)).trans h.row, h.len, h.ne⟩
theorem RefAt.c0 {w : World} {q t : Nat} {bits : List Bool} {ends top : Int} (h : RefAt w q t bits ends top) : w.cell? ⟨q, 0, none⟩ = some (.slice (some ⟨t, 0, none⟩) 65535 65535) := cell_of_row w q 0 _ _ _ h.st
theorem RefAt.c1 {w : World} {q t : Nat} {bits : List Bool} {ends top : Int} (h : RefAt w q t bits ends top) : w.cell? ⟨q, 1, none⟩ = some (.int .i64 ends) := cell_of_row w q 1 _ _ _ h.st
theorem RefAt.c2 {w : World} {q t : Nat} {bits : List Bool} {ends top : Int} (h : RefAt w q t bits ends top) : w.cell? ⟨q, 2, none⟩ = some (.int .i64 top) := cell_of_row w q 2 _ _ _ h.st
theorem RefAt.bit {w : World} {q t : Nat} {bits : List Bool} {ends top : Int} (h : RefAt w q t bits ends top) (i : Nat) (hi : i < bits.length) : w.cell? ⟨t, i, none⟩ = some (.bool bits[i]) := by
  rw [cell_of_row w t i _ _ _ h.row]
  simp [hi]
/-- The stretches of one flag from a place on, up to another. -/
structure SpA (bits : List Bool) (flag : Bool) (a b : Int) (o : List Sp) : Prop where
  right : rightB o = true
  has : ∀ x, inS o x ↔ (a ≤ x ∧ x < b) ∧ bits.getD x.toNat (!flag) = flag
theorem SpA.start (bits : List Bool) (flag : Bool) (a : Int) : SpA bits flag a a [] := ⟨rfl, fun x => ⟨fun h => absurd h (inS_nil x), fun h => by omega⟩⟩
theorem rightFrom_snoc : ∀ (o : List Sp) (a : Int) (t : Sp), -1 ≤ a → (rightFrom a (o ++ [t]) = true ↔ rightFrom a o = true ∧ goodB t = true ∧ a < t.f0 ∧ ∀ s ∈ o, s.f1 < t.f0)
  | [], a, t, _ => by simp [rightFrom, and_comm]
  | s :: o, a, t, ha => by
    rw [List.cons_append, rightFrom_cons, rightFrom_cons]
    constructor
    · rintro ⟨h1, h2, h3⟩
      have hg := (goodB_iff s).1 h2
      obtain ⟨i1, i2, i3, i4⟩ := (rightFrom_snoc o s.f1 t (by omega)).1 h3
      refine ⟨⟨h1, h2, i1⟩, i2, by omega, fun x hx => ?_⟩
      rcases List.mem_cons.1 hx with rfl | hx
      · exact i3
      · exact i4 x hx
    · rintro ⟨⟨h1, h2, h3⟩, h4, h5, h6⟩
      have hg := (goodB_iff s).1 h2
      exact ⟨h1, h2, (rightFrom_snoc o s.f1 t (by omega)).2 ⟨h3, h4, h6 s List.mem_cons_self, fun x hx => h6 x (List.mem_cons_of_mem _ hx)⟩⟩
theorem inS_snoc (o : List Sp) (t : Sp) (n : Int) : inS (o ++ [t]) n ↔ inS o n ∨ (t.f0 ≤ n ∧ n < t.f1) := by
  rw [inS_append, inS_cons]
  simp [inS_nil]
theorem SpA.skip {bits : List Bool} {flag : Bool} {a b : Int} {o : List Sp} (h : SpA bits flag a b o) (hb : a ≤ b) (hf : bits.getD b.toNat (!flag) ≠ flag) : SpA bits flag a (b + 1) o :=
  ⟨h.right, fun x => by
    rw [h.has]
    constructor
    · rintro ⟨h1, h2⟩
      exact ⟨by omega, h2⟩
    · rintro ⟨h1, h2⟩
      refine ⟨⟨h1.1, ?_⟩, h2⟩
      rcases Int.lt_or_le x b with h3 | h3
      · exact h3
      · obtain rfl : x = b := by omega
        exact absurd h2 hf⟩
theorem SpA.one {bits : List Bool} {flag : Bool} {a b : Int} {o : List Sp} (h : SpA bits flag a b o) (h0 : 0 ≤ a) (hb : a ≤ b) (ht : b < 65535) (hf : bits.getD b.toNat (!flag) = flag) (hne : ∀ s ∈ o, s.f1 < b) : SpA bits flag a (b + 1) (o ++ [⟨b, b + 1⟩]) := by
  refine ⟨(rightFrom_snoc o (-1) ⟨b, b + 1⟩ (by omega)).2 ⟨h.right, (goodB_iff _).2 ⟨by show 0 ≤ b; omega, by show b < b + 1; omega, by show b + 1 ≤ 65535; omega⟩, by show -1 < b; omega, hne⟩, fun x => ?_⟩
  rw [inS_snoc, h.has]
  show _ ∨ (b ≤ x ∧ x < b + 1) ↔ _
  constructor
  · rintro (⟨h1, h2⟩ | h1)
    · exact ⟨by omega, h2⟩
    · obtain rfl : x = b := by omega
      exact ⟨by omega, hf⟩
  · rintro ⟨h1, h2⟩
    rcases Int.lt_or_le x b with h3 | h3
    · exact .inl ⟨⟨h1.1, h3⟩, h2⟩
    · exact .inr (by omega)
theorem SpA.more {bits : List Bool} {flag : Bool} {a b : Int} {o : List Sp} {t : Sp} (h : SpA bits flag a b (o ++ [t])) (hb : a ≤ b) (ht : b < 65535) (hf : bits.getD b.toNat (!flag) = flag) (he : t.f1 = b) : SpA bits flag a (b + 1) (o ++ [⟨t.f0, b + 1⟩]) := by
  obtain ⟨r1, r2, r3, r4⟩ := (rightFrom_snoc o (-1) t (by omega)).1 h.right
  have hg := (goodB_iff t).1 r2
  refine ⟨(rightFrom_snoc o (-1) ⟨t.f0, b + 1⟩ (by omega)).2 ⟨r1, (goodB_iff _).2 ⟨hg.1, by show t.f0 < b + 1; omega, by show b + 1 ≤ 65535; omega⟩, r3, r4⟩, fun x => ?_⟩
  have hx := h.has x
  rw [inS_snoc] at hx ⊢
  show _ ∨ (t.f0 ≤ x ∧ x < b + 1) ↔ _
  constructor
  · rintro (h1 | h1)
    · have := hx.1 (.inl h1)
      exact ⟨by omega, this.2⟩
    · rcases Int.lt_or_le x b with h3 | h3
      · have := hx.1 (.inr (by omega))
        exact ⟨by omega, this.2⟩
      · obtain rfl : x = b := by omega
        exact ⟨by omega, hf⟩
  · rintro ⟨h1, h2⟩
    rcases Int.lt_or_le x b with h3 | h3
    · rcases hx.2 ⟨⟨h1.1, h3⟩, h2⟩ with h4 | h4
      · exact .inl h4
      · exact .inr (by omega)
    · exact .inr (by omega)
theorem SpA.le {bits : List Bool} {flag : Bool} {a b : Int} {o : List Sp} (h : SpA bits flag a b o) {s : Sp} (hs : s ∈ o) : s.f1 ≤ b := by
  have hg := (goodB_iff s).1 (right_good h.right s hs)
  have := ((h.has (s.f1 - 1)).1 ⟨s, hs, by omega, by omega⟩).1
  omega
theorem SpA.lt_last {bits : List Bool} {flag : Bool} {a b : Int} {o : List Sp} {t : Sp} (h : SpA bits flag a b (o ++ [t])) (hne : t.f1 ≠ b) : ∀ s ∈ o ++ [t], s.f1 < b := by
  intro s hs
  have h1 := h.le hs
  rcases List.mem_append.1 hs with h2 | h2
  · have h3 := h.le (s := t) (List.mem_append.2 (.inr (List.mem_singleton.2 rfl)))
    obtain ⟨r1, r2, r3, r4⟩ := (rightFrom_snoc o (-1) t (by omega)).1 h.right
    have h4 := r4 s h2
    have hg := (goodB_iff t).1 r2
    omega
  · obtain rfl := List.mem_singleton.1 h2
    omega
end Go.Proofs.Ytdlgocieecfpbaa.Q
namespace Go.Proofs.Ytdlgocieecfpbaa.Q
open Go.RowKit Go.Proofs.YtdlgocieecfpbaaW.PrintWords Go.Proofs.YtdlgocieecfpbaaW.PrintLast Go.Proofs.YtdlgocieecfpbaaW.PrintMore Go.Proofs.Ytdlgocieecfpbaa.SL

theorem infoI : (Try.prog.info? 3).map (·.size) = some 1 := by kernel_rfl
theorem C_pair {w : World} {A : Option Addr} {l : List Sp} {g : Nat} (h : Kd.C k50 w A l.length l) (hA : A = some ⟨g, 0, none⟩) (k : Nat) (hk : k < l.length) : w.cell? ⟨g, k * 2, none⟩ = some (.int .i64 l[k].f0) ∧ w.cell? ⟨g, k * 2 + 1, none⟩ = some (.int .i64 l[k].f1) := by
  obtain ⟨ad, hA', h0, h1⟩ := at_T50 h (k : Int) (by omega) (by omega)
  obtain rfl : ad = ⟨g, 0, none⟩ := Option.some.inj (hA'.symm.trans hA)
  rw [rdT l k hk] at h0 h1
  simp only [add_plain, Int.toNat_natCast] at h0 h1
  exact ⟨h0, h1⟩
theorem R_set1 {w : World} {base g n cap : Nat} {xs : List Sp} (h : Kd.R k50 50 w base (fun _ => True) (.slice (some ⟨g, 0, none⟩) n cap) xs) (k : Nat) (hk : k < xs.length) (y : Int) :
    Kd.R k50 50 (w.setCell ⟨g, k * 2 + 1, none⟩ (.int .i64 y)) base (fun _ => True) (.slice (some ⟨g, 0, none⟩) n cap) (xs.set k ⟨xs[k].f0, y⟩) := by
  obtain ⟨hn, _, hC⟩ := Kd.R_reads' h
  obtain ⟨l0, l1⟩ := C_pair hC rfl k hk
  have := (Kd.R_seg h (i := (k : Int)) (j := 1) (x' := ⟨xs[k].f0, y⟩) (seg := [.int .i64 y]) (c := [.int .i64 xs[k].f0, .int .i64 xs[k].f1]) (okp := fun _ => False) (by omega) (by omega) rfl (by
    intro j u hu
    rw [Int.toNat_natCast]
    match j, hu with
    | 0, hu => (obtain rfl := Option.some.inj hu; exact l0)
    | 1, hu => (obtain rfl := Option.some.inj hu; exact l1)) (Nat.le_refl 2) (mkS _ _) (fun _ h => h.elim)).1
  rw [Int.toNat_natCast] at this
  exact this
set_option maxHeartbeats 1000000 in
set_option maxRecDepth 100000 in
theorem spans_calls (q t : Nat) (bits : List Bool) (ends top : Int) (fr to' : Nat) (flag : Bool) (w : World) (hR : RefAt w q t bits ends top) (hft : fr ≤ to') (hto : to' ≤ 65535) :
    Calls Try.prog 28 #[.pointer (some ⟨q, 0, none⟩), .int .i64 fr, .int .i64 to', .bool flag] w fun e w' => ∃ v o, e = .returned v ∧ Kd.R k50 50 w' w.heap.size (fun _ => True) v o ∧ SpA bits flag fr to' o ∧ Below w.heap.size w w' := by
  have hu := Try.underlying50
  have hub := Try.underlying53
  have hus := Try.underlying30
  have HR := Lib.hid hR
  clear hR
  go_enter Try.func28, Try.ntmps28
  go_wp2_with fail
  go_loopw [9, 10] (fun v i wr => ∃ (k : Nat) (o : List Sp), fr ≤ k ∧ k ≤ to' ∧ i = .int .i64 k ∧ Hid (Below w.heap.size w wr) ∧ Hid (Kd.R k50 50 wr w.heap.size (fun _ => True) v o) ∧ Hid (SpA bits flag fr k o)) (fun _ i _ => to' - (intOf i).toNat)
  case atStart => exact ⟨fr, [], Nat.le_refl _, hft, rfl, Lib.hid (Below.refl _ _), Lib.hid (Kd.R_nil _ _ _ _ _), Lib.hid (SpA.start _ _ _)⟩
  case round =>
    obtain ⟨k, o, hk1, hk2, rfl, BW, RR, SS⟩ := hrel
    have HRw := Lib.hid (HR.out.below BW.out)
    obtain ⟨N, hN, c0⟩ : ∃ N, N = 65535 ∧ wr.cell? ⟨q, 0, none⟩ = some (.slice (some ⟨t, 0, none⟩) N N) := ⟨_, rfl, HRw.out.c0⟩
    by_cases hlt : k < to'
    · have hltz : (k : Int) < (to' : Int) := by omega
      have hkl : k < bits.length := by rw [HR.out.len]; omega
      have hbit := HRw.out.bit k hkl
      have hgd : bits.getD k (!flag) = bits[k] := by rw [List.getD_eq_getElem?_getD, List.getElem?_eq_getElem hkl]; rfl
      have hol := rightB_len SS.out.right
      generalize bits[k] = b at *
      have hk65 : (k : Int) < (N : Int) := by omega
      have hkN : k < N := by omega
      have HN := Lib.hid hN
      clear hN
      by_cases hf : b = flag
      · subst hf
        have hgd' : bits.getD (k : Int).toNat (!b) = b := by rw [Int.toNat_natCast]; exact hgd
        have HG := Lib.hid hgd'
        clear hgd hgd'
        have hbb : (!b == b) = false := by cases b <;> rfl
        rcases List.eq_nil_or_concat o with ho | ⟨o', x, ho⟩
        · subst ho
          obtain ⟨A9, c9, hv⟩ := Kd.R_slice RR.out
          rw [List.length_nil] at hv
          have HS := Lib.hid (SS.out.one (by omega) (by omega) (by omega) HG.out (fun s hs => by cases hs))
          subst hv
          go_wp2_with ((with_reducible refine gate_builtin (b := .append) (xs := #[.tmp 48, .tmp 53]) rfl ?_); at_builtin; go_must (refine Kd.R_append k50 (w0 := w) w.heap.size rfl (.tmp 48) (.tmp 53) 30 50 (.agg #[.int .i64 0, .int .i64 0]) 16 rfl Try.underlying30 infoS rfl (by decide) (by decide) _ [] ⟨_, _⟩ [.int .i64 _, .int .i64 _] (fun _ => True) (fun _ => False) rfl (by first | (go_simp; done) | (go_simp; rfl)) (mkS (k : Int) ((k : Int) + 1)) (fun _ h => h.elim) (fun _ _ => trivial) RR.out BW.out BW.out.size (by simp) ?_); intro v1 w2 hR1 hB1 hg1 hat1)
          go_roundw
          case rel => exact ⟨k + 1, _, by omega, by omega, by go_num, Lib.hid hB1, Lib.hid hR1, HS⟩
          case measure => simp [intOf]; omega
        · rw [List.concat_eq_append] at ho
          subst ho
          obtain ⟨inner, hown⟩ := Kd.R_own RR.out
          obtain ⟨g, cap, hv, hbg, hgl⟩ := hown.form (by simp)
          rw [List.length_append, List.length_singleton] at hv
          subst hv
          obtain ⟨l0, l1⟩ := C_pair (Kd.R_reads' RR.out).2.2 rfl o'.length (by simp)
          have hx : (o' ++ [x])[o'.length]'(by simp) = x := by simp
          rw [hx] at l0 l1
          rw [List.length_append, List.length_singleton] at hol
          have hgf : wr.frozen? ⟨g, o'.length * 2 + 1, none⟩ = false := by
            obtain ⟨cells, hc⟩ := own_typed hown g (by simp [Value.ownBlock])
            simp [World.frozen?, hc]
          clear hown
          by_cases he : x.f1 = (k : Int)
          · have HS := Lib.hid (SS.out.more (by omega) (by omega) HG.out he)
            have heq : (x.f1 == (k : Int)) = true := by rw [beq_iff_eq]; exact he
            clear he
            have hR1 := R_set1 RR.out o'.length (by simp) ((k : Int) + 1)
            have hB1 := (BW.out).setCell (p := ⟨g, o'.length * 2 + 1, none⟩) hbg (.int .i64 ((k : Int) + 1))
            rw [hx, show (o' ++ [x]).set o'.length ⟨x.f0, (k : Int) + 1⟩ = o' ++ [⟨x.f0, (k : Int) + 1⟩] by simp] at hR1
            have HR1 := Lib.hid hR1
            have HB1 := Lib.hid hB1
            clear hR1 hB1
            go_wp2
            go_roundw
            case rel => exact ⟨k + 1, _, by omega, by omega, by go_num, HB1, HR1, HS⟩
            case measure => simp [intOf]; omega
          · have HS := Lib.hid (SS.out.one (by omega) (by omega) (by omega) HG.out (SS.out.lt_last he))
            have heq : (x.f1 == (k : Int)) = false := by rw [beq_eq_false_iff_ne]; exact he
            clear he
            go_wp2_with ((with_reducible refine gate_builtin (b := .append) (xs := #[.tmp 48, .tmp 53]) rfl ?_); at_builtin; go_must (refine Kd.R_append k50 (w0 := w) w.heap.size rfl (.tmp 48) (.tmp 53) 30 50 (.agg #[.int .i64 0, .int .i64 0]) 16 rfl Try.underlying30 infoS rfl (by decide) (by decide) _ (o' ++ [x]) ⟨_, _⟩ [.int .i64 _, .int .i64 _] (fun _ => True) (fun _ => False) rfl (by first | (go_simp; done) | (go_simp; rfl)) (mkS (k : Int) ((k : Int) + 1)) (fun _ h => h.elim) (fun _ _ => trivial) RR.out BW.out BW.out.size (by simp; omega) ?_); intro v1 w2 hR1 hB1 hg1 hat1)
            go_roundw
            case rel => exact ⟨k + 1, _, by omega, by omega, by go_num, Lib.hid hB1, Lib.hid hR1, HS⟩
            case measure => simp [intOf]; omega
      · have HS := Lib.hid (SS.out.skip (by omega) (by rw [Int.toNat_natCast, hgd]; exact hf))
        have hbb : (!b == flag) = true := by revert hf; cases b <;> cases flag <;> simp
        clear hf hgd
        go_wp2
        go_roundw
        case rel => exact ⟨k + 1, o, by omega, by omega, by go_num, BW, RR, HS⟩
        case measure => simp [intOf]; omega
    · clear hN c0
      obtain rfl : k = to' := by omega
      go_wp2
      go_ret
      exact ⟨_, o, rfl, RR.out, SS.out, BW.out⟩
end Go.Proofs.Ytdlgocieecfpbaa.Q
