/- The walk of the document's spans: the stretches of one flag, as a right list. No condition. -/
import Derived.Test.YtdlgocieecfpbaaR1
import Derived.Deep.AppendLies
namespace Go.Proofs.Ytdlgocieecfpbaa.Q
open Go.RowKit Go.Proofs.YtdlgocieecfpbaaW.PrintWords Go.Proofs.YtdlgocieecfpbaaW.PrintLast Go.Proofs.YtdlgocieecfpbaaW.PrintMore Go.Proofs.Ytdlgocieecfpbaa.SL

theorem infoI : (Try.prog.info? 3).map (·.size) = some 1 := by kernel_rfl
theorem C_pair {w : World} {A : Option Addr} {l : List Sp} {g : Nat} (h : Kd.C k50 w A l.length l) (hA : A = some ⟨g, 0, none⟩) (k : Nat) (hk : k < l.length) : w.cell? ⟨g, k * 2, none⟩ = some (.int .i64 l[k].f0) ∧ w.cell? ⟨g, k * 2 + 1, none⟩ = some (.int .i64 l[k].f1) := by
  obtain ⟨ad, hA', h0, h1⟩ := at_T50 h (k : Int) (by omega) (by omega)
  obtain rfl : ad = ⟨g, 0, none⟩ := Option.some.inj (hA'.symm.trans hA)
  rw [rdT l k hk] at h0 h1
  simp only [add_plain, Int.toNat_natCast] at h0 h1
  exact ⟨h0, h1⟩
theorem R_set1 {w : World} {base g n cap : Nat} {xs : List Sp} (h : Kd.R k50 50 w base (fun _ => True) (.slice (some ⟨g, 0, none⟩) n cap) xs) (k : Nat) (hk : k < xs.length) (y : Int) :
    Kd.R k50 50 (w.setCell ⟨g, k * 2 + 1, none⟩ (.int .i64 y)) base (fun _ => True) (.slice (some ⟨g, 0, none⟩) n cap) (xs.set k ⟨xs[k].f0, y⟩) := by
  obtain ⟨hn, _, hC⟩ := Kd.R_reads' h
  obtain ⟨l0, l1⟩ := C_pair hC rfl k hk
  have := (Kd.R_seg h (i := (k : Int)) (j := 1) (x' := ⟨xs[k].f0, y⟩) (seg := [.int .i64 y]) (c := [.int .i64 xs[k].f0, .int .i64 xs[k].f1]) (okp := fun _ => False) (by omega) (by omega) rfl (by
    intro j u hu
    rw [Int.toNat_natCast]
    match j, hu with
    | 0, hu => (obtain rfl := Option.some.inj hu; exact l0)
    | 1, hu => (obtain rfl := Option.some.inj hu; exact l1)) (Nat.le_refl 2) (mkS _ _) (fun _ h => h.elim)).1
  rw [Int.toNat_natCast] at this
  exact this
set_option maxHeartbeats 1000000 in
set_option maxRecDepth 100000 in
theorem spans_calls (q t : Nat) (bits : List Bool) (ends top : Int) (fr to' : Nat) (flag : Bool) (w : World) (hR : RefAt w q t bits ends top) (hft : fr ≤ to') (hto : to' ≤ 65535) :
    Calls Try.prog 28 #[.pointer (some ⟨q, 0, none⟩), .int .i64 fr, .int .i64 to', .bool flag] w fun e w' => ∃ v o, e = .returned v ∧ Kd.R k50 50 w' w.heap.size (fun _ => True) v o ∧ SpA bits flag fr to' o ∧ Below w.heap.size w w' := by
  have hu := Try.underlying50
  have hub := Try.underlying53
  have hus := Try.underlying30
  have HR := Lib.hid hR
  clear hR
  go_enter Try.func28, Try.ntmps28
  go_wp2_with fail
  go_loopw [9, 10] (fun v i wr => ∃ (k : Nat) (o : List Sp), fr ≤ k ∧ k ≤ to' ∧ i = .int .i64 k ∧ Hid (Below w.heap.size w wr) ∧ Hid (Kd.R k50 50 wr w.heap.size (fun _ => True) v o) ∧ Hid (SpA bits flag fr k o)) (fun _ i _ => to' - (intOf i).toNat)
  case atStart => exact ⟨fr, [], Nat.le_refl _, hft, rfl, Lib.hid (Below.refl _ _), Lib.hid (Kd.R_nil _ _ _ _ _), Lib.hid (SpA.start _ _ _)⟩
  case round =>
    obtain ⟨k, o, hk1, hk2, rfl, BW, RR, SS⟩ := hrel
    have HRw := Lib.hid (HR.out.below BW.out)
    obtain ⟨N, hN, c0⟩ : ∃ N, N = 65535 ∧ wr.cell? ⟨q, 0, none⟩ = some (.slice (some ⟨t, 0, none⟩) N N) := ⟨_, rfl, HRw.out.c0⟩
    by_cases hlt : k < to'
    · have hltz : (k : Int) < (to' : Int) := by omega
      have hkl : k < bits.length := by rw [HR.out.len]; omega
      have hbit := HRw.out.bit k hkl
      have hgd : bits.getD k (!flag) = bits[k] := by rw [List.getD_eq_getElem?_getD, List.getElem?_eq_getElem hkl]; rfl
      have hol := rightB_len SS.out.right
      generalize bits[k] = b at *
      have hk65 : (k : Int) < (N : Int) := by omega
      have hkN : k < N := by omega
      have HN := Lib.hid hN
      clear hN
      by_cases hf : b = flag
      · subst hf
        have hgd' : bits.getD (k : Int).toNat (!b) = b := by rw [Int.toNat_natCast]; exact hgd
        have HG := Lib.hid hgd'
        clear hgd hgd'
        have hbb : (!b == b) = false := by cases b <;> rfl
        rcases List.eq_nil_or_concat o with ho | ⟨o', x, ho⟩
        · subst ho
          obtain ⟨A9, c9, hv⟩ := Kd.R_slice RR.out
          rw [List.length_nil] at hv
          have HS := Lib.hid (SS.out.one (by omega) (by omega) (by omega) HG.out (fun s hs => by cases hs))
          subst hv
          go_wp2_with ((with_reducible refine gate_builtin (b := .append) (xs := #[.tmp 48, .tmp 53]) rfl ?_); at_builtin; go_must (refine Kd.R_append k50 (w0 := w) w.heap.size rfl (.tmp 48) (.tmp 53) 30 50 (.agg #[.int .i64 0, .int .i64 0]) 16 rfl Try.underlying30 infoS rfl (by decide) (by decide) _ [] ⟨_, _⟩ [.int .i64 _, .int .i64 _] (fun _ => True) (fun _ => False) rfl (by first | (go_simp; done) | (go_simp; rfl)) (mkS (k : Int) ((k : Int) + 1)) (fun _ h => h.elim) (fun _ _ => trivial) RR.out BW.out BW.out.size (by simp) ?_); intro v1 w2 hR1 hB1 hg1 hat1)
          go_roundw
          case rel => exact ⟨k + 1, _, by omega, by omega, by go_num, Lib.hid hB1, Lib.hid hR1, HS⟩
          case measure => simp [intOf]; omega
        · rw [List.concat_eq_append] at ho
          subst ho
          obtain ⟨inner, hown⟩ := Kd.R_own RR.out
          obtain ⟨g, cap, hv, hbg, hgl⟩ := hown.form (by simp)
          rw [List.length_append, List.length_singleton] at hv
          subst hv
          obtain ⟨l0, l1⟩ := C_pair (Kd.R_reads' RR.out).2.2 rfl o'.length (by simp)
          have hx : (o' ++ [x])[o'.length]'(by simp) = x := by simp
          rw [hx] at l0 l1
          rw [List.length_append, List.length_singleton] at hol
          have hgf : wr.frozen? ⟨g, o'.length * 2 + 1, none⟩ = false := by
            obtain ⟨cells, hc⟩ := own_typed hown g (by simp [Value.ownBlock])
            simp [World.frozen?, hc]
          clear hown
          by_cases he : x.f1 = (k : Int)
          · have HS := Lib.hid (SS.out.more (by omega) (by omega) HG.out he)
            have heq : (x.f1 == (k : Int)) = true := by rw [beq_iff_eq]; exact he
            clear he
            have hR1 := R_set1 RR.out o'.length (by simp) ((k : Int) + 1)
            have hB1 := (BW.out).setCell (p := ⟨g, o'.length * 2 + 1, none⟩) hbg (.int .i64 ((k : Int) + 1))
            rw [hx, show (o' ++ [x]).set o'.length ⟨x.f0, (k : Int) + 1⟩ = o' ++ [⟨x.f0, (k : Int) + 1⟩] by simp] at hR1
            have HR1 := Lib.hid hR1
            have HB1 := Lib.hid hB1
            clear hR1 hB1
            go_wp2
            go_roundw
            case rel => exact ⟨k + 1, _, by omega, by omega, by go_num, HB1, HR1, HS⟩
            case measure => simp [intOf]; omega
          · have HS := Lib.hid (SS.out.one (by omega) (by omega) (by omega) HG.out (SS.out.lt_last he))
            have heq : (x.f1 == (k : Int)) = false := by rw [beq_eq_false_iff_ne]; exact he
            clear he
            go_wp2_with ((with_reducible refine gate_builtin (b := .append) (xs := #[.tmp 48, .tmp 53]) rfl ?_); at_builtin; go_must (refine Kd.R_append k50 (w0 := w) w.heap.size rfl (.tmp 48) (.tmp 53) 30 50 (.agg #[.int .i64 0, .int .i64 0]) 16 rfl Try.underlying30 infoS rfl (by decide) (by decide) _ (o' ++ [x]) ⟨_, _⟩ [.int .i64 _, .int .i64 _] (fun _ => True) (fun _ => False) rfl (by first | (go_simp; done) | (go_simp; rfl)) (mkS (k : Int) ((k : Int) + 1)) (fun _ h => h.elim) (fun _ _ => trivial) RR.out BW.out BW.out.size (by simp; omega) ?_); intro v1 w2 hR1 hB1 hg1 hat1)
            go_roundw
            case rel => exact ⟨k + 1, _, by omega, by omega, by go_num, Lib.hid hB1, Lib.hid hR1, HS⟩
            case measure => simp [intOf]; omega
      · have HS := Lib.hid (SS.out.skip (by omega) (by rw [Int.toNat_natCast, hgd]; exact hf))
        have hbb : (!b == flag) = true := by revert hf; cases b <;> cases flag <;> simp
        clear hf hgd
        go_wp2
        go_roundw
        case rel => exact ⟨k + 1, o, by omega, by omega, by go_num, BW, RR, HS⟩
        case measure => simp [intOf]; omega
    · clear hN c0
      obtain rfl : k = to' := by omega
      go_wp2
      go_ret
      exact ⟨_, o, rfl, RR.out, SS.out, BW.out⟩
end Go.Proofs.Ytdlgocieecfpbaa.Q
