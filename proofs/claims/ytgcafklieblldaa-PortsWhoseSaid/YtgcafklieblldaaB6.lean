/- The table as an object; the walk of All. No condition but sizes. -/
import Derived.Test.YtgcafklieblldaaB5
namespace Go.Proofs.Ytgcafklieblldaa.SL
open Go.RowKit Go.Proofs.YtgcafklieblldaaW.PrintWords Go.Proofs.YtgcafklieblldaaW.PrintLast Go.Proofs.YtgcafklieblldaaW.PrintMore
abbrev kI : Kd Int := Kd.int .i64
theorem flI : Flat kI := flatI .i64
abbrev obI (v : Value) (l : List Int) : Ob := obW kI 3 flI v l
theorem infoI : (Try.prog.info? 3).map (fun i => (i.zero, i.size, i.bytes)) = some (some (.int .i64 0), 1, 8) := by kernel_rfl
theorem RB_same {w w' : World} {v : Value} {l : List Bd} (h : RB w 0 v l) (hs : ∀ b, v.ownBlock = some b → w'.heap[b]? = w.heap[b]?) : RB w' 0 v l := by
  obtain ⟨h0, inner, hown, hr⟩ := h
  refine ⟨h0, inner, ⟨hown.1, ?_⟩, hr.imp_ fun x c hm => hm⟩
  rcases hown.2 with h1 | ⟨g, cap, cur, e, hg, hb, r⟩
  · exact .inl h1
  · exact .inr ⟨g, cap, cur, e, hg, (hs g (by rw [e]; rfl)).trans hb, r⟩
/-- The table behind a pointer. -/
def obT (p : Nat) (v : Value) (most g : Int) (l : List Bd) : Ob where
  own := p :: v.ownBlock.toList
  all := p :: v.ownBlock.toList
  holds w := TAt w p v most g l
  sub := fun _ h => h
  lt := fun w h b hb => by
    rcases List.mem_cons.1 hb with rfl | hb
    · exact lt_of_block h.st
    · obtain ⟨A, c, rfl, _⟩ := RB_len h.row
      obtain ⟨_, inner, hown, _⟩ := h.row
      rcases hown.2 with ⟨e, _⟩ | ⟨g, cap, cur, e, _, hb', _⟩
      · rw [e] at hb; cases hb
      · rw [e] at hb
        obtain rfl : b = g := by simpa [Value.ownBlock] using hb
        exact lt_of_block hb'
  stab := fun w w' h hs => ⟨(hs p List.mem_cons_self).trans h.st, RB_same h.row fun b hb => hs b (List.mem_cons_of_mem _ (by rw [hb]; simp)), h.ne⟩
def nums (l : List Bd) : List Int := l.map (·.n)
section
variable {w0 w : World} {Γ : List Ob} {p : Nat} {v : Value} {most g : Int} {l : List Bd}
theorem c_find (h : St w0 w Γ) (i : Nat) (hi : Γ[i]? = some (obT p v most g l)) (a : Ad) (port : Int) :
    Calls Try.prog 18 #[.pointer (some ⟨p, 0, none⟩), .agg (aV a), .int .i64 port] w fun e w' => e = .returned (.int .i64 (findP l a port)) ∧ St w0 w' Γ :=
  (find_calls p v most g l a port w (h.get i hi)).mono fun _ _ ⟨he, hb⟩ => ⟨he, h.below hb⟩
theorem St.cellsI (h : St w0 w Γ) (i : Nat) {A : Option Addr} {n c : Nat} {xs : List Int} (hi : Γ[i]? = some (obI (.slice A n c) xs)) : kI.C w A xs.length xs := h.readW i hi
end
set_option maxHeartbeats 2000000 in
theorem all_calls (p : Nat) (v : Value) (most g : Int) (l : List Bd) (w : World) (h : TAt w p v most g l) (hsm : l.length ≤ 1000000) :
    Calls Try.prog 12 #[.pointer (some ⟨p, 0, none⟩)] w fun e w' => ∃ u, e = .returned u ∧ (∃ A c, u = .slice A l.length c) ∧ St w w' [obI u (nums l)] := by
  obtain ⟨A, c, rfl, hlc⟩ := RB_len h.row
  have HT := Lib.hid h
  have hp := lt_of_block h.st
  have g0 := cell_of_row _ _ 2 _ _ _ h.st
  replace g0 : w.cell? ⟨p, 2, none⟩ = some (.slice A l.length c) := g0
  clear h hlc
  have HS0 : Hid (St w w [obI (.slice none 0 0) []]) := Lib.hid ((St.nil w).newW flI)
  go_enter Try.func12, Try.ntmps12
  go_wp2_with fail
  go_loopw [3, 5, 11] (fun u _ i wr => ∃ k : Nat, k ≤ l.length ∧ i = .int .i64 k ∧ Hid (∃ B d, u = .slice B k d) ∧ Hid (St w wr [obI u (nums (l.take k))])) (fun _ _ i _ => l.length - (intOf i).toNat)
  case atStart => exact ⟨0, Nat.zero_le _, rfl, Lib.hid ⟨_, _, rfl⟩, HS0⟩
  case round =>
    obtain ⟨k, hk, rfl, HU, HS⟩ := hrel
    clear HS0
    by_cases hlt : k < l.length
    · have hltz : (k : Int) < (l.length : Int) := by omega
      obtain ⟨gr, c', hv, hra, hgs⟩ := RB_at HT.out.row k l[k] (List.getElem?_eq_getElem hlt)
      injection hv with hA h2 h3
      subst hA h3
      clear h2
      have HL := Lib.hid (rangeAt_below hra hgs HS.out.bl)
      clear hra hgs
      generalize hy : l[k] = y at HL
      have HY := Lib.hid hy
      clear hy
      have c1 := cell_of_row _ _ 0 _ _ _ (heap_alloc_new wr (.cells (bV y) 66))
      replace c1 : (wr.alloc (.cells (bV y) 66)).cell? ⟨wr.heap.size, 0, none⟩ = some (.int .i64 y.n) := c1
      have HS2 := Lib.hid (HS.out.alloc0 (.cells (bV y) 66))
      have hll : (nums (l.take k)).length = k := by simp [nums]; omega
      have HLL := Lib.hid hll
      have HZ := Lib.hid (show (wr.alloc (.cells (bV y) 66)).heap.size = wr.heap.size + 1 by simp)
      clear hll
      go_wp2_with (first | (refine gate_ (.load 66 (.tmp 13)) rfl ?_; go_must (refine ld_B (.tmp 13) rfl rfl HL.out rfl ?_)) | (refine gate_ (.store 66 (.tmp 5) (.tmp 14)) rfl ?_; go_must (refine st_B (.tmp 5) (.tmp 14) rfl rfl rfl rfl rfl ?_)) | (at_builtin; go_must (refine wpList_append_St kI HS2.out 0 rfl rfl (.tmp 15) (.tmp 18) 37 (.int .i64 0) 8 rfl Try.underlying37 infoI rfl (by decide) (by decide) y.n [.int .i64 y.n] rfl (by rw [HZ.out]; rfl) rfl (by rw [HLL.out]; omega) ?_)))
      intro v1 w9 HG HS9
      have HU2 : Hid (∃ B d, v1 = .slice B (k + 1) d) := Lib.hid (by
        obtain ⟨A1, c1, hv1⟩ := HG.out.slice
        exact ⟨A1, c1, by rw [hv1, HLL.out]⟩)
      have HS10 : Hid (St w w9 [obI v1 (nums (l.take (k + 1)))]) := Lib.hid (by
        have e : nums (l.take (k + 1)) = nums (l.take k) ++ [y.n] := by
          unfold nums
          rw [List.take_succ_eq_append_getElem hlt, HY.out, List.map_append]
          rfl
        rw [e]
        exact HS9.out)
      clear HS HS2 HG HS9 c1
      go_wp2
      go_roundw
      case rel => exact ⟨k + 1, by omega, by go_num, HU2, HS10⟩
      case measure => simp [intOf]; omega
    · have hltz : ¬ (k : Int) < (l.length : Int) := by omega
      have hkx : k = l.length := by omega
      subst hkx
      go_wp2
      go_ret
      refine ⟨_, rfl, HU.out, ?_⟩
      have := HS.out
      rw [List.take_length] at this
      exact this
end Go.Proofs.Ytgcafklieblldaa.SL
