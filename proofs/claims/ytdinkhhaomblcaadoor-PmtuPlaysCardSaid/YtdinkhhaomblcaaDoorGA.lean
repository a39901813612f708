/- The walk of Tick. No condition but sizes. -/
import Derived.Test.YtdinkhhaomblcaaDoorG8
import Derived.Deep.QuietTactic
namespace Go.Proofs.YtdinkhhaomblcaaDoor.SL
open Go.RowKit Go.Proofs.YtdinkhhaomblcaaDoorW.PrintWords Go.Proofs.YtdinkhhaomblcaaDoorW.PrintLast Go.Proofs.YtdinkhhaomblcaaDoorW.PrintMore
theorem RA_at {w : World} {base : Nat} {v : Value} {l : List Ad} {ok : Nat → Prop} (h : kA.R 32 w base ok v l) (k : Nat) (x : Ad) (hk : l[k]? = some x) : ∃ g c, v = .slice (some ⟨g, 0, none⟩) l.length c ∧ w.rangeAt g (k * 17) (aL x) ∧ g < w.heap.size := by
  have hlt : k < l.length := (List.getElem?_eq_some_iff.1 hk).1
  have hx : l[k] = x := (List.getElem?_eq_some_iff.1 hk).2
  obtain ⟨_, inner, hown, _⟩ := id h
  obtain ⟨A, c, e, hl, hC⟩ := Kd.R_reads h
  rcases hown.2 with ⟨e2, e0⟩ | ⟨g, cap, cur, e2, _, hg, _⟩
  · omega
  · rw [e] at e2
    injection e2 with e3 _ e5
    subst e3 e5
    obtain ⟨ad, cs, hA, hlen, hK, hc⟩ := Kd.C_get hC x (k : Int) (by omega) (by omega)
    obtain rfl : (⟨g, 0, none⟩ : Addr) = ad := by injection hA
    have hcs : cs = aL x := by
      have hK' : cs = aL (l.getD (k : Int).toNat x) := hK
      rw [hK', Int.toNat_natCast, List.getD_eq_getElem?_getD, hk]
      rfl
    refine ⟨g, c, e, fun j u hu => ?_, lt_of_block hg⟩
    have := hc j u (by rw [hcs]; exact hu)
    rw [Int.toNat_natCast, add_plain] at this
    rw [show k * 17 + j = 0 + (k * 17 + j) by omega]
    have e2 : (0 : Nat) + (k * 17 + j) = 0 + (k * kA.sz + j) := rfl
    rw [e2]
    simpa using this
def beL (x : Bel) : List Value := [.int .i64 x.est, .int .i64 x.fst, .int .i64 x.clk, .int .i64 x.hrd]
theorem lvBe {w : World} {b k : Nat} {x : Bel} (h : w.rangeAt b k (beL x)) : (loadVar 90 ⟨b, k, none⟩).run Tryd.prog w = .ok (.agg (beA x)) w :=
  run_loadVar_mid w b k _ (beL x) _ h Tryd.underlying90 rfl (by exact beSz)
theorem range_Be {w : World} {b : Nat} {x : Bel} {T : TypeId} {fr : Nat × Nat} (h : w.heap[b]? = some (.cells (beA x) T fr)) : w.rangeAt b 0 (beL x) := rangeAt_row h 0 _ fun j u hu => by
  rw [Nat.zero_add]
  simpa [beL, beA] using hu
theorem runT_take {now : Int} {above : Int → Int} {M : Mp} {xs : List Ad} {k : Nat} (h : k < xs.length) : runT now above M (xs.take (k + 1)) = stepT now above (runT now above M (xs.take k)) xs[k] := by
  unfold runT
  rw [List.take_succ_eq_append_getElem h, List.foldl_append]
  rfl
theorem runT_nd {now : Int} {above : Int → Int} : ∀ {M : Mp} (D : List Ad), NdM M → NdM (runT now above M D)
  | _, [], h => h
  | M, a :: D, h => by
    unfold runT
    rw [List.foldl_cons]
    exact runT_nd (M := stepT now above M a) D (nd_step h a)
theorem runT_look {now : Int} {above : Int → Int} {M : Mp} {xs : List Ad} {k : Nat} (h : k < xs.length) (hn : xs.Nodup) (hM : NdM M) (hm : ∀ x ∈ xs, x ∈ M.map (·.1)) : ∃ v, lookM (runT now above M (xs.take k)) xs[k] = some v ∧ (xs[k], v) ∈ M := by
  obtain ⟨y, hy, he⟩ := List.mem_map.1 (hm _ (List.getElem_mem h))
  refine ⟨y.2, ?_, by rw [← he]; exact hy⟩
  have hnk : (xs.take k).Nodup := hn.sublist (List.take_sublist _ _)
  have hnot : xs[k] ∉ xs.take k := fun hmem => by
    obtain ⟨j, hj, e⟩ := List.getElem_of_mem hmem
    have hj' : j < k := by rw [List.length_take] at hj; omega
    rw [List.getElem_take] at e
    have := (List.getElem_inj hn).1 e
    omega
  have hrun := run_map (now := now) (above := above) (xs.take k) M hnk hM
  have hnd : NdM (runT now above M (xs.take k)) := runT_nd _ hM
  rw [look_mem hnd, hrun]
  refine List.mem_filterMap.2 ⟨y, hy, ?_⟩
  rw [if_neg (by rw [he]; exact hnot), ← he]
attribute [-go_sem] loadVar storeVar Instr.buildSlice
attribute [local go_sem] lv3 lv64 lvMap bls_A
attribute [local go_sem ↓] Go.wp_at_zero Go.wp_at_succ
set_option maxHeartbeats 4000000 in
set_option maxRecDepth 100000 in
theorem tick_bad (p b : Nat) (c : Ca) (now : Int) (w : World) (h : CaAt w p b c) (hm : mayS c now = false) :
    Calls Tryd.prog 19 #[.pointer (some ⟨p, 0, none⟩), .int .i64 now] w fun e w' => e = .returned (.tuple #[.slice none 0 0, .int .i64 1]) ∧ Below w.heap.size w w' := by
  have HC := Lib.hid h
  have HM := Lib.hid hm
  clear h hm
  go_enter Tryd.func19, Tryd.ntmps19
  go_wp2_with (go_at_call 34; refine (may_calls p b c now _ HC.out).mono ?_; rw [HM.out]; rintro e w1 ⟨rfl, hb1⟩; have HB := Lib.hid hb1; clear hb1)
  go_ret2
  exact ⟨rfl, HB.out⟩
end Go.Proofs.YtdinkhhaomblcaaDoor.SL
