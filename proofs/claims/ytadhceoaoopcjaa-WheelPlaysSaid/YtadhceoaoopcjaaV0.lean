/- The walks of the library's MinFunc over a place's list, and of a wheel's Next. No condition but sizes. -/
import Derived.Test.YtadhceoaoopcjaaWK
namespace Go.Proofs.Ytadhceoaoopcjaa.SL
open Go.RowKit Go.Proofs.YtadhceoaoopcjaaW.PrintWords Go.Proofs.YtadhceoaoopcjaaW.PrintLast Go.Proofs.YtadhceoaoopcjaaW.PrintMore
def MinP (l : List Du) (w0 : World) (Γ : List Ob) (e : Ending) (w' : World) : Prop := ∃ d, e = .returned (.agg (dV d)) ∧ d ∈ l ∧ (∀ y ∈ l, d.t ≤ y.t) ∧ St w0 w' Γ
theorem dV_one (d : Du) : (dV d).all (·.oneCell') = true := Array.all_eq_true_iff_forall_mem.2 fun u hu => dL_one d u (by simpa [dL] using hu)
section
variable {w0 w : World} {Γ Δ : List Ob}
structure Six (g k B : Nat) (x y : Du) (W : World) : Prop where
  a : W.cell? ⟨g, k * 3, none⟩ = some (.int .i64 x.id) ∧ W.cell? ⟨g, k * 3 + 1, none⟩ = some (.int .i64 x.t) ∧ W.cell? ⟨g, k * 3 + 2, none⟩ = some (.int .i64 x.x)
  b : W.cell? ⟨B, 0, none⟩ = some (.int .i64 y.id) ∧ W.cell? ⟨B, 1, none⟩ = some (.int .i64 y.t) ∧ W.cell? ⟨B, 2, none⟩ = some (.int .i64 y.x)
theorem Six.all {g k B : Nat} {x y : Du} {W : World} (h : Six g k B x y W) : W.cell? ⟨g, k * 3, none⟩ = some (.int .i64 x.id) ∧ W.cell? ⟨g, k * 3 + 1, none⟩ = some (.int .i64 x.t) ∧ W.cell? ⟨g, k * 3 + 2, none⟩ = some (.int .i64 x.x) ∧ W.cell? ⟨B, 0, none⟩ = some (.int .i64 y.id) ∧ W.cell? ⟨B, 1, none⟩ = some (.int .i64 y.t) ∧ W.cell? ⟨B, 2, none⟩ = some (.int .i64 y.x) := ⟨h.a.1, h.a.2.1, h.a.2.2, h.b⟩
theorem six_of {g n c k : Nat} {l : List Du} (i : Nat) {B R : Nat} {m z : Du} {T : TypeId} (h : St w0 w (obB B (dV m) T :: obB R (dV z) T :: Γ)) (hi : Γ[i]? = some (obD (.slice (some ⟨g, 0, none⟩) n c) l)) (hk : k < l.length) : Six g k B l[k] m w := by
  obtain ⟨g', e1, _, x0, x1, x2⟩ := h.cellD (i + 2) hi k hk
  injection e1 with e1
  injection e1 with e1
  subst e1
  exact ⟨⟨x0, x1, x2⟩, box_cells (h.get 0 rfl)⟩
set_option maxHeartbeats 8000000 in
theorem min_raw (h : St w0 w Γ) (i : Nat) {A : Option Addr} {n c : Nat} {l : List Du} (hi : Γ[i]? = some (obD (.slice A n c) l)) (hn : 0 < l.length) (hb : l.length < 1000000) :
    Calls Try.prog 34 #[.slice A n c, .func (.func 35) #[] #[]] w (MinP l w0 Γ) := by
  obtain ⟨g, rfl, rfl, x0, x1, x2⟩ := h.cellD i hi 0 hn
  have H1 := Lib.hid (h.boxF (dV ⟨0, 0, 0⟩) 36)
  obtain ⟨y0, y1, y2⟩ : (w.alloc (.cells (dV ⟨0, 0, 0⟩) 36)).cell? ⟨g, 0, none⟩ = some (.int .i64 l[0].id) ∧ (w.alloc (.cells (dV ⟨0, 0, 0⟩) 36)).cell? ⟨g, 1, none⟩ = some (.int .i64 l[0].t) ∧ (w.alloc (.cells (dV ⟨0, 0, 0⟩) 36)).cell? ⟨g, 2, none⟩ = some (.int .i64 l[0].x) := by
    obtain ⟨g', e1, _, z0, z1, z2⟩ := H1.out.cellD (i + 1) hi 0 hn
    injection e1 with e1
    injection e1 with e1
    subst e1
    exact ⟨by simpa using z0, by simpa using z1, by simpa using z2⟩
  have HI := Lib.hid hi
  have H2 := Lib.hid (H1.out.boxF (dV l[0]) 36)
  have eg : ∀ args w, (callFunc 35 args).run Try.prog w = .ok (.enter 35 args) w := fun _ _ => rfl
  have hn1 : ¬ (l.length : Int) < 1 := by omega
  have hz : (w.alloc (.cells (dV ⟨0, 0, 0⟩) 36)).heap.size = w.heap.size + 1 := by simp
  rw [hz] at H2
  have HM0 : Hid (l[0] ∈ l ∧ ∀ j (hj : j < l.length), j < 1 → l[0].t ≤ l[j].t) := Lib.hid ⟨List.getElem_mem _, fun j hj h1 => by (obtain rfl : j = 0 := (by omega)); exact Int.le_refl _⟩
  generalize l[0] = m0 at *
  clear h hi H1 x0 x1 x2 hz
  go_enter Try.func34, Try.ntmps34
  go_wp2_with fail
  generalize (w.alloc (.cells (dV ⟨0, 0, 0⟩) 36)).alloc (.cells (dV m0) 36) = W2 at H2 ⊢
  generalize w.heap.size = R at *
  clear y0 y1 y2 hn1
  go_loopw [6] (fun s6 wr => ∃ (k : Nat) (m : Du), 1 ≤ k ∧ k ≤ l.length ∧ s6 = .int .i64 k ∧ Hid (m ∈ l ∧ ∀ j (hj : j < l.length), j < k → m.t ≤ l[j].t) ∧ Hid (St w0 wr (obB (R + 1) (dV m) 36 :: obB R (dV ⟨0, 0, 0⟩) 36 :: Γ))) (fun s6 _ => l.length - (intOf s6).toNat)
  case atStart => exact ⟨1, m0, Nat.le_refl _, hn, rfl, HM0, H2⟩
  case round =>
    obtain ⟨k, m, hk1, hkl, rfl, HM, HS⟩ := hrel
    clear HM0 H2
    have hk0 : (0 : Int) ≤ (k : Int) := by omega
    by_cases hlt : k < l.length
    · have hltz : (k : Int) < (l.length : Int) := by omega
      have HC : Hid (∀ W, Below wr.heap.size wr W → Six g k (R + 1) l[k] m W) := Lib.hid fun W hW => six_of i (HS.out.below hW) HI.out hlt
      have HR : Hid (Below wr.heap.size wr wr) := Lib.hid (Below.refl _ _)
      have HN : Hid (l[k] ∈ l ∧ (l[k].t < m.t → ∀ j (hj : j < l.length), j < k + 1 → l[k].t ≤ l[j].t) ∧ (¬ l[k].t < m.t → ∀ j (hj : j < l.length), j < k + 1 → m.t ≤ l[j].t)) := Lib.hid ⟨List.getElem_mem _, fun h1 j hj hjk => by
          rcases Nat.lt_or_eq_of_le (Nat.le_of_lt_succ hjk) with h2 | h2
          · have := HM.out.2 j hj h2; omega
          · subst h2; exact Int.le_refl _, fun h1 j hj hjk => by
          rcases Nat.lt_or_eq_of_le (Nat.le_of_lt_succ hjk) with h2 | h2
          · exact HM.out.2 j hj h2
          · subst h2; omega⟩
      generalize l[k] = y at *
      have hd : Hid (cmpI y.t m.t = if y.t < m.t then -1 else if m.t < y.t then 1 else 0) := Lib.hid rfl
      generalize hq : cmpI y.t m.t = q at hd
      have HQ := Lib.hid hq
      clear hq
      go_wp2_with fail
      go_region_held3 (fun W => W.cell? ⟨g, k * 3, none⟩ = some (.int .i64 y.id) ∧ W.cell? ⟨g, k * 3 + 1, none⟩ = some (.int .i64 y.t) ∧ W.cell? ⟨g, k * 3 + 2, none⟩ = some (.int .i64 y.x) ∧ W.cell? ⟨R + 1, 0, none⟩ = some (.int .i64 m.id) ∧ W.cell? ⟨R + 1, 1, none⟩ = some (.int .i64 m.t) ∧ W.cell? ⟨R + 1, 2, none⟩ = some (.int .i64 m.x)) ((refine Six.all (HC.out _ ?_); first | exact HR9.out | exact HR.out | exact HR.out.drew)) (first | (go_at_fn 35; refine (nextC_calls y m _).mono ?_; rw [HQ.out]; rintro e w1 ⟨rfl, hb1⟩; have HR9 := Lib.hid (HR.out.drew.trans hb1); clear hb1))
      all_goals
        have HS9 := Lib.hid (HS.out.below HR9.out)
        obtain ⟨z0, z1, z2, -⟩ := Six.all (HC.out _ HR9.out)
        clear HR HS HC
        by_cases hlt2 : y.t < m.t
        · have hq1 : q = -1 := hd.out.trans (if_pos hlt2)
          subst hq1
          have HM3 := Lib.hid (And.intro HN.out.1 (HN.out.2.1 (by omega)))
          clear HN HM hlt2 hd
          go_wp2_with (refine gate_ (.store 36 (.tmp 5) (.tmp 31)) rfl ?_; go_must (refine wpList_store_B HS9.out 0 rfl rfl rfl 36 (.tmp 5) (.tmp 31) rfl (dV y) rfl rfl sizD rfl (dV_one y) ?_; intro W' hs'; have HF : Hid (St w0 W' (obB (R + 1) (dV y) 36 :: obB R (dV ⟨0, 0, 0⟩) 36 :: Γ)) := Lib.hid hs'; clear hs'))
          go_roundw
          case rel => exact ⟨k + 1, y, by omega, by omega, by go_num, HM3, HF⟩
          case measure => simp [intOf]; omega
        · have hq1 : ¬ q < 0 := by
            have h1 := hd.out
            rw [if_neg hlt2] at h1
            split at h1 <;> omega
          have HM3 := Lib.hid (And.intro HM.out.1 (HN.out.2.2 (by omega)))
          clear HN HM hlt2 hd
          go_wp2_with fail
          go_roundw
          case rel => exact ⟨k + 1, m, by omega, by omega, by go_num, HM3, HS9⟩
          case measure => simp [intOf]; omega
    · have hltz : ¬ (k : Int) < (l.length : Int) := by omega
      have hx := box_cells (show wr.heap[R + 1]? = some (.cells (dV m) 36 (0, 0)) from HS.out.get 0 rfl)
      obtain ⟨x0, x1, x2⟩ := hx
      have HM2 : Hid (m ∈ l ∧ ∀ y ∈ l, m.t ≤ y.t) := Lib.hid ⟨HM.out.1, fun y hy => by
        obtain ⟨j, hj, rfl⟩ := List.getElem_of_mem hy
        exact HM.out.2 j hj (by omega)⟩
      clear HM
      go_wp2_with (refine gate_ (.store 36 (.tmp 4) (.tmp 32)) rfl ?_; go_must (refine wpList_store_B HS.out 1 rfl rfl rfl 36 (.tmp 4) (.tmp 32) rfl (dV m) rfl rfl sizD rfl (dV_one m) ?_; intro W' hs'; have HF := Lib.hid hs'; clear hs'))
      obtain ⟨x0, x1, x2⟩ := box_cells (show W'.heap[R]? = some (.cells (dV m) 36 (0, 0)) from HF.out.get 1 rfl)
      refine bodyPost_ret (v := .agg (dV m)) (by simp [results, Try.results34, go_sem, x0, x1, x2]) rfl ⟨m, rfl, HM2.out.1, HM2.out.2, ?_⟩
      exact HF.out.sub ((List.sublist_cons_self _ _).trans (List.sublist_cons_self _ _))
end
end Go.Proofs.Ytadhceoaoopcjaa.SL
