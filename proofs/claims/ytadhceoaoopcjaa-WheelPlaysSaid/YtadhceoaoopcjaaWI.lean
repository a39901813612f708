/- The walks of the library's IndexFunc and DeleteFunc over a place's list, with Cancel's closure: the one timer of that id goes. No condition but sizes. -/
import Derived.Test.YtadhceoaoopcjaaWG
import Derived.Shelf.Abstract
namespace Go.Proofs.Ytadhceoaoopcjaa.SL
open Go.RowKit Go.Proofs.YtadhceoaoopcjaaW.PrintWords Go.Proofs.YtadhceoaoopcjaaW.PrintLast Go.Proofs.YtadhceoaoopcjaaW.PrintMore
theorem addr0 (ad : Addr) (h1 : ad.spot = none) (h2 : ad.off = 0) : ad = ⟨ad.block, 0, none⟩ := by
  cases ad
  simp only at h1 h2
  subst h1 h2
  rfl
/-- The cells of an element of a list of timers. -/
theorem RD_at {w : World} {base : Nat} {v : Value} {l : List Du} {ok : Nat → Prop} (h : kD.R 36 w base ok v l) (k : Nat) (x : Du) (hk : l[k]? = some x) :
    ∃ g c, v = .slice (some ⟨g, 0, none⟩) l.length c ∧ w.cell? ⟨g, k * 3, none⟩ = some (.int .i64 x.id) ∧ w.cell? ⟨g, k * 3 + 1, none⟩ = some (.int .i64 x.t) ∧ w.cell? ⟨g, k * 3 + 2, none⟩ = some (.int .i64 x.x) := by
  have hkl := (List.getElem?_eq_some_iff.1 hk).1
  obtain ⟨inner, ho⟩ := Kd.R_own h
  obtain ⟨g, cap, hv, _, _⟩ := ho.form (by omega)
  obtain ⟨A, c, hv2, hc, hC⟩ := Kd.R_reads h
  rw [hv] at hv2
  injection hv2 with e1 e2 e3
  subst e1 e3
  obtain ⟨ad, cs, hA, _, hK, hcs⟩ := Kd.C_get hC x (k : Int) (by omega) (by omega)
  obtain rfl : ad = ⟨g, 0, none⟩ := (Option.some.inj hA).symm
  obtain rfl : cs = dL (l.getD (k : Int).toNat x) := hK
  rw [Int.toNat_natCast, List.getD_eq_getElem?_getD, hk] at hcs
  have hadd : ∀ i, (⟨g, 0, none⟩ : Addr).add i = ⟨g, i, none⟩ := fun i => by unfold Addr.add; split <;> simp_all
  refine ⟨g, cap, hv, ?_, ?_, ?_⟩
  · have := hcs 0 _ rfl
    rw [hadd] at this
    exact this
  · have := hcs 1 _ rfl
    rw [hadd] at this
    exact this
  · have := hcs 2 _ rfl
    rw [hadd] at this
    exact this
section
variable {w0 w : World} {Γ : List Ob}
theorem St.cellD (h : St w0 w Γ) (i : Nat) {A : Option Addr} {n c : Nat} {l : List Du} (hi : Γ[i]? = some (obD (.slice A n c) l)) (k : Nat) (hk : k < l.length) :
    ∃ g, A = some ⟨g, 0, none⟩ ∧ n = l.length ∧ w.cell? ⟨g, k * 3, none⟩ = some (.int .i64 l[k].id) ∧ w.cell? ⟨g, k * 3 + 1, none⟩ = some (.int .i64 l[k].t) ∧ w.cell? ⟨g, k * 3 + 2, none⟩ = some (.int .i64 l[k].x) := by
  obtain ⟨g, c', hv, h0, h1, h2⟩ := RD_at (show kD.R _ _ _ _ _ _ from h.get i hi) k l[k] (List.getElem?_eq_getElem hk)
  injection hv with e1 e2 e3
  exact ⟨g, e1, e2, h0, h1, h2⟩
set_option maxHeartbeats 4000000 in
theorem index_raw (h : St w0 w Γ) (i : Nat) {A : Option Addr} {n c : Nat} {l : List Du} (hi : Γ[i]? = some (obD (.slice A n c) l)) (jb : Nat) {B : Nat} {id : Int} {T : TypeId} (hj : Γ[jb]? = some (obB B #[.int .i64 id] T)) {k : Nat} (hk : k < l.length) (h1 : l[k].id = id) (h0 : ∀ j (hj : j < l.length), j < k → l[j].id ≠ id) (hb : l.length < 1000000) :
    Calls Try.prog 50 #[.slice A n c, .func (.func 33) #[] #[.pointer (some ⟨B, 0, none⟩)]] w fun e w' => e = .returned (.int .i64 (k : Int)) ∧ St w0 w' Γ := by
  have hn : n = l.length := (Kd.R_reads' (h.get i hi)).1
  subst hn
  have HI := Lib.hid (And.intro hi hj)
  have H1 := Lib.hid h1
  have H0 := Lib.hid h0
  have HS := Lib.hid h
  have eg : ∀ args w, (callFunc 33 args).run Try.prog w = .ok (.enter 33 args) w := fun _ _ => rfl
  clear h hi hj h1 h0
  go_enter Try.func50, Try.ntmps50
  go_wp2
  go_loopg [5, 8] l.length (fun gg _ s8 wr => ∃ kk : Nat, kk ≤ k ∧ l.length - kk ≤ gg ∧ s8 = .int .i64 kk ∧ Hid (St w0 wr Γ)) 
  case atStart => exact ⟨0, Nat.zero_le _, by omega, rfl, HS⟩
  case round =>
    obtain ⟨kk, hkk, hg, rfl, HW⟩ := hrel
    clear HS
    have hlt : kk < l.length := by omega
    have hltz : (kk : Int) < (l.length : Int) := by omega
    have hkz : (0 : Int) ≤ (kk : Int) := by omega
    obtain ⟨gr, rfl, _, x0, x1, x2⟩ := HW.out.cellD i HI.out.1 kk hlt
    have HC := Lib.hid (cancelC_calls l[kk] B id wr (HW.out.cellB jb HI.out.2 0 rfl))
    have HWA := Lib.hid (HW.out.alloc0 (.cells (dV l[kk]) 36))
    by_cases hq : l[kk].id = id
    · have hke : kk = k := by
        rcases Nat.lt_or_eq_of_le hkk with hl | he
        · exact absurd hq (H0.out kk hlt hl)
        · exact he
      have hq2 : (l[kk].id == id) = true := by simpa using hq
      rw [hq2] at HC
      generalize l[kk] = y at *
      have HKE := Lib.hid hke
      clear hq hq2 H1 H0 hke
      go_wp2_with (go_at_fn 33; refine HC.out.mono ?_; rintro e w' ⟨rfl, rfl⟩)
      go_ret
      refine ⟨?_, HWA.out⟩
      rw [HKE.out]
      rfl
    · have hq2 : (l[kk].id == id) = false := by simpa using hq
      have hke : kk < k := by
        rcases Nat.lt_or_eq_of_le hkk with hl | he
        · exact hl
        · subst he; exact absurd H1.out hq
      rw [hq2] at HC
      generalize l[kk] = y at *
      clear hq hq2 H1 H0
      go_wp2_with (go_at_fn 33; refine HC.out.mono ?_; rintro e w' ⟨rfl, rfl⟩)
      go_roundg (l.length - (kk + 1))
      case measure => omega
      case rel => exact ⟨kk + 1, by omega, by omega, by go_num, HWA⟩
end
end Go.Proofs.Ytadhceoaoopcjaa.SL
