/- The walk of the statement PlateauKeeps over the table that the program lays. -/
import Derived.Test.YtffdjplhnbkgfaaDoorW2
import Derived.Test.YtffdjplhnbkgfaaDoorTm
import Derived.IntWalk
namespace Go.Proofs.YtffdjplhnbkgfaaDoor
open Go.RowKit Go.Proofs.YtffdjplhnbkgfaaDoorW.PrintWords Go.Proofs.YtffdjplhnbkgfaaDoorW.PrintLast Go.Proofs.YtffdjplhnbkgfaaDoorW.PrintMore Go.Proofs.YtffdjplhnbkgfaaDoor.SL

def L12 : List Int := [65535, 32000, 17914, 8166, 4352, 2002, 1492, 1280, 1006, 508, 296, 68]
abbrev kI : Kd Int := Kd.int .i64
theorem flI : Flat kI := flatI .i64
theorem szI : 0 < kI.sz := by decide
abbrev obI (v : Value) (l : List Int) : Ob := obW kI 3 flI v l
def cI (_ : Nat) : List Int := L12
def mkI (j : Nat) : Int := -1 - j
def fcI (j : Nat) : List Int := List.replicate 12 (mkI j)
theorem fcI_get (j m : Nat) (h : m < 12) : (fcI j)[m]? = some (mkI j) := by unfold fcI; rw [List.getElem?_replicate, if_pos h]
theorem infoI : (Tryd.prog.info? 3).map (fun i => (i.zero, i.size, i.bytes)) = some (some (.int .i64 0), 1, 8) := by kernel_rfl
theorem sizeI : (Tryd.prog.info? 3).map (·.size) = some 1 := by kernel_rfl
section
variable {w0 w : World} {Γ : List Ob}
theorem cells12_R (w : World) : kI.R 3 (w.alloc (.cells cells12 3)) w.heap.size (fun _ => True) (.slice (some ⟨w.heap.size, 0, none⟩) 12 12) L12 := by
  have h := own_lit w w.heap.size 3 .i64 L12 (Nat.le_refl _) (by decide)
  exact Kd.R_of_own h (fun _ _ => trivial)
theorem St.new12 (h : St w0 w Γ) : St w0 (w.alloc (.cells cells12 3)) (Γ ++ [obI (.slice (some ⟨w.heap.size, 0, none⟩) 12 12) L12]) :=
  h.addW flI ((Touch.refl [] w).alloc _).below (cells12_R w)
theorem cellI {A : Option Addr} {n c : Nat} {l : List Int} (h : kI.R 3 w 0 (fun _ => True) (.slice A n c) l) (i : Nat) (hi : i < l.length) : ∃ ad, A = some ad ∧ w.cell? (ad.add i) = some (.int .i64 (l.getD i 0)) := by
  obtain ⟨_, _, hC⟩ := Kd.R_reads' h
  obtain ⟨ad, c, hA, _, hK, hc⟩ := Kd.C_get hC 0 (i : Int) (by omega) (by omega)
  obtain rfl : c = [.int .i64 (l.getD (i : Int).toNat 0)] := hK
  rw [Int.toNat_natCast] at hc
  have := hc 0 _ rfl
  exact ⟨ad, hA, by simpa [Kd.int, Kd.scalar] using this⟩
theorem cellIC {A : Option Addr} {n : Nat} {l : List Int} (hC : kI.C w A n l) (hn : n = l.length) (i : Nat) (hi : i < l.length) : ∃ ad, A = some ad ∧ w.cell? (ad.add i) = some (.int .i64 (l.getD i 0)) := by
  subst hn
  obtain ⟨ad, c, hA, _, hK, hc⟩ := Kd.C_get hC 0 (i : Int) (by omega) (by omega)
  obtain rfl : c = [.int .i64 (l.getD (i : Int).toNat 0)] := hK
  rw [Int.toNat_natCast] at hc
  have := hc 0 _ rfl
  exact ⟨ad, hA, by simpa [Kd.int, Kd.scalar] using this⟩
theorem St.grow12 {K k : Nat} {ks : List Hdr} (h : St w0 w ([obA K ks 29] ++ (fam k (famL kI 3 flI ks cI) ++ []))) (hk : k < ks.length) :
    St w0 ((w.alloc (.cells cells12 3)).setCell ⟨K, k, none⟩ (.slice (some ⟨w.heap.size, 0, none⟩) 12 12)) ([obA K (ks.set k (some ⟨w.heap.size, 0, none⟩, 12, 12)) 29] ++ (fam (k + 1) (famL kI 3 flI (ks.set k (some ⟨w.heap.size, 0, none⟩, 12, 12)) cI) ++ [])) := by
  have h2 := (St.new12 h).setA 0 rfl k (some ⟨w.heap.size, 0, none⟩, 12, 12)
  have e : fam (k + 1) (famL kI 3 flI (ks.set k (some ⟨w.heap.size, 0, none⟩, 12, 12)) cI) = fam k (famL kI 3 flI ks cI) ++ [obI (.slice (some ⟨w.heap.size, 0, none⟩) 12 12) L12] := by
    rw [fam_snoc]
    congr 1
    · refine fam_congr fun j hj => ?_
      show obW _ _ _ _ _ = obW _ _ _ _ _
      rw [hd_set _ _ _ _ hk, if_neg (by omega)]
    · show [obW _ _ _ _ _] = _
      rw [hd_set _ _ _ _ hk, if_pos rfl]
      rfl
  rw [e, List.append_nil]
  rw [List.append_nil] at h2
  exact h2
theorem rep_getD (n m : Nat) (x : Int) (h : m < n) : (List.replicate n x).getD m 0 = x := by
  simp [List.getD_eq_getElem?_getD, h]
end
theorem two12 (w : World) (i : Nat) (v : Value) (h : cells12[i]? = some v) : ((w.alloc (.cells cells12 3)).alloc (.cells cells12 3)).cell? ⟨w.heap.size, i, none⟩ = some v := by
  have h2 : ((w.alloc (.cells cells12 3)).alloc (.cells cells12 3)).heap[w.heap.size]? = some (.cells cells12 3 (0, 0)) :=
    (Below.heap_alloc (w.alloc (.cells cells12 3)) (.cells cells12 3) w.heap.size (by simp)).trans (heap_alloc_new w _)
  rw [cell_of_row _ _ _ _ _ _ h2]
  exact h
set_option maxHeartbeats 4000000 in
set_option maxRecDepth 100000 in
theorem keeps_any (n : Int) (w : World) (hT : Tab w) :
    Calls Tryd.prog 6 #[.int .i64 n] w fun e w' => e = .returned (.bool true) ∧ Below w.heap.size w w' := by
  have HT := Lib.hid hT
  have hi1 : (below n == below n) = true := by simp
  have hi2 : (above n == above n) = true := by simp
  clear hT
  go_enter Tryd.func6, Tryd.ntmps6
  go_wp2_with fail
  have HS : Hid (St w _ ([obA w.heap.size [(none, 0, 0), (none, 0, 0), (none, 0, 0)] 29] ++ (fam 0 (famL kI 3 flI [(none, 0, 0), (none, 0, 0), (none, 0, 0)] cI) ++ []))) := Lib.hid ((St.nil w).box _ _)
  generalize w.heap.size = K at HS ⊢
  go_loopw [4] (fun i wr => ∃ (k : Nat) (ks : List Hdr), k ≤ 3 ∧ ks.length = 3 ∧ i = .int .i64 k ∧ Hid (St w wr ([obA K ks 29] ++ (fam k (famL kI 3 flI ks cI) ++ [])))) (fun i _ => 3 - (intOf i).toNat)
  case atStart => exact ⟨0, _, by omega, rfl, rfl, HS⟩
  case round =>
    obtain ⟨k, ks, hk, hks, rfl, HS2⟩ := hrel
    clear HS
    have HL := Lib.hid hks
    clear hks
    by_cases hlt : k < 3
    · have hltz : (k : Int) < 3 := by omega
      have hTr := HT.out.below HS2.out.bl
      obtain ⟨g0, g1⟩ := (HS2.out.alloc0 (.cells cells12 3)).cellA 0 rfl k (by rw [HL.out]; exact hlt)
      go_wp2_with (go_at_call 12; refine (all_any _ hTr).mono ?_; rintro e w' ⟨rfl, rfl⟩)
      go_roundw
      case rel => exact ⟨k + 1, _, by omega, (List.length_set ..).trans HL.out, by go_num, Lib.hid (St.grow12 HS2.out (by rw [HL.out]; exact hlt))⟩
      case measure => simp [intOf]; omega
    · obtain rfl : k = 3 := by omega
      clear hk hlt
      have HN := Lib.hid (show ∀ k, k < 3 → (hd ks k).2.1 = 12 from fun k hk => (Kd.R_reads' (HS2.out.get _ (fam_at [obA K ks 29] (famL kI 3 flI ks cI) [] hk))).1)
      go_wp2_with fail
      go_loop [5] (fun i => ∃ k : Nat, k ≤ 3 ∧ i = .int .i64 k) (fun i => 3 - (intOf i).toNat)
      case atStart => exact ⟨0, by omega, rfl⟩
      case round =>
        obtain ⟨k, hk, rfl⟩ := hrel
        by_cases hlt : k < 3
        · have hltz : (k : Int) < 3 := by omega
          obtain ⟨g0, _⟩ := HS2.out.cellA 0 rfl k (by rw [HL.out]; exact hlt)
          have f0 := fam_at [obA K ks 29] (famL kI 3 flI ks cI) [] hlt
          obtain ⟨s, hsk⟩ : ∃ s, hd ks k = s := ⟨_, rfl⟩
          rw [hsk] at g0
          have f1 : ([obA K ks 29] ++ (fam 3 (famL kI 3 flI ks cI) ++ []))[[obA K ks 29].length + k]? = some (obI (hv s) L12) := by rw [f0, ← hsk]; rfl
          obtain ⟨A, q, c⟩ := s
          have hR := HS2.out.get _ f1
          have hq : q = 12 := (Kd.R_reads' hR).1
          subst hq
          obtain ⟨ad, hA, c0⟩ := cellI hR 0 (by decide)
          obtain ⟨ad1, hA1, c6⟩ := cellI hR 6 (by decide)
          obtain ⟨ad2, hA2, c11⟩ := cellI hR 11 (by decide)
          subst hA
          obtain rfl : ad = ad1 := Option.some.inj hA1
          obtain rfl : ad = ad2 := Option.some.inj hA2
          replace g0 : wr.cell? ⟨K, k, none⟩ = some (.slice (some ad) 12 c) := g0
          rw [show ad.add 0 = ad by simp [Addr.add]] at c0
          rw [show ad.add 6 = ⟨ad.block, ad.off + 6, none⟩ by simp [Addr.add]] at c6
          rw [show ad.add 11 = ⟨ad.block, ad.off + 11, none⟩ by simp [Addr.add]] at c11
          replace c0 : wr.cell? ad = some (.int .i64 65535) := c0
          replace c6 : wr.cell? ⟨ad.block, ad.off + 6, none⟩ = some (.int .i64 1492) := c6
          replace c11 : wr.cell? ⟨ad.block, ad.off + 11, none⟩ = some (.int .i64 68) := c11
          clear f0 f1 hR hA1 hA2 hsk
          go_wp2
          go_round
          case rel => exact ⟨k + 1, by omega, by go_num⟩
          case measure => simp [intOf]; omega
        · obtain rfl : k = 3 := by omega
          clear hk hlt
          have HS := Lib.hid (HS2.out.famEq2 (g := famL kI 3 flI ks (stC cI fcI 0)) fun j hj => by show obW _ _ _ _ _ = obW _ _ _ _ _; rw [stC_zero])
          clear HS2
          go_wp2_with fail
          go_loopw [6] (fun i wr => ∃ k : Nat, k ≤ 3 ∧ i = .int .i64 k ∧ Hid (St w wr ([obA K ks 29] ++ (fam 3 (famL kI 3 flI ks (stC cI fcI k)) ++ [])))) (fun i _ => 3 - (intOf i).toNat)
          case atStart => exact ⟨0, by omega, rfl, HS⟩
          case round =>
            obtain ⟨k, hk, rfl, HS2⟩ := hrel
            clear HS
            by_cases hlt : k < 3
            · have hltz : (k : Int) < 3 := by omega
              go_wp2_with fail
              obtain ⟨wo, rfl⟩ : ∃ wo : World, wo = wr := ⟨_, rfl⟩
              go_loopw [7] (fun i wr => ∃ m : Nat, m ≤ 12 ∧ i = .int .i64 m ∧ Hid (St w wr ([obA K ks 29] ++ (fam 3 (famL kI 3 flI ks (flC cI fcI k m)) ++ [])))) (fun i _ => 12 - (intOf i).toNat)
              case atStart => exact ⟨0, by omega, rfl, Lib.hid (HS2.out.famEq2 fun j hj => by show obW _ _ _ _ _ = obW _ _ _ _ _; rw [flC_zero])⟩
              case round =>
                obtain ⟨m, hm, rfl, HS⟩ := hrel
                clear HS2
                by_cases hmt : m < 12
                · have hmz : (m : Int) < 12 := by omega
                  obtain ⟨g0, _⟩ := HS.out.cellA 0 rfl k (by rw [HL.out]; exact hlt)
                  have f0 := fam_at [obA K ks 29] (famL kI 3 flI ks (flC cI fcI k m)) [] hlt
                  obtain ⟨s, hsk⟩ : ∃ s, hd ks k = s := ⟨_, rfl⟩
                  have hml : (mixL (fcI k) (cI k) m).length = 12 := mixL_len (l' := fcI k) (l := cI k) (by simp [fcI, cI, L12]) m
                  have f1 : ([obA K ks 29] ++ (fam 3 (famL kI 3 flI ks (flC cI fcI k m)) ++ []))[[obA K ks 29].length + k]? = some (obI (hv s) (mixL (fcI k) (cI k) m)) := by rw [f0, ← hsk, ← flC_at cI fcI k m]
                  rw [hsk] at g0
                  obtain ⟨g, cap, hv1, _⟩ := HS.out.formW _ f1 (by rw [hml]; omega)
                  rw [hml] at hv1
                  obtain ⟨A, q, c⟩ := s
                  injection hv1 with h1 h2 h3
                  subst h1 h2 h3
                  have F0 := Lib.hid f1
                  have HK := Lib.hid hsk
                  replace g0 : wr.cell? ⟨K, k, none⟩ = some (.slice (some ⟨g, 0, none⟩) 12 c) := g0
                  clear f0 f1 hsk hml
                  go_wp2_with (refine gate_ (.store 3 (.tmp 68) (.tmp 67)) rfl ?_; go_must (refine wpList_store_St kI HS.out _ F0.out rfl rfl 3 (.tmp 68) (.tmp 67) rfl (m : Int) (by omega) hmz (mkI k) _ [.int .i64 (-1 - (k : Int))] ?h1 rfl rfl sizeI rfl rfl ?_))
                  case h1 => exact (Nat.mul_one m).symm
                  intro w9 HS9
                  clear HS g0
                  go_wp2
                  go_roundw
                  case rel => exact ⟨m + 1, by omega, by go_num, Lib.hid (HS9.out.famPut hlt fun j hj => by
                    show obW _ _ _ _ _ = if j = k then _ else obW _ _ _ _ _
                    rw [flC_step cI fcI k m (m + 1) j]
                    by_cases e : j = k
                    · subst e
                      rw [if_pos rfl, if_pos rfl, HK.out]
                      try rw [Int.toNat_natCast]
                      rw [mixL_step (l' := fcI j) (l := cI j) (by simp [fcI, cI, L12]) (m := m) (x := mkI j) (by simpa [cI, L12] using hmt) (fcI_get j m hmt)]
                    · rw [if_neg e, if_neg e])⟩
                  case measure => simp [intOf]; omega
                · obtain rfl : m = 12 := by omega
                  have HS3 := Lib.hid (HS.out.famEq2 (g := famL kI 3 flI ks (stC cI fcI (k + 1))) fun j hj => by show obW _ _ _ _ _ = obW _ _ _ _ _; rw [show (12 : Nat) = (cI k).length from rfl, flC_end cI fcI k j (by simp [fcI, cI, L12])])
                  clear HS
                  go_wp2
                  go_roundw
                  case rel => exact ⟨k + 1, by omega, by go_num, HS3⟩
                  case measure => simp [intOf]; omega
            · have hk3 : k = 3 := by omega
              rw [hk3] at HS2
              clear hk hk3
              go_wp2_with fail
              have HS : Hid (St w _ ([obA K ks 29, obA wr.heap.size [(none, 0, 0), (none, 0, 0), (none, 0, 0)] 29] ++ (fam 3 (twG kI 3 flI szI ks [(none, 0, 0), (none, 0, 0), (none, 0, 0)] fcI mkI 40 0) ++ []))) :=
                Lib.hid (by
                  have h := (HS2.out.famEq2 (g := twG kI 3 flI szI ks [(none, 0, 0), (none, 0, 0), (none, 0, 0)] fcI mkI 40 0) fun j hj => twG_zero kI 3 flI szI cI 3 j hj).box #[.slice none 0 0, .slice none 0 0, .slice none 0 0] 29
                  exact h.perm (.cons _ (by have := List.perm_append_comm (l₁ := [obA wr.heap.size [(none, 0, 0), (none, 0, 0), (none, 0, 0)] 29]) (l₂ := fam 3 (twG kI 3 flI szI ks [(none, 0, 0), (none, 0, 0), (none, 0, 0)] fcI mkI 40 0) ++ []); exact this)))
              clear HS2
              generalize wr.heap.size = M at HS ⊢
              go_loopw [9] (fun i wr => ∃ (k : Nat) (vs : List Hdr), k ≤ 3 ∧ Hid (vs.length = 3) ∧ i = .int .i64 k ∧ Hid (St w wr ([obA K ks 29, obA M vs 29] ++ (fam 3 (twG kI 3 flI szI ks vs fcI mkI 40 k) ++ [])))) (fun i _ => 3 - (intOf i).toNat)
              case atStart => exact ⟨0, _, by omega, Lib.hid rfl, rfl, HS⟩
              case round =>
                obtain ⟨k, vs, hk, HV, rfl, HS2⟩ := hrel
                clear HS
                by_cases hlt : k < 3
                · have hltz : (k : Int) < 3 := by omega
                  obtain ⟨g0, _⟩ := HS2.out.cellA 0 rfl k (by rw [HL.out]; exact hlt)
                  obtain ⟨g2, g3⟩ := HS2.out.cellA 1 rfl k (by rw [HV.out]; exact hlt)
                  have f0 := fam_at [obA K ks 29, obA M vs 29] (twG kI 3 flI szI ks vs fcI mkI 40 k) [] hlt
                  rw [twG_at] at f0
                  obtain ⟨s, hsk⟩ : ∃ s, hd ks k = s := ⟨_, rfl⟩
                  rw [hsk] at g0 f0
                  have HT1 := Lib.hid (HS2.out.toTw flI szI _ f0)
                  have HK := Lib.hid hsk
                  obtain ⟨A, q, c⟩ := s
                  replace g0 : wr.cell? ⟨K, k, none⟩ = some (.slice A q c) := g0
                  clear f0 hsk
                  go_wp2_with fail
                  have HS3 : Hid (St w _ ([obA K ks 29, obA M (vs.set k (A, q, c)) 29] ++ (fam 3 (twKG kI 3 flI szI ks vs fcI mkI 40 k (A, q, c) 0) ++ []))) := Lib.hid ((HT1.out.famPut hlt fun j hj => by have := twKG_start kI 3 flI szI (hs := ks) (vs := vs) (fc := fcI) (mk := mkI) (E := 40) (k := k) j; rw [HK.out] at this; exact this).setA 1 rfl k (A, q, c))
                  clear HT1 g0 g2 g3 HS2
                  obtain ⟨wo, hwo⟩ : ∃ wo : World, wr.setCell ⟨M, k, none⟩ (.slice A q c) = wo := ⟨_, rfl⟩
                  rw [hwo] at HS3 ⊢
                  clear hwo
                  go_loopw [10] (fun i wr => ∃ (m : Nat) (B : Option Addr) (b d : Nat) (us : List Hdr), m ≤ 40 ∧ Hid (us.length = 3 ∧ hd us k = (B, b, d) ∧ ∀ j, j < k → hd us j = hd vs j) ∧ i = .int .i64 m ∧ Hid (St w wr ([obA K ks 29, obA M us 29] ++ (fam 3 (twKG kI 3 flI szI ks vs fcI mkI 40 k (B, b, d) m) ++ [])))) (fun i _ => 40 - (intOf i).toNat)
                  case atStart => exact ⟨0, A, q, c, _, by omega, Lib.hid ⟨(List.length_set ..).trans HV.out, by rw [hd_set _ _ _ _ (by rw [HV.out]; exact hlt), if_pos rfl], fun j hj => by rw [hd_set _ _ _ _ (by rw [HV.out]; exact hlt), if_neg (by omega)]⟩, rfl, HS3⟩
                  case round =>
                    obtain ⟨m, B, b, d, us, hm, HU, rfl, HS⟩ := hrel
                    clear HS3
                    by_cases hmt : m < 40
                    · have hmz : (m : Int) < 40 := by omega
                      have f0 := fam_at [obA K ks 29, obA M us 29] (twKG kI 3 flI szI ks vs fcI mkI 40 k (B, b, d) m) [] hlt
                      rw [twKG_at] at f0
                      have F0 := Lib.hid f0
                      obtain ⟨g2, g3⟩ := HS.out.cellA 1 rfl k (by rw [HU.out.1]; exact hlt)
                      rw [HU.out.2.1] at g2
                      replace g2 : wr.cell? ⟨M, k, none⟩ = some (.slice B b d) := g2
                      clear f0
                      go_wp2_with (at_builtin; go_must (refine wpList_append_Tw kI HS.out _ F0.out rfl (.tmp 85) (.tmp 88) 25 (.int .i64 0) 8 rfl Tryd.underlying25 infoI rfl (by decide) (mkI k) [.int .i64 (-1 - (k : Int))] rfl rfl rfl (by simp [fcI]; omega) ?_))
                      intro v1 w9 HG HS9
                      obtain ⟨A1, c1, hv1⟩ := HG.out.slice
                      subst hv1
                      have HS8 := Lib.hid (St.famPut (F := [obA K ks 29, obA M us 29]) (D := []) (g := twKG kI 3 flI szI ks vs fcI mkI 40 k (some A1, (fcI k).length + m + 1, c1) (m + 1)) HS9.out hlt fun j hj => by rw [twKG_step kI 3 flI szI (B, b, d) (some A1, (fcI k).length + m + 1, c1) m j, List.append_assoc])
                      obtain ⟨g2, g3⟩ := HS8.out.cellA 1 rfl k (by rw [HU.out.1]; exact hlt)
                      clear HS F0 HG HS9
                      go_wp2
                      go_roundw
                      case rel => exact ⟨m + 1, some A1, (fcI k).length + m + 1, c1, us.set k (some A1, (fcI k).length + m + 1, c1), by omega, Lib.hid ⟨(List.length_set ..).trans HU.out.1, by rw [hd_set _ _ _ _ (by rw [HU.out.1]; exact hlt), if_pos rfl], fun j hj => by rw [hd_set _ _ _ _ (by rw [HU.out.1]; exact hlt), if_neg (by omega)]; exact HU.out.2.2 j hj⟩, by go_num, Lib.hid (HS8.out.setA 1 rfl k (some A1, (fcI k).length + m + 1, c1))⟩
                      case measure => simp [intOf]; omega
                    · obtain rfl : m = 40 := by omega
                      have HS4 := Lib.hid (HS.out.famEq2 (g := twG kI 3 flI szI ks us fcI mkI 40 (k + 1)) fun j hj => twKG_end kI 3 flI szI (B, b, d) HU.out.2.1 HU.out.2.2 j)
                      clear HS hmt hm
                      go_wp2
                      go_roundw
                      case rel => exact ⟨k + 1, us, by omega, Lib.hid HU.out.1, by go_num, HS4⟩
                      case measure => simp [intOf]; omega
                · obtain rfl : k = 3 := by omega
                  have HS := HS2
                  clear HS2 hlt hk
                  go_wp2_with fail
                  go_loop [11] (fun i => ∃ k : Nat, k ≤ 3 ∧ i = .int .i64 k) (fun i => 3 - (intOf i).toNat)
                  case atStart => exact ⟨0, by omega, rfl⟩
                  case round =>
                    obtain ⟨k, hk, rfl⟩ := hrel
                    by_cases hlt : k < 3
                    · have hltz : (k : Int) < 3 := by omega
                      obtain ⟨g0, _⟩ := HS.out.cellA 0 rfl k (by rw [HL.out]; exact hlt)
                      obtain ⟨g2, _⟩ := HS.out.cellA 1 rfl k (by rw [HV.out]; exact hlt)
                      have f0 := fam_at [obA K ks 29, obA M vs 29] (twG kI 3 flI szI ks vs fcI mkI 40 3) [] hlt
                      rw [twG_old _ _ _ _ _ hlt] at f0
                      obtain ⟨t, htk⟩ : ∃ s, hd vs k = s := ⟨_, rfl⟩
                      rw [htk] at f0 g2
                      obtain ⟨B, b, d⟩ := t
                      have hT : SL.Twin kI 3 wr (hd ks k).1 (hd ks k).2.2 (fcI k) (.slice B b d) (fcI k ++ List.replicate 40 (mkI k)) := HS.out.get _ f0
                      obtain ⟨hb1, _, hC⟩ := Kd.R_reads' hT.row
                      have hrd := hT.rd
                      have hb2 : b = 52 := by rw [hb1]; simp [fcI]
                      subst hb2
                      have hone := hT.cap
                      obtain ⟨s, hsk⟩ : ∃ s, hd ks k = s := ⟨_, rfl⟩
                      rw [hsk] at g0 hrd hone
                      obtain ⟨A, q, c⟩ := s
                      have hq := HN.out k hlt
                      rw [hsk] at hq
                      have hq : q = 12 := hq
                      subst hq
                      replace g0 : wr.cell? ⟨K, k, none⟩ = some (.slice A 12 c) := g0
                      replace g2 : wr.cell? ⟨M, k, none⟩ = some (.slice B 52 d) := g2
                      have HD1 := Lib.hid hC
                      have HD2 := Lib.hid hrd
                      clear hC hrd hT f0 htk hsk hb1 hone
                      go_wp2_with fail
                      go_loop [12] (fun i => ∃ m : Nat, m ≤ 52 ∧ i = .int .i64 m) (fun i => 52 - (intOf i).toNat)
                      case atStart => exact ⟨0, by omega, rfl⟩
                      case round =>
                        obtain ⟨m, hm, rfl⟩ := hrel
                        by_cases hmt : m < 52
                        · have hmz : (m : Int) < 52 := by omega
                          obtain ⟨b2, hB2, p2⟩ := cellIC HD1.out rfl m (by simp [fcI]; omega)
                          subst hB2
                          rw [show fcI k ++ List.replicate 40 (mkI k) = List.replicate 52 (mkI k) by unfold fcI; rw [List.replicate_append_replicate], rep_getD 52 m _ hmt] at p2
                          replace p2 : wr.cell? (b2.add m) = some (.int .i64 (-1 - (k : Int))) := p2
                          have hne : ((-1 - (k : Int)) != (-1 - (k : Int))) = false := by simp
                          by_cases hml : m < 12
                          · have hmlz : (m : Int) < 12 := by omega
                            obtain ⟨b3, hB3, p3⟩ := cellIC HD2.out rfl m (by simp [fcI]; omega)
                            subst hB3
                            rw [show fcI k = List.replicate 12 (mkI k) from rfl, rep_getD 12 m _ hml] at p3
                            replace p3 : wr.cell? (b3.add m) = some (.int .i64 (-1 - (k : Int))) := p3
                            go_wp2
                            go_round
                            case rel => exact ⟨m + 1, by omega, by go_num⟩
                            case measure => simp [intOf]; omega
                          · have hmlz : 12 ≤ (m : Int) := by omega
                            go_wp2
                            go_round
                            case rel => exact ⟨m + 1, by omega, by go_num⟩
                            case measure => simp [intOf]; omega
                        · obtain rfl : m = 52 := by omega
                          go_wp2
                          go_round
                          case rel => exact ⟨k + 1, by omega, by go_num⟩
                          case measure => simp [intOf]; omega
                    · obtain rfl : k = 3 := by omega
                      have hb := HS.out.bl
                      have hTr := HT.out.below hb
                      have hb1 := (Below.refl wr.heap.size wr).alloc (Nat.le_refl _) (.cells cells12 3)
                      have hT1 := hTr.below hb1
                      have hb2 := (Below.refl _ (wr.alloc (.cells cells12 3))).alloc (Nat.le_refl _) (.cells cells12 3)
                      have hT2 := hT1.below hb2
                      have HB := Lib.hid (below_then hb hb.size (below_then hb1 hb1.size hb2))
                      have HT1 := Lib.hid hTr
                      have HT2 := Lib.hid hT1
                      have HT3 := Lib.hid hT2
                      have e0 := two12 wr 0 (.int .i64 65535) rfl
                      have e6 := two12 wr 6 (.int .i64 1492) rfl
                      have e11 := two12 wr 11 (.int .i64 68) rfl
                      clear hb hTr hb1 hT1 hb2 hT2
                      go_wp2_with fail
                      refine (all_any _ HT1.out).mono ?_
                      rintro e w' ⟨rfl, rfl⟩
                      go_wp2_with fail
                      refine (known_any _ HT2.out).mono ?_
                      rintro e w' ⟨rfl, rfl⟩
                      go_wp2_with (first | (go_at_call 8; refine (below_any _ _ HT3.out).mono ?_; rintro e w' ⟨rfl, rfl⟩) | (go_at_call 10; refine (above_any _ _ HT3.out).mono ?_; rintro e w' ⟨rfl, rfl⟩) | (go_at_call 9; refine (rbelow_any _ _).mono ?_; rintro e w' ⟨rfl, rfl⟩) | (go_at_call 11; refine (rabove_any _ _).mono ?_; rintro e w' ⟨rfl, rfl⟩))
                      go_ret
                      exact ⟨rfl, HB.out⟩
end Go.Proofs.YtffdjplhnbkgfaaDoor
