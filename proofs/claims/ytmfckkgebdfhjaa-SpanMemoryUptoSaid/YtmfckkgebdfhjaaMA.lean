/- The walk of the statement's apart: lists that are each one's own are written full and lengthened, and keep their marks. No condition but sizes. -/
import Derived.Test.YtmfckkgebdfhjaaTm
import Derived.Test.YtmfckkgebdfhjaaQT
import Derived.Test.YtmfckkgebdfhjaaQFmosaiclaw09same
import Derived.WalkKit
import Derived.WalkSpells
import Derived.WalkLawsBesides
import Derived.Handy
import Derived.Lib.Hide
import Derived.IntWalk
namespace Go.Proofs.Ytmfckkgebdfhjaa.MA
open Go.RowKit Go.Proofs.YtmfckkgebdfhjaaW.PrintWords Go.Proofs.YtmfckkgebdfhjaaW.PrintLast Go.Proofs.YtmfckkgebdfhjaaW.PrintMore Go.Proofs.Ytmfckkgebdfhjaa.SL
attribute [local go_sem high] Q.eqA24
abbrev Sp := Q.S24
abbrev kS := Q.k24
theorem flatS : Flat kS := fun w w' base ok x cs h => by
  obtain rfl := Q.k24_open h
  exact Q.k24_mkM w' base ok x
theorem szS : 0 < kS.sz := by decide
abbrev obS (v : Value) (l : List Sp) : Ob := obW kS 24 flatS v l
abbrev obLL (v : Value) (l : List Hdr) : Ob := obW kSl 22 flatSl v l
abbrev kI : Kd Int := Kd.int .i64
abbrev obI (v : Value) (l : List Int) : Ob := obW kI 3 (flatI .i64) v l
theorem infoL : (Try.prog.info? 22).map (fun i => (i.zero, i.size, i.bytes)) = some (some (.slice none 0 0), 1, 24) := by kernel_rfl
theorem sizL : (Try.prog.info? 22).map (·.size) = some 1 := by kernel_rfl
theorem sizS : (Try.prog.info? 24).map (·.size) = some 2 := by kernel_rfl
theorem infoI : (Try.prog.info? 3).map (fun i => (i.zero, i.size, i.bytes)) = some (some (.int .i64 0), 1, 8) := by kernel_rfl
theorem infoS : (Try.prog.info? 24).map (fun i => (i.zero, i.size, i.bytes)) = some (some (.agg #[.int .i64 0, .int .i64 0]), 2, 16) := by kernel_rfl
def fcS (ct : Nat → List Sp) (j : Nat) : List Sp := (List.range (ct j).length).map fun (k : Nat) => (⟨-1000 - (j : Int), (k : Int)⟩ : Sp)
def mkS (j : Nat) : Sp := ⟨-9000 - (j : Int), 0⟩
theorem fcS_len (ct : Nat → List Sp) (j : Nat) : (fcS ct j).length = (ct j).length := by simp [fcS]
theorem fcS_get (ct : Nat → List Sp) (j k : Nat) (h : k < (ct j).length) : (fcS ct j)[k]? = some ⟨-1000 - (j : Int), (k : Int)⟩ := by simp [fcS, h]
/-- Lengthened by m, the lists ahead of k by 64. -/
def lgC (ct : Nat → List Sp) (k m j : Nat) : List Sp := fcS ct j ++ List.replicate (if j < k then 64 else if j = k then m else 0) (mkS j)
theorem lgC_zero (ct : Nat → List Sp) (n j : Nat) (h : j < n) : stC ct (fcS ct) n j = lgC ct 0 0 j := by
  rw [stC, if_pos h, lgC, if_neg (by omega)]
  split <;> simp
theorem lgC_next (ct : Nat → List Sp) (k j : Nat) : lgC ct k 64 j = lgC ct (k + 1) 0 j := by
  unfold lgC
  congr 2
  by_cases h1 : j < k
  · rw [if_pos h1, if_pos (by omega)]
  · rw [if_neg h1]
    by_cases h2 : j = k
    · rw [if_pos h2, if_pos (by omega)]
    · rw [if_neg h2, if_neg (by omega), ite_self]
theorem lgC_at (ct : Nat → List Sp) (k m : Nat) : lgC ct k m k = fcS ct k ++ List.replicate m (mkS k) := by
  unfold lgC
  rw [if_neg (by omega), if_pos rfl]
theorem lgC_step (ct : Nat → List Sp) (k m j : Nat) : lgC ct k (m + 1) j = if j = k then (fcS ct k ++ List.replicate m (mkS k)) ++ [mkS k] else lgC ct k m j := by
  by_cases h : j = k
  · subst h
    rw [if_pos rfl, lgC_at, List.append_assoc, rep_snoc]
  · rw [if_neg h]
    unfold lgC
    rw [if_neg h, if_neg h]
theorem lgC_len (ct : Nat → List Sp) (k m j : Nat) : (lgC ct k m j).length = (ct j).length + (if j < k then 64 else if j = k then m else 0) := by
  unfold lgC
  rw [List.length_append, fcS_len, List.length_replicate]
theorem lgC_lo (ct : Nat → List Sp) (n j k : Nat) (h : k < (ct j).length) : (lgC ct n 0 j)[k]? = some ⟨-1000 - (j : Int), (k : Int)⟩ := by
  unfold lgC
  rw [List.getElem?_append_left (by rw [fcS_len]; exact h), fcS_get ct j k h]
theorem lgC_hi (ct : Nat → List Sp) (n j k : Nat) (hj : j < n) (h : (ct j).length ≤ k) (h2 : k < (ct j).length + 64) : (lgC ct n 0 j)[k]? = some (mkS j) := by
  unfold lgC
  rw [List.getElem?_append_right (by rw [fcS_len]; exact h), if_pos hj, List.getElem?_replicate, if_pos (by rw [fcS_len]; omega)]
section
variable {w0 w : World} {Γ : List Ob}
theorem cellR {α : Type} {enc : α → Value} {h1 : ∀ x, (enc x).oneCell' = true} {A : Option Addr} {n : Nat} {l : List α} (hC : (Kd.scalar enc h1).C w A n l) (hn : n = l.length) (i : Nat) {x : α} (hx : l[i]? = some x) : ∃ ad, A = some ad ∧ w.cell? (ad.add i) = some (enc x) := by
  subst hn
  have hi := (List.getElem?_eq_some_iff.1 hx).1
  obtain ⟨ad, c, hA, _, hK, hc⟩ := Kd.C_get hC x (i : Int) (by omega) (by omega)
  have hK' : c = [enc x] := by
    have : c = [enc (l.getD (i : Int).toNat x)] := hK
    rw [this, Int.toNat_natCast, List.getD_eq_getElem?_getD, hx]
    rfl
  subst hK'
  rw [Int.toNat_natCast] at hc
  have := hc 0 _ rfl
  exact ⟨ad, hA, by simpa [Kd.scalar] using this⟩
theorem cellSp {A : Option Addr} {n : Nat} {l : List Sp} (hC : kS.C w A n l) (hn : n = l.length) (i : Nat) {x : Sp} (hx : l[i]? = some x) : ∃ ad, A = some ad ∧ w.cell? (ad.add (i * 2)) = some (.int .i64 x.f0) ∧ w.cell? ⟨(ad.add (i * 2)).block, (ad.add (i * 2)).off + 1, none⟩ = some (.int .i64 x.f1) := by
  have hi := (List.getElem?_eq_some_iff.1 hx).1
  obtain ⟨ad, hA, h0, h1⟩ := Q.at_T24 hC (i : Int) (by omega) (by omega)
  have e : Q.rd_T24 l (i : Int) = x := by
    unfold Q.rd_T24
    rw [Int.toNat_natCast, List.getD_eq_getElem?_getD, hx]
    rfl
  rw [e, Int.toNat_natCast] at h0 h1
  exact ⟨ad, hA, h0, h1⟩
theorem hd_get (hs : List Hdr) (i : Nat) (h : i < hs.length) : hs[i]? = some (hd hs i) := by
  simp [hd, List.getD_eq_getElem?_getD, h]
end
set_option maxHeartbeats 8000000 in
set_option maxRecDepth 100000 in
theorem apart_calls (Al : Option Addr) (cl n : Nat) (hs : List Hdr) (ct : Nat → List Sp) (w0 w : World) (F : List Ob) (hn : n ≤ 1000) (hct : ∀ i, i < n → (ct i).length ≤ 4000000) (hl : hs.length = n)
    (h : St w0 w ([obLL (.slice Al n cl) hs] ++ (fam n (famL kS 24 flatS hs ct) ++ F))) :
    Calls Try.prog 31 #[.slice Al n cl] w fun e w' => e = .returned (.bool true) ∧ ∃ Δ, St w0 w' (Δ ++ F) := by
  have hu := Try.underlying24
  have hu3 := Try.underlying22
  have hu4 := Try.underlying41
  have hu5 := Try.underlying37
  have HS : Hid (St w0 w ([obLL (.slice Al n cl) hs, obI (.slice none 0 0) []] ++ (fam n (famL kS 24 flatS hs (stC ct (fcS ct) 0)) ++ F))) := Lib.hid (by
    have h2 := ((h.famEq2 (g := famL kS 24 flatS hs (stC ct (fcS ct) 0)) fun j hj => by show obW _ _ _ _ _ = obW _ _ _ _ _; rw [stC_zero]).newW (d := kI) (e := 3) (flatI .i64))
    exact h2.perm (.cons _ (by have := List.perm_append_comm (l₁ := [obI (.slice none 0 0) []]) (l₂ := fam n (famL kS 24 flatS hs (stC ct (fcS ct) 0)) ++ F); exact this)))
  have HC := Lib.hid hct
  have HL := Lib.hid hl
  have HN := Lib.hid (show ∀ k, k < n → (hd hs k).2.1 = (ct k).length from fun k hk => (Kd.R_reads' (h.get _ (fam_at [obLL (.slice Al n cl) hs] (famL kS 24 flatS hs ct) F hk))).1)
  clear h hct hl
  go_enter Try.func31, Try.ntmps31
  go_wp2_with fail
  go_loopw [3, 4] (fun v i wr => ∃ (ns : List Int) (NA : Option Addr) (nq nc : Nat), ns.length ≤ n ∧ i = .int .i64 ns.length ∧ v = .slice NA nq nc ∧ Hid (∀ j, j < ns.length → ns[j]? = some ((ct j).length : Int)) ∧ Hid (St w0 wr ([obLL (.slice Al n cl) hs, obI (.slice NA nq nc) ns] ++ (fam n (famL kS 24 flatS hs (stC ct (fcS ct) ns.length)) ++ F)))) (fun _ i _ => n - (intOf i).toNat)
  case atStart => exact ⟨[], none, 0, 0, Nat.zero_le _, rfl, rfl, Lib.hid (fun j hj => absurd hj (by simp)), HS⟩
  case round =>
    obtain ⟨ns, NA, nq, nc, hk, rfl, rfl, HV, HS2⟩ := hrel
    clear HS
    by_cases hlt : ns.length < n
    · have hltz : (ns.length : Int) < (n : Int) := by omega
      have hcl := HC.out _ hlt
      obtain ⟨ad, hA, g0⟩ := cellR (HS2.out.readW 0 rfl) rfl ns.length (hd_get hs _ (by rw [HL.out]; exact hlt))
      subst hA
      have hlk := HN.out _ hlt
      obtain ⟨s, hsk⟩ : ∃ s, hd hs ns.length = s := ⟨_, rfl⟩
      rw [hsk] at g0 hlk
      obtain ⟨A, q, c⟩ := s
      have hlk : q = (ct ns.length).length := hlk
      subst hlk
      replace g0 : wr.cell? (ad.add ns.length) = some (.slice A (ct ns.length).length c) := g0
      have HK := Lib.hid hsk
      clear hsk
      go_wp2_with (at_builtin; go_must (refine wpList_append_St kI HS2.out 1 rfl rfl (.tmp 16) (.tmp 22) 37 (.int .i64 0) 8 rfl Try.underlying37 infoI rfl (by decide) (by decide) ((ct ns.length).length : Int) [.int .i64 ((ct ns.length).length : Int)] rfl rfl rfl (by omega) ?_))
      intro v1 w9 HG HS9
      obtain ⟨A1, c1, hv1⟩ := HG.out.slice
      subst hv1
      have HS3 : Hid (St w0 w9 ([obLL (.slice (some ad) n cl) hs, obI (.slice (some A1) (ns.length + 1) c1) (ns ++ [((ct ns.length).length : Int)])] ++ (fam n (famL kS 24 flatS hs (stC ct (fcS ct) ns.length)) ++ F))) := HS9
      have HV2 : Hid (∀ j, j < ns.length + 1 → (ns ++ [((ct ns.length).length : Int)])[j]? = some ((ct j).length : Int)) := Lib.hid (fun j hj => by
        rcases Nat.lt_or_ge j ns.length with h | h
        · rw [List.getElem?_append_left h]; exact HV.out j h
        · obtain rfl : j = ns.length := by omega
          simp)
      have hr := HS3.out.readW 1 rfl
      obtain ⟨an, hAn, gn⟩ := cellR (enc := Value.int .i64) (h1 := fun _ => rfl) hr rfl ns.length (HV2.out _ (Nat.lt_succ_self _))
      obtain rfl := Option.some.inj hAn
      clear HS2 HG HS9 hr hAn
      go_wp2_with fail
      obtain ⟨wo, rfl⟩ : ∃ wo : World, wo = w9 := ⟨_, rfl⟩
      go_loopw [5] (fun i wr => ∃ m : Nat, m ≤ (ct ns.length).length ∧ i = .int .i64 m ∧ Hid (St w0 wr ([obLL (.slice (some ad) n cl) hs, obI (.slice (some A1) (ns.length + 1) c1) (ns ++ [((ct ns.length).length : Int)])] ++ (fam n (famL kS 24 flatS hs (flC ct (fcS ct) ns.length m)) ++ F)))) (fun i _ => (ct ns.length).length - (intOf i).toNat)
      case atStart => exact ⟨0, Nat.zero_le _, rfl, Lib.hid (HS3.out.famEq2 fun j hj => by show obW _ _ _ _ _ = obW _ _ _ _ _; rw [flC_zero])⟩
      case round =>
        obtain ⟨m, hm, rfl, HS⟩ := hrel
        clear HS3 g0 gn
        obtain ⟨ad', hA', g0⟩ := cellR (HS.out.readW 0 rfl) rfl ns.length (hd_get hs _ (by rw [HL.out]; exact hlt))
        obtain rfl := Option.some.inj hA'
        rw [HK.out] at g0
        replace g0 : wr.cell? (ad.add ns.length) = some (.slice A (ct ns.length).length c) := g0
        have hr := HS.out.readW 1 rfl
        obtain ⟨an', hAn', gn⟩ := cellR (enc := Value.int .i64) (h1 := fun _ => rfl) hr rfl ns.length (HV2.out _ (Nat.lt_succ_self _))
        obtain rfl := Option.some.inj hAn'
        clear hA' hAn' hr
        by_cases hmt : m < (ct ns.length).length
        · have hmz : (m : Int) < ((ct ns.length).length : Int) := by omega
          have f0 := fam_at [obLL (.slice (some ad) n cl) hs, obI (.slice (some A1) (ns.length + 1) c1) (ns ++ [((ct ns.length).length : Int)])] (famL kS 24 flatS hs (flC ct (fcS ct) ns.length m)) F hlt
          rw [show famL kS 24 flatS hs (flC ct (fcS ct) ns.length m) ns.length = obS (.slice A (ct ns.length).length c) (mixL (fcS ct ns.length) (ct ns.length) m) from by show obW _ _ _ _ _ = obW _ _ _ _ _; rw [flC_at, HK.out]] at f0
          have hml := mixL_len (fcS_len ct ns.length) m
          obtain ⟨g, cap, hv1, _⟩ := HS.out.formW _ f0 (by rw [hml]; omega)
          injection hv1 with h1 h2 h3
          subst h1
          have F0 := Lib.hid f0
          clear f0 hml h2 h3
          go_wp2_with (refine gate_ (.store 24 (.tmp 41) (.tmp 40)) rfl ?_; go_must (refine wpList_store_St kS HS.out _ F0.out rfl rfl 24 (.tmp 41) (.tmp 40) rfl (m : Int) (by omega) hmz ⟨-1000 - (ns.length : Int), (m : Int)⟩ _ [.int .i64 (-1000 - (ns.length : Int)), .int .i64 (m : Int)] ?h1 rfl rfl sizS rfl (Q.k24_mk _ _) ?_))
          case h1 => rfl
          intro w9 HS9
          clear HS g0 gn
          go_wp2
          go_roundw
          case rel => exact ⟨m + 1, by omega, by go_num, Lib.hid (St.famPut (F := [obLL (.slice (some ad) n cl) hs, obI (.slice (some A1) (ns.length + 1) c1) (ns ++ [((ct ns.length).length : Int)])]) HS9.out hlt fun j hj => by
            show obW _ _ _ _ _ = if j = ns.length then _ else obW _ _ _ _ _
            rw [flC_step ct (fcS ct) ns.length m (m + 1) j]
            by_cases e : j = ns.length
            · subst e
              rw [if_pos rfl, if_pos rfl, HK.out]
              try rw [Int.toNat_natCast]
              rw [mixL_step (fcS_len ct ns.length) hmt (fcS_get ct ns.length m hmt)]
            · rw [if_neg e, if_neg e])⟩
          case measure => simp [intOf]; omega
        · have hmz : m = (ct ns.length).length := by omega
          subst hmz
          have HS4 := Lib.hid (HS.out.famEq2 (g := famL kS 24 flatS hs (stC ct (fcS ct) (ns.length + 1))) fun j hj => by show obW _ _ _ _ _ = obW _ _ _ _ _; rw [flC_end ct (fcS ct) ns.length j (fcS_len ct ns.length)])
          clear HS
          go_wp2
          go_roundw
          case rel => exact ⟨ns ++ [((ct ns.length).length : Int)], some A1, _, c1, by rw [List.length_append, List.length_singleton]; omega, by rw [List.length_append, List.length_singleton]; go_num, rfl, by rw [List.length_append, List.length_singleton]; exact HV2, by rw [List.length_append, List.length_singleton]; exact HS4⟩
          case measure => simp [intOf]; omega
    · have hnl : ns.length = n := by omega
      rw [hnl] at HV HS2
      have HS := Lib.hid (HS2.out.famEq2 (g := famL kS 24 flatS hs (lgC ct 0 0)) fun j hj => by show obW _ _ _ _ _ = obW _ _ _ _ _; rw [lgC_zero ct n j hj])
      have HNL := Lib.hid hnl
      clear HS2 hk hnl hlt
      have hge : ((ns.length : Int) < (n : Int)) = False := by rw [HNL.out]; simp
      go_wp2_with fail
      clear hge
      go_loopw [6] (fun i wr => ∃ (k : Nat) (us : List Hdr), k ≤ n ∧ i = .int .i64 k ∧ Hid (us.length = n) ∧ Hid (St w0 wr ([obLL (.slice Al n cl) us, obI (.slice NA nq nc) ns] ++ (fam n (famL kS 24 flatS us (lgC ct k 0)) ++ F)))) (fun i _ => n - (intOf i).toNat)
      case atStart => exact ⟨0, hs, Nat.zero_le _, rfl, HL, HS⟩
      case round =>
        obtain ⟨k, us, hk, rfl, HU, HS2⟩ := hrel
        clear HS
        by_cases hlt : k < n
        · have hltz : (k : Int) < (n : Int) := by omega
          have hcl := HC.out _ hlt
          obtain ⟨gl, capl, hv1, hx1⟩ := HS2.out.formW 0 rfl (by rw [HU.out]; omega)
          clear hx1
          injection hv1 with h1 h2 h3
          subst h1
          clear h2 h3
          go_wp2_with fail
          obtain ⟨wo, rfl⟩ : ∃ wo : World, wo = wr := ⟨_, rfl⟩
          go_loopw [7] (fun i wr => ∃ (m : Nat) (us : List Hdr), m ≤ 64 ∧ i = .int .i64 m ∧ Hid (us.length = n) ∧ Hid (St w0 wr ([obLL (.slice (some ⟨gl, 0, none⟩) n cl) us, obI (.slice NA nq nc) ns] ++ (fam n (famL kS 24 flatS us (lgC ct k m)) ++ F)))) (fun i _ => 64 - (intOf i).toNat)
          case atStart => exact ⟨0, us, Nat.zero_le _, rfl, HU, HS2⟩
          case round =>
            clear HS2 HU us
            obtain ⟨m, us, hm, rfl, HU, HS⟩ := hrel
            by_cases hmt : m < 64
            · have hmz : (m : Int) < 64 := by omega
              obtain ⟨ad, hA, g0⟩ := cellR (HS.out.readW 0 rfl) rfl k (hd_get us _ (by rw [HU.out]; exact hlt))
              obtain rfl := Option.some.inj hA
              have f0 := fam_at [obLL (.slice (some ⟨gl, 0, none⟩) n cl) us, obI (.slice NA nq nc) ns] (famL kS 24 flatS us (lgC ct k m)) F hlt
              obtain ⟨s, hsk⟩ : ∃ s, hd us k = s := ⟨_, rfl⟩
              rw [show famL kS 24 flatS us (lgC ct k m) k = obS (hv s) (fcS ct k ++ List.replicate m (mkS k)) from by show obW _ _ _ _ _ = obW _ _ _ _ _; rw [lgC_at, hsk]] at f0
              rw [hsk] at g0
              obtain ⟨A, q, c⟩ := s
              rw [add_plain] at g0
              replace g0 : wr.cell? ⟨gl, k, none⟩ = some (.slice A q c) := g0
              have F0 := Lib.hid f0
              clear f0 hsk hA
              go_wp2_with (at_builtin; go_must (refine wpList_append_St kS HS.out _ F0.out rfl (.tmp 57) (.tmp 61) 22 (.agg #[.int .i64 0, .int .i64 0]) 16 rfl Try.underlying22 infoS rfl (by decide) (by decide) (mkS k) [.int .i64 (-9000 - (k : Int)), .int .i64 0] rfl rfl (Q.k24_mk _ (mkS k)) (by rw [List.length_append, List.length_replicate, fcS_len]; omega) ?_))
              intro v1 w9 HG HS9
              obtain ⟨A1, c1, hv1⟩ := HG.out.slice
              subst hv1
              clear HS F0 HG g0
              have HS8 := Lib.hid (St.famPut (F := [obLL (.slice (some ⟨gl, 0, none⟩) n cl) us, obI (.slice NA nq nc) ns]) (g := famL kS 24 flatS (us.set k (some A1, (fcS ct k).length + m + 1, c1)) (lgC ct k (m + 1))) HS9.out hlt fun j hj => by
                show obW _ _ _ _ _ = if j = k then _ else obW _ _ _ _ _
                rw [hd_set _ _ _ _ (by rw [HU.out]; exact hlt), lgC_step ct k m j]
                by_cases e : j = k
                · rw [if_pos e, if_pos e, if_pos e]
                  rw [List.append_assoc]
                · rw [if_neg e, if_neg e, if_neg e])
              clear HS9
              go_wp2_with (refine gate_ (.store 22 (.tmp 63) (.tmp 62)) rfl ?_; go_must (refine wpList_store_St kSl HS8.out 0 rfl rfl rfl 22 (.tmp 63) (.tmp 62) rfl (k : Int) (by omega) hltz (some A1, (fcS ct k).length + m + 1, c1) _ [.slice (some A1) ((fcS ct k).length + m + 1) c1] ?h1 rfl rfl sizL rfl rfl ?_))
              case h1 => show Value.pointer (some (⟨gl, k, none⟩ : Addr)) = Value.pointer (some ⟨gl, k * 1, none⟩); rw [Nat.mul_one]
              intro w10 HS10
              clear HS8
              go_wp2
              go_roundw
              case rel => exact ⟨m + 1, us.set k (some A1, (fcS ct k).length + m + 1, c1), by omega, by go_num, Lib.hid ((List.length_set ..).trans HU.out), HS10⟩
              case measure => simp [intOf]; omega
            · obtain rfl : m = 64 := by omega
              have HS4 := Lib.hid (HS.out.famEq2 (g := famL kS 24 flatS us (lgC ct (k + 1) 0)) fun j hj => by show obW _ _ _ _ _ = obW _ _ _ _ _; rw [lgC_next])
              clear HS
              go_wp2
              go_roundw
              case rel => exact ⟨k + 1, us, by omega, by go_num, HU, HS4⟩
              case measure => simp [intOf]; omega
        · have hkn : k = n := by omega
          rw [hkn] at HS2
          have HS := HS2
          clear HS2 hk hkn
          have HN2 := Lib.hid (show ∀ k, k < n → (hd us k).2.1 = (ct k).length + 64 from fun k hk => by
            have := (Kd.R_reads' (HS.out.get _ (fam_at [obLL (.slice Al n cl) us, obI (.slice NA nq nc) ns] (famL kS 24 flatS us (lgC ct n 0)) F hk))).1
            rw [lgC_len, if_pos hk] at this
            exact this)
          go_wp2_with fail
          go_loop [8] (fun i => ∃ k : Nat, k ≤ n ∧ i = .int .i64 k) (fun i => n - (intOf i).toNat)
          case atStart => exact ⟨0, Nat.zero_le _, rfl⟩
          case round =>
            obtain ⟨k, hk, rfl⟩ := hrel
            by_cases hlt : k < n
            · have hltz : (k : Int) < (n : Int) := by omega
              have hcl := HC.out _ hlt
              obtain ⟨ad, hA, g0⟩ := cellR (HS.out.readW 0 rfl) rfl k (hd_get us _ (by rw [HU.out]; exact hlt))
              obtain ⟨an, hAn, gn⟩ := cellR (enc := Value.int .i64) (h1 := fun _ => rfl) (HS.out.readW 1 rfl) rfl k (HV.out k hlt)
              subst hA hAn
              have hnq : nq = ns.length := (Kd.R_reads' (HS.out.get 1 rfl)).1
              have hnqz : (k : Int) < (nq : Int) := by have := HNL.out; omega
              have f0 := fam_at [obLL (.slice (some ad) n cl) us, obI (.slice (some an) nq nc) ns] (famL kS 24 flatS us (lgC ct n 0)) F hlt
              obtain ⟨_, _, hC⟩ := Kd.R_reads' (HS.out.get _ f0)
              have hlk := HN2.out k hlt
              obtain ⟨s, hsk⟩ : ∃ s, hd us k = s := ⟨_, rfl⟩
              rw [hsk] at g0 hlk hC
              obtain ⟨A, q, c⟩ := s
              have hlk : q = (ct k).length + 64 := hlk
              subst hlk
              replace g0 : wr.cell? (ad.add k) = some (.slice A ((ct k).length + 64) c) := g0
              replace gn : wr.cell? (an.add k) = some (.int .i64 ((ct k).length : Int)) := gn
              have hC : kS.C wr A (lgC ct n 0 k).length (lgC ct n 0 k) := hC
              have HD := Lib.hid hC
              clear f0 hC hsk hnq
              go_wp2_with fail
              go_loop [9] (fun i => ∃ m : Nat, m ≤ (ct k).length + 64 ∧ i = .int .i64 m) (fun i => (ct k).length + 64 - (intOf i).toNat)
              case atStart => exact ⟨0, Nat.zero_le _, rfl⟩
              case round =>
                obtain ⟨m, hm, rfl⟩ := hrel
                by_cases hmt : m < (ct k).length + 64
                · have hmz : (m : Int) < (ct k).length + 64 := by omega
                  have hmz2 : (m : Int) < (((ct k).length + 64 : Nat) : Int) := by omega
                  by_cases hml : m < (ct k).length
                  · have hmlz : decide ((m : Int) < ((ct k).length : Int)) = true := by simp; omega
                    have hmlz2 : decide (m < (ct k).length) = true := by simp; omega
                    have hmlz3 : decide (((ct k).length : Int) ≤ (m : Int)) = false := by simp; omega
                    have hmlz4 : decide ((ct k).length ≤ m) = false := by simp; omega
                    obtain ⟨b3, hB3, p3, p4⟩ := cellSp HD.out rfl m (lgC_lo ct n k m hml)
                    subst hB3
                    replace p3 : wr.cell? (b3.add (m * 2)) = some (.int .i64 (-1000 - (k : Int))) := p3
                    replace p4 : wr.cell? ⟨(b3.add (m * 2)).block, (b3.add (m * 2)).off + 1, none⟩ = some (.int .i64 (m : Int)) := p4
                    have hne : ((-1000 - (k : Int)) == (-1000 - (k : Int)) && ((m : Int) == (m : Int))) = true := by simp
                    go_wp2
                    go_round
                    case rel => exact ⟨m + 1, by omega, by go_num⟩
                    case measure => simp [intOf]; omega
                  · have hmlz : decide ((m : Int) < ((ct k).length : Int)) = false := by simp; omega
                    have hmlz2 : decide (m < (ct k).length) = false := by simp; omega
                    have hmlz3 : decide (((ct k).length : Int) ≤ (m : Int)) = true := by simp; omega
                    have hmlz4 : decide ((ct k).length ≤ m) = true := by simp; omega
                    obtain ⟨b3, hB3, p3, p4⟩ := cellSp HD.out rfl m (lgC_hi ct n k m hlt (by omega) hmt)
                    subst hB3
                    replace p3 : wr.cell? (b3.add (m * 2)) = some (.int .i64 (-9000 - (k : Int))) := p3
                    replace p4 : wr.cell? ⟨(b3.add (m * 2)).block, (b3.add (m * 2)).off + 1, none⟩ = some (.int .i64 0) := p4
                    have hne : ((-9000 - (k : Int)) == (-9000 - (k : Int)) && ((0 : Int) == 0)) = true := by simp
                    go_wp2
                    go_round
                    case rel => exact ⟨m + 1, by omega, by go_num⟩
                    case measure => simp [intOf]; omega
                · obtain rfl : m = (ct k).length + 64 := by omega
                  go_wp2
                  go_round
                  case rel => exact ⟨k + 1, by omega, by go_num⟩
                  case measure => simp [intOf]; omega
            · have hkn : k = n := by omega
              go_wp2
              go_ret
              refine ⟨rfl, [obLL (.slice Al n cl) us, obI (.slice NA nq nc) ns] ++ fam n (famL kS 24 flatS us (lgC ct n 0)), ?_⟩
              rw [List.append_assoc]
              exact HS.out
end Go.Proofs.Ytmfckkgebdfhjaa.MA
