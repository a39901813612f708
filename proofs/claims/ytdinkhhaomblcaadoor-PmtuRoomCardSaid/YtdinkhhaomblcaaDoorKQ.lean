/- The walk of the statement PmtuRoom; and how lists of whole numbers read among the arguments. No condition but sizes and that the table stands in its variable. -/
import Derived.Test.YtdinkhhaomblcaaDoorKO
import Derived.Test.YtdinkhhaomblcaaDoorRow
namespace Go.Proofs.YtdinkhhaomblcaaDoor.SL
open Go.ChangeShapes Go.WideShapes Go.ChangeAt Go.RowKit Go.Deep Go.Joins Go.Proofs.YtdinkhhaomblcaaDoorW.PrintWords Go.Proofs.YtdinkhhaomblcaaDoorW.PrintLast Go.Proofs.YtdinkhhaomblcaaDoorW.PrintMore
set_option maxRecDepth 100000 in
theorem open_nums {H : Type} {enc : TypeId × Value → H} {w : World} {base : Nat} {spare : Nat → Bool} {held : Bool} {b0 : Nat} {v : Value} {d : DataW H} {p : List MemPlace} {ts : List TypeId} {ds : List (DataW H)} {j : Nat}
    (hv : Value.okWide Tryd.prog w .any b0 51 v) (h : DataW.Trod enc Tryd.prog w base spare held 51 v d p)
    (hsz : (DataW.weightsEach Tryd.prog ts ds).all (· ≤ reachBytes) = true) (ht : ts[j]? = some 51) (hd : ds[j]? = some d) :
    ∃ a cap, ∃ zs : List Int, v = .slice a zs.length cap ∧ zs.length ≤ cap ∧ ReadsInt w .i64 a zs.length zs ∧ zs.length * 8 ≤ 140737488351232 ∧ zs.length ≤ Rows.uptoBulk d ∧ (∀ n ∈ zs, (Lit.int .i64 n).wf = true) := by
  obtain ⟨a, len, cap, rfl⟩ := okWide_slice Tryd.underlying51 hv
  obtain ⟨fuel, hf⟩ := h
  rcases open_ints Tryd.underlying51 Tryd.underlying3 (by kernel_rfl) hf with ⟨hcs, hx⟩ | ⟨x, l, c, zs, hcs, _, hl, hm, hzl, hx, hcell, hwf⟩
  · simp [Value.cells] at hcs
    obtain ⟨rfl, rfl, rfl⟩ := hcs
    exact ⟨none, 0, [], rfl, Nat.le_refl _, ⟨rfl, by simp, fun h => absurd h (by simp)⟩, by simp, by simp, by simp⟩
  · simp [Value.cells] at hcs
    obtain ⟨rfl, rfl, rfl⟩ := hcs
    have hlm : len ≤ zs.length := by rw [hzl]; split <;> omega
    simp only [Prod.mk.injEq] at hx
    obtain ⟨rfl, _⟩ := hx
    have hsl := sized_slice hsz ht hd Tryd.underlying51
    have hby : Tryd.prog.bytesOf 3 = 8 := by kernel_rfl
    rw [hby] at hsl
    have hl1 : (lits (H := H) .i64 (zs.take len)).length = len := by simp [lits]; omega
    rw [hl1] at hsl
    have hrb : reachBytes ≤ 140737488351232 := by decide
    have htl : (zs.take len).length = len := by rw [List.length_take]; omega
    refine ⟨some x, cap, zs.take len, by rw [htl], by omega, ⟨rfl, by omega, fun _ => ⟨x, rfl, fun j hj => ?_⟩⟩, by omega, ?_, fun n hn => hwf n (List.mem_of_mem_take hn)⟩
    · rw [hcell j (by omega)]
      congr 2
      simp only [List.getD_eq_getElem?_getD, List.getElem?_take]
      rw [if_pos (by omega)]
    · have := bulk_length (H := H) (lits .i64 (zs.take len))
      rw [hl1] at this
      simp only [Rows.uptoBulk]
      omega
/-- One number of the list. -/
theorem num_at {w : World} {A : Option Addr} {s : List Int} (h : ReadsInt w .i64 A s.length s) (k : Nat) (hk : k < s.length) : ∃ ad : Addr, A = some ad ∧ ∀ W : World, Below w.heap.size w W → W.cell? (ad.add k) = some (.int .i64 (s.getD k 0)) := by
  obtain ⟨_, _, h3⟩ := h
  obtain ⟨ad, hA, hc⟩ := h3 (by omega)
  have h0 := hc k hk
  refine ⟨ad, hA, fun W hb => ?_⟩
  have hlt : ad.block < w.heap.size := by
    have := World.block_lt_of_cell? w _ h0
    rwa [add_block'] at this
  exact (World.cell?_of_block (w := w) (by rw [add_block']; exact hb.block _ hlt)).trans h0
end Go.Proofs.YtdinkhhaomblcaaDoor.SL
namespace Go.Proofs.YtdinkhhaomblcaaDoor.SL
open Go.RowKit Go.Joins Go.Proofs.YtdinkhhaomblcaaDoorW.PrintWords Go.Proofs.YtdinkhhaomblcaaDoorW.PrintLast Go.Proofs.YtdinkhhaomblcaaDoorW.PrintMore
theorem room_start (entries : Int) : RoomI (wE entries) (wA 999) (wF 64000) ⟨wE entries, wA 999, [], 0, 0⟩ 0 [] 60000 := by
  have h := w_rng entries 999 64000
  exact ⟨WI.start entries 999 64000, List.Perm.nil, by simp, h.1.2, List.Pairwise.nil, by simp, by decide, by decide, by decide⟩
/-- Between the first rounds. -/
structure LoopO (E A first : Int) (c : Ca) (hd o : List Int) (k : Nat) : Prop where
  i : RoomI E A first c k o 60000
  l : o.length = k
  b : ∀ a ∈ o, a < k
  all : ∀ a : Int, 0 ≤ a → a < k → a ∈ o
  h : hd.length ≤ k
/-- Between the rounds that hear again. -/
structure LoopP (E A first : Int) (c : Ca) (hd o : List Int) (k j : Nat) : Prop where
  i : RoomI E A first c ((k : Int) + (j : Int)) o (60000 - (j : Int))
  l : (o.length : Int) = E
  all : ∀ a : Int, 0 ≤ a → a < E → a ∈ o
  h : hd.length ≤ k + j
theorem again_len {o : List Int} {n : Int} (hnd : o.Nodup) (hn : n ∈ o) : (o.filter (fun a => !decide (a = n)) ++ [n]).length = o.length := by
  have hnd2 : (o.filter (fun a => !decide (a = n)) ++ [n]).Nodup := by
    rw [List.nodup_append]
    exact ⟨hnd.sublist List.filter_sublist, by simp, fun a ha b hb => by
      obtain rfl := List.mem_singleton.1 hb
      have := (List.mem_filter.1 ha).2
      simpa using this⟩
  refine ((List.perm_ext_iff_of_nodup hnd2 hnd).2 fun a => ?_).length_eq
  rw [List.mem_append, List.mem_filter, List.mem_singleton]
  constructor
  · rintro (h | rfl)
    · exact h.1
    · exact hn
  · intro h
    by_cases e : a = n
    · exact .inr e
    · exact .inl ⟨h, by simpa using e⟩
theorem again_all {E : Int} {o : List Int} {n : Int} (h : ∀ a : Int, 0 ≤ a → a < E → a ∈ o) (a : Int) (h0 : 0 ≤ a) (h1 : a < E) : a ∈ o.filter (fun a => !decide (a = n)) ++ [n] := by
  rw [List.mem_append, List.mem_filter, List.mem_singleton]
  by_cases e : a = n
  · exact .inr e
  · exact .inl ⟨h a h0 h1, by simpa using e⟩
theorem filter_new {o : List Int} {n : Int} (h : ∀ a ∈ o, a ≠ n) : o.filter (fun a => !decide (a = n)) = o := by
  refine List.filter_eq_self.2 fun a ha => ?_
  have := h a ha
  simpa using this
set_option maxHeartbeats 16000000 in
set_option maxRecDepth 100000 in
theorem room_calls (entries : Int) (A0 : Option Addr) (cp : Nat) (ag : List Int) (w : World) (hT : Tab w) (h0 : ReadsInt w .i64 A0 ag.length ag) (hlen : ag.length ≤ 20000000000000) :
    Calls Tryd.prog 5 #[.int .i64 entries, .slice A0 ag.length cp] w fun e w' => e = .returned (.bool true) ∧ Below w.heap.size w w' := by
  have HA : Hid (∀ k, k < ag.length → ∃ ad : Addr, A0 = some ad ∧ ∀ W : World, Below w.heap.size w W → W.cell? (ad.add k) = some (.int .i64 (ag.getD k 0))) := Lib.hid fun k hk => num_at h0 k hk
  have HS0 := Lib.hid (St.tab w hT)
  have HT := Lib.hid hT
  have hbig : ag.length ≤ 9223372036854775807 := by omega
  have HRI := Lib.hid (room_start entries)
  have hE1 := (w_rng entries 999 64000).1
  obtain ⟨E, hE⟩ : ∃ E, wE entries = E := ⟨_, rfl⟩
  obtain ⟨A, hA⟩ : ∃ A, wA 999 = A := ⟨_, rfl⟩
  obtain ⟨first, hF⟩ : ∃ first, wF 64000 = first := ⟨_, rfl⟩
  rw [hE, hA, hF] at HRI
  rw [hE] at hE1
  have HE1 := Lib.hid hE1
  have HEQ := Lib.hid (And.intro hE (And.intro hA hF))
  clear h0 hT hlen hE hA hF hE1
  go_enter Tryd.func5, Tryd.ntmps5
  go_wp2_with (first
    | (go_at_call 9; refine (alive_calls _ HT.out).mono ?_; rintro e w1 ⟨rfl, hb1⟩; have HS1 := Lib.hid (HS0.out.below hb1); clear hb1)
    | (go_at_call 16; refine (watch_calls HS1.out entries 999 64000 (by decide) (by decide)).mono ?_; rw [HEQ.out.1, HEQ.out.2.1, HEQ.out.2.2]; rintro e w2 ⟨wp, p, b, rfl, hs⟩; have HS2 : Hid (St w w2 (Wat wp p b E A first 0 (.slice none 0 0) [] ⟨E, A, [], 0, 0⟩ [obI (.slice none 0 0) []])) := Lib.hid (St.inW ((hs.newW (e := 3) flI).front1)); clear hs HS1))
  have HLO : Hid (LoopO E A first ⟨E, A, [], 0, 0⟩ [] [] 0) := Lib.hid ⟨HRI.out, rfl, by simp, fun a a0 a1 => absurd a1 (by simp; omega), Nat.le_refl _⟩
  clear HRI HS0 HEQ
  go_loopw [9, 10] (fun ov i wr => ∃ (k : Nat) (c : Ca) (hd o : List Int) (hv : Value), (k : Int) ≤ E ∧ i = .int .i64 k ∧ Hid (LoopO E A first c hd o k) ∧ Hid (St w wr (Wat wp p b E A first 0 hv hd c [obI ov o]))) (fun _ i _ => E.toNat - (intOf i).toNat)
  case atStart => exact ⟨0, _, [], [], _, by have := HE1.out; omega, rfl, HLO, HS2⟩
  case round =>
    obtain ⟨k, c, hd, o, hv, hk, rfl, HLO2, HS⟩ := hrel
    clear HLO HS2
    have k1 : wr.cell? ⟨wp, 1, none⟩ = some (.int .i64 E) := HS.out.cellB 0 rfl 1 rfl
    by_cases hkE : (k : Int) < E
    · have hk0 : (0 : Int) ≤ (k : Int) := by omega
      have hk8 : (k : Int) < 8 := by have := HE1.out; omega
      obtain ⟨c', hr, hRI⟩ := HLO2.out.i.hear (n := k) (m := 60000) ⟨hk0, hkE⟩ (.inr (by rw [HLO2.out.l]; exact hkE)) (by decide) (by decide) (fun hm => absurd (HLO2.out.b _ hm) (by omega))
      rw [filter_new (fun a ha => by have := HLO2.out.b a ha; omega)] at hRI
      have hdn : dN (k : Int) = k := dN_id ⟨hk0, by omega⟩
      have HR := Lib.hid hr
      have HRI := Lib.hid hRI
      have HDN := Lib.hid hdn
      clear hr hRI hdn
      go_wp2_with (first
        | (go_at_call 20; refine (c_hears HS.out HLO2.out.i.i.ok (by have := HLO2.out.i.i.hr; omega) ⟨0, k, 60000, 0, 0⟩ (show (-9223372036854775808 : Int) ≤ 0 ∧ (0 : Int) ≤ 9223372036854775807 by decide) (by decide) (by have := HLO2.out.h; omega) (by rw [HDN.out]; exact HR.out)).mono ?_; rw [HDN.out]; rintro e w5 ⟨hv', hd', rfl, hdl, hs⟩; have HS5 := Lib.hid hs; have HDL := Lib.hid hdl; clear hs hdl k1)
        | (at_builtin; go_must (refine wpList_append_St kI HS5.out 4 rfl rfl (.tmp 59) (.tmp 61) 51 (.int .i64 0) 8 rfl Tryd.underlying51 infoI rfl (by decide) (by decide) (k : Int) [.int .i64 (k : Int)] rfl rfl rfl (by have := HLO2.out.l; omega) ?_; intro v1 w9 hgr HSb; clear hgr)))
      go_roundw
      case rel => exact ⟨k + 1, c', hd', o ++ [(k : Int)], hv', by omega, by go_num, Lib.hid ⟨by rw [show ((k + 1 : Nat) : Int) = (k : Int) + 1 from rfl]; exact HRI.out, by have := HLO2.out.l; simp; omega, fun a ha => by rcases List.mem_append.1 ha with ha | ha; (have := HLO2.out.b a ha; omega); (obtain rfl := List.mem_singleton.1 ha; omega), fun a a0 a1 => (by by_cases e : a = k; (exact List.mem_append_right _ (List.mem_singleton.2 e)); exact List.mem_append_left _ (HLO2.out.all a a0 (by omega))), by have := HDL.out; have := HLO2.out.h; omega⟩, HSb⟩
      case measure => simp [intOf]; omega
    · have hkz : (k : Int) = E := by omega
      have HLP : Hid (LoopP E A first c hd o k 0) := Lib.hid ⟨by have := HLO2.out.i; simpa using this, by rw [HLO2.out.l]; exact hkz, fun a a0 a1 => HLO2.out.all a a0 (by omega), by have := HLO2.out.h; omega⟩
      have HK8 : Hid (k ≤ 8) := Lib.hid (by have := HE1.out; omega)
      clear HLO2
      go_wp2_with fail
      clear k1 hkE hkz hk
      go_loopw [8, 9, 14] (fun mv ov i wr => ∃ (j : Nat) (c : Ca) (hd o : List Int) (hv : Value), j ≤ ag.length ∧ j ≤ 200 ∧ mv = .int .i64 (60000 - (j : Int)) ∧ i = .int .i64 j ∧ Hid (LoopP E A first c hd o k j) ∧ Hid (St w wr (Wat wp p b E A first 0 hv hd c [obI ov o]))) (fun _ _ i _ => ag.length - (intOf i).toNat)
      case atStart => exact ⟨0, c, hd, o, hv, Nat.zero_le _, Nat.zero_le _, rfl, rfl, HLP, HS⟩
      case round =>
        obtain ⟨j, c, hd, o, hv, hj, hj2, rfl, rfl, HLP2, HSa⟩ := hrel
        clear HLP HS
        by_cases hin : j < ag.length ∧ j < 200
        · obtain ⟨hlt, h2⟩ := hin
          have hltz : (j : Int) < (ag.length : Int) := by omega
          have h2z : (j : Int) < 200 := by omega
          have hj0 : (0 : Int) ≤ (j : Int) := by omega
          obtain ⟨ad, rfl, hnw⟩ := HA.out j hlt
          have HNW := Lib.hid hnw
          generalize ag.getD j 0 = x at HNW
          have HJ := Lib.hid (And.intro hlt h2)
          have hE0 : E ≠ 0 := by have := HE1.out; omega
          have hE1 : 1 ≤ E := HE1.out.1
          have hE8 : E ≤ 8 := HE1.out.2
          have hEw : IntKind.u64.wrap E = E := by
            simp only [IntKind.wrap, IntKind.bits, IntKind.signed]
            simp
            omega
          obtain ⟨n, hn, hn0, hnE⟩ : ∃ n, (IntKind.u64.wrap x).tmod E = n ∧ 0 ≤ n ∧ n < E := ⟨_, rfl, tm_range (uI_pos x) (by omega)⟩
          have hni : IntKind.i64.wrap n = n := by rw [IntKind.wrap_i64]; omega
          obtain ⟨c', hr, hRI⟩ := HLP2.out.i.hear (n := n) (m := 60000 - (j : Int) - 1) ⟨hn0, hnE⟩ (.inl (HLP2.out.all n hn0 hnE)) (by omega) (by omega) (fun _ => by omega)
          have HR := Lib.hid hr
          have HRI := Lib.hid hRI
          have HDN := Lib.hid (dN_id (k := n) ⟨hn0, by omega⟩)
          have HNO := Lib.hid (HLP2.out.all n hn0 hnE)
          have HOL : Hid (o.length ≤ 8) := Lib.hid (by have := HLP2.out.l; omega)
          clear hr hRI
          have HSd := Lib.hid HSa.out.drew
          clear hlt h2 hnw hj hj2
          go_wp2_with fail
          go_region_held3 (fun W => W.cell? (ad.add j) = some (.int .i64 x) ∧ W.cell? ⟨wp, 1, none⟩ = some (.int .i64 E)) (first | exact ⟨HNW.out _ HSa.out.bl, HSa.out.cellB 0 rfl 1 rfl⟩ | exact ⟨HNW.out _ HSd.out.bl, HSd.out.cellB 0 rfl 1 rfl⟩) (fail)
          clear hn hn0 hnE hEw hE0
          obtain ⟨Ag, cg, rfl, _⟩ := Kd.R_reads (show kI.R 3 wr 0 (fun _ => True) u9 o from HSa.out.get 4 rfl)
          have HM1 : Hid (60000 - (j : Int) - 1 = 60000 - ((j + 1 : Nat) : Int)) := Lib.hid (by omega)
          go_wp2_with (go_at_call 20; refine (c_hears HSd.out HLP2.out.i.i.ok (by have := HLP2.out.i.i.hr; have := HK8.out; omega) ⟨0, n, 60000 - (j : Int) - 1, 0, 0⟩ (show (-9223372036854775808 : Int) ≤ 0 ∧ (0 : Int) ≤ 9223372036854775807 by decide) (by decide) (by have := HLP2.out.h; have := HK8.out; omega) (by rw [HDN.out]; exact HR.out)).mono ?_; rw [HDN.out]; rintro e w5 ⟨hv', hd', rfl, hdl, hs⟩; have HS5 : Hid (St w w5 (Wat wp p b E A first 0 hv' hd' c' [obI (.slice none 0 0) [], obI (.slice Ag o.length cg) o])) := Lib.hid (St.inW ((hs.newW (e := 3) flI).front1)); have HDL := Lib.hid hdl; clear hs hdl)
          clear HSa HSd
          go_loopw [19, 20] (fun lv i wr => ∃ (q : Nat) (xs : List Int), q ≤ o.length ∧ i = .int .i64 q ∧ Hid (xs = (o.take q).filter (fun a => !decide (a = n))) ∧ Hid (St w wr (Wat wp p b E A first 0 hv' hd' c' [obI lv xs, obI (.slice Ag o.length cg) o]))) (fun _ i _ => o.length - (intOf i).toNat)
          case atStart => exact ⟨0, [], Nat.zero_le _, rfl, Lib.hid rfl, HS5⟩
          case round =>
            obtain ⟨q, xs, hq, rfl, HXS, HSb⟩ := hrel
            clear HS5
            have hob : o.length ≤ 8 := HOL.out
            by_cases hlt : q < o.length
            · have hltz : (q : Int) < (o.length : Int) := by omega
              have hq0 : (0 : Int) ≤ (q : Int) := by omega
              obtain ⟨g, cc, hv2, hcell⟩ := RI_at (show kI.R 3 _ 0 (fun _ => True) (.slice Ag o.length cg) o from HSb.out.get 5 rfl) q _ (List.getElem?_eq_getElem hlt)
              injection hv2 with hA h2 h3
              subst hA h3
              clear h2
              have HTK : Hid ((o.take (q + 1)).filter (fun a => !decide (a = n)) = xs ++ (if o[q] = n then [] else [o[q]])) := Lib.hid (by
                rw [List.take_succ_eq_append_getElem hlt, List.filter_append, ← HXS.out]
                by_cases e : o[q] = n
                · rw [if_pos e, List.filter_cons_of_neg (by simpa using e)]; rfl
                · rw [if_neg e, List.filter_cons_of_pos (by simpa using e)]; rfl)
              have HXL : Hid (xs.length ≤ q) := Lib.hid (by
                rw [HXS.out]
                refine Nat.le_trans (List.length_filter_le _ _) ?_
                rw [List.length_take]; omega)
              generalize o[q] = y at hcell HTK
              by_cases hqn : y = n
              · have hb : (y != n) = false := by simpa using hqn
                have HT2 : Hid (xs = (o.take (q + 1)).filter (fun a => !decide (a = n))) := Lib.hid (by rw [HTK.out, if_pos hqn, List.append_nil])
                clear hqn HTK
                go_wp2_with fail
                go_roundw
                case rel => exact ⟨q + 1, xs, by omega, by go_num, HT2, HSb⟩
                case measure => simp [intOf]; omega
              · have hb : (y != n) = true := by simpa using hqn
                have HT2 : Hid (xs ++ [y] = (o.take (q + 1)).filter (fun a => !decide (a = n))) := Lib.hid (by rw [HTK.out, if_neg hqn])
                clear hqn HTK
                go_wp2_with (at_builtin; go_must (refine wpList_append_St kI HSb.out 4 rfl rfl (.tmp 115) (.tmp 120) 51 (.int .i64 0) 8 rfl Tryd.underlying51 infoI rfl (by decide) (by decide) y [.int .i64 y] rfl rfl rfl (by have := HXL.out; omega) ?_; intro v1 w9 hgr HSc; clear hgr))
                go_roundw
                case rel => exact ⟨q + 1, xs ++ [y], by omega, by go_num, HT2, HSc⟩
                case measure => simp [intOf]; omega
            · have hltz : ¬ (q : Int) < (o.length : Int) := by omega
              have HXF : Hid (xs = o.filter (fun a => !decide (a = n))) := Lib.hid (by rw [HXS.out, List.take_of_length_le (by omega)])
              have HXL : Hid (xs.length ≤ 8) := Lib.hid (by
                rw [HXF.out]
                exact Nat.le_trans (List.length_filter_le _ _) HOL.out)
              clear hq hlt HXS
              go_wp2_with (at_builtin; go_must (refine wpList_append_St kI HSb.out 4 rfl rfl (.tmp 122) (.tmp 124) 51 (.int .i64 0) 8 rfl Tryd.underlying51 infoI rfl (by decide) (by decide) n [.int .i64 n] rfl rfl rfl (by have := HXL.out; omega) ?_; intro v1 w9 hgr HSc; clear hgr))
              go_roundw
              case rel => exact ⟨j + 1, c', hd', xs ++ [n], hv', by have := HJ.out; omega, by have := HJ.out; omega, by rw [HM1.out], by go_num, Lib.hid ⟨by rw [HXF.out, ← HM1.out, show ((j + 1 : Nat) : Int) = (j : Int) + 1 from rfl, ← Int.add_assoc]; exact HRI.out, by rw [HXF.out, again_len HLP2.out.i.nd HNO.out]; exact HLP2.out.l, by rw [HXF.out]; exact again_all HLP2.out.all, by have := HDL.out; have := HLP2.out.h; omega⟩, Lib.hid (HSc.out.sub (by simp))⟩
              case measure => have := HJ.out; simp [intOf]; omega
        · have hb1 : (decide ((j : Int) < (ag.length : Int)) && decide ((j : Int) < 200)) = false := by
            rw [← Bool.decide_and]
            exact decide_eq_false (fun h => hin ⟨by omega, by omega⟩)
          have hfin : (j : Int) < (ag.length : Int) → ¬ (j : Int) < 200 := fun h1 h2 => hin ⟨by omega, by omega⟩
          obtain ⟨c', hr, hw', hM, he, hold⟩ := HLP2.out.i.full HLP2.out.l
          have HR := Lib.hid hr
          have HW := Lib.hid hw'
          have HM := Lib.hid hM
          have HE := Lib.hid he
          have HO := Lib.hid hold
          clear hr hw' hM he hold
          have HDN : Hid (dN 11 = 11) := Lib.hid (dN_id (k := 11) (by decide))
          have HOL : Hid (o.length ≤ 8) := Lib.hid (by have := HLP2.out.l; have := HE1.out; omega)
          obtain ⟨L4, hL4⟩ : ∃ L4, ordS (c'.M.map (·.1)) = L4 := ⟨_, rfl⟩
          have HLE : Hid ((L4.length : Int) = E) := Lib.hid (by rw [← hL4, (ordS_spec HW.out.ok.nd).2.length_eq, List.length_map]; exact HM.out)
          have HL4 := Lib.hid hL4
          clear hL4
          obtain ⟨Ag, cg, rfl, _⟩ := Kd.R_reads (show kI.R 3 wr 0 (fun _ => True) u9 o from HSa.out.get 4 rfl)
          go_wp2_with (go_at_call 20; refine (c_hears HSa.out HLP2.out.i.i.ok (by have := HLP2.out.i.i.hr; have := HK8.out; omega) ⟨0, 11, 1300, 0, 0⟩ (show (-9223372036854775808 : Int) ≤ 0 ∧ (0 : Int) ≤ 9223372036854775807 by decide) (by decide) (by have := HLP2.out.h; have := HK8.out; omega) (by rw [HDN.out]; exact HR.out)).mono ?_; rintro e w5 ⟨hv', hd', rfl, hdl, hs⟩; have HS5 := Lib.hid hs; clear hs hdl HSa HA)
          all_goals
            have HSd := Lib.hid HS5.out.drew
            have hle : ((L4.length : Int) != E) = false := by simpa using HLE.out
            go_region_held3 (fun W => W.cell? ⟨wp, 0, none⟩ = some (.pointer (some ⟨p, 0, none⟩)) ∧ W.cell? ⟨wp, 1, none⟩ = some (.int .i64 E)) (first | exact ⟨HS5.out.cellB 0 rfl 0 rfl, HS5.out.cellB 0 rfl 1 rfl⟩ | exact ⟨HSd.out.cellB 0 rfl 0 rfl, HSd.out.cellB 0 rfl 1 rfl⟩ | exact ⟨HS6.out.cellB 0 rfl 0 rfl, HS6.out.cellB 0 rfl 1 rfl⟩ | exact ⟨HS7.out.cellB 0 rfl 0 rfl, HS7.out.cellB 0 rfl 1 rfl⟩)
              (first
                | (go_at_call 14; refine (c_allF HSd.out 2 rfl HW.out.ok HW.out.ab HL4.out).mono ?_; rintro e w6 ⟨A4, n4, rfl, hs⟩; have HS6 : Hid (St w w6 (Wat wp p b E A first 0 hv' hd' c' [obAd (.slice A4 L4.length n4) L4, obI (.slice Ag o.length cg) o])) := Lib.hid (St.inW hs); clear hs)
                | (go_at_call 23; refine (c_wget HS6.out HW.out.ok HW.out.fl HW.out.f1 HW.out.f2 11).mono ?_; rw [HE.out]; rintro e w7 ⟨rfl, hs⟩; have HS7 : Hid (St w w7 (Wat wp p b E A first 0 hv' hd' c' [obAd (.slice A4 L4.length n4) L4, obI (.slice Ag o.length cg) o])) := Lib.hid hs; clear hs))
            go_wp2_with fail
            clear HSd HS6 HS5
            go_loopw [24] (fun i wr => ∃ q : Nat, q ≤ o.length ∧ i = .int .i64 q ∧ Hid (St w wr (Wat wp p b E A first 0 hv' hd' c' [obAd (.slice A4 L4.length n4) L4, obI (.slice Ag o.length cg) o]))) (fun i _ => o.length - (intOf i).toNat)
            case atStart => exact ⟨0, Nat.zero_le _, rfl, HS7⟩
            case round =>
              obtain ⟨q, hq, rfl, HSb⟩ := hrel
              clear HS7
              have hob : o.length ≤ 8 := HOL.out
              by_cases hlt : q < o.length
              · have hltz : (q : Int) < (o.length : Int) := by omega
                have hqq : (0 : Int) ≤ (q : Int) := by omega
                obtain ⟨g, cc, hv2, hcell⟩ := RI_at (show kI.R 3 _ 0 (fun _ => True) (.slice Ag o.length cg) o from HSb.out.get 5 rfl) q _ (List.getElem?_eq_getElem hlt)
                injection hv2 with hA h2 h3
                subst hA h3
                clear h2
                have hoq := HO.out q _ (List.getElem?_eq_getElem hlt)
                have HY : Hid (∀ W, St w W (Wat wp p b E A first 0 hv' hd' c' [obAd (.slice A4 L4.length n4) L4, obI (.slice (some ⟨g, 0, none⟩) o.length cg) o]) → W.cell? ⟨g, q, none⟩ = some (.int .i64 o[q])) := Lib.hid fun W hW => by
                  obtain ⟨g2, cc2, hv3, hc3⟩ := RI_at (show kI.R 3 _ 0 (fun _ => True) (.slice (some ⟨g, 0, none⟩) o.length cg) o from hW.get 5 rfl) q _ (List.getElem?_eq_getElem hlt)
                  injection hv3 with hA _ _
                  injection hA with hA
                  injection hA with hA _
                  subst hA
                  exact hc3
                have HLT := Lib.hid hlt
                generalize o[q] = y at hcell hoq HY
                obtain ⟨r, hr⟩ : ∃ r, estS c'.M first y = r := ⟨_, rfl⟩
                rw [hr] at hoq
                have HRQ := Lib.hid hr
                have hcmp : (!((r == first) == ((q : Int) == 0))) = false := by
                  by_cases e : q = 0
                  · have e1 := hoq.2 e
                    subst e e1
                    simp
                  · have e1 : r ≠ first := fun e1 => e (hoq.1 e1)
                    have e2 : ((q : Int) == 0) = false := by simpa using e
                    have e3 : (r == first) = false := by simpa using e1
                    rw [e2, e3]; rfl
                have HSd := Lib.hid HSb.out.drew
                clear hr hoq hcell hlt
                go_wp2_with fail
                go_region_held3 (fun W => W.cell? ⟨g, q, none⟩ = some (.int .i64 y) ∧ W.cell? ⟨wp, 3, none⟩ = some (.int .i64 first)) (first | exact ⟨HY.out _ HSb.out, HSb.out.cellB 0 rfl 3 rfl⟩ | exact ⟨HY.out _ HSd.out, HSd.out.cellB 0 rfl 3 rfl⟩ | exact ⟨HY.out _ HSc.out, HSc.out.cellB 0 rfl 3 rfl⟩)
                  (first
                    | (go_at_call 23; refine (c_wget HSd.out HW.out.ok HW.out.fl HW.out.f1 HW.out.f2 y).mono ?_; rw [HRQ.out]; rintro e wc ⟨rfl, hs⟩; have HSc : Hid (St w wc (Wat wp p b E A first 0 hv' hd' c' [obAd (.slice A4 L4.length n4) L4, obI (.slice (some ⟨g, 0, none⟩) o.length cg) o])) := Lib.hid hs; clear hs))
                go_wp2_with fail
                go_roundw
                case rel => exact ⟨q + 1, by have := HLT.out; omega, by go_num, HSc⟩
                case measure => have := HLT.out; simp [intOf]; omega
              · have hltz : ¬ (q : Int) < (o.length : Int) := by omega
                clear hq hlt
                go_wp2_with fail
                go_ret
                exact ⟨rfl, HSb.out.bl⟩
end Go.Proofs.YtdinkhhaomblcaaDoor.SL
