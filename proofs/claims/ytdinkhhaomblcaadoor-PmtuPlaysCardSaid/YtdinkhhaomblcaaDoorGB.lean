/- The walk of Tick, where it is let through. No condition but sizes. -/
import Derived.Test.YtdinkhhaomblcaaDoorGA
namespace Go.Proofs.YtdinkhhaomblcaaDoor.SL
open Go.RowKit Go.Proofs.YtdinkhhaomblcaaDoorW.PrintWords Go.Proofs.YtdinkhhaomblcaaDoorW.PrintLast Go.Proofs.YtdinkhhaomblcaaDoorW.PrintMore
def dueP (A now : Int) (x : Ad × Bel) : Bool := decide (A ≤ now - x.2.clk)
def obTick (p b : Nat) (c : Ca) (w : World) : List Ob := [obCR p b c, obF w [p, b]]
attribute [-go_sem] loadVar Instr.buildSlice
attribute [local go_sem] lv3 lv64 lvMap bls_A
attribute [local go_sem ↓] Go.wp_at_zero Go.wp_at_succ
set_option maxHeartbeats 8000000 in
set_option maxRecDepth 100000 in
theorem tick_yes (p b : Nat) (c : Ca) (now : Int) (w : World) (h : CaAt w p b c) (hk : OkC c) (hT : Tab w) (hg0 : 0 ∉ [p, b]) (hok : ∀ x ∈ c.M, BOk x.1) (hm : mayS c now = true) :
    Calls Tryd.prog 19 #[.pointer (some ⟨p, 0, none⟩), .int .i64 now] w fun e w' => ∃ v ys, e = .returned (.tuple #[v, .int .i64 0]) ∧ SortOf (dueS c.A now c.M) ys ∧ St (noHeap w) w' [obC p b (tickS c above now).2, obF w [p, b], obAd v ys] := by
  have HS0 : Hid (St (noHeap w) w [obC p b c, obF w [p, b]]) := Lib.hid (St.start (o := obC p b c) h [p, b] (fun x hx => hx))
  have HG0 := Lib.hid hg0
  have HT := Lib.hid hT
  have HM := Lib.hid hm
  have HK := Lib.hid hk
  have HO := Lib.hid hok
  have HL : Hid (c.M.length < 1000000) := Lib.hid (by have := hk.len; have := hk.e64; omega)
  have hnow : c.now ≤ now ∧ now ≤ 1099511627776 := of_decide_eq_true hm
  have HNW := Lib.hid hnow
  clear h hk hT hg0 hok hm hnow
  go_enter Tryd.func19, Tryd.ntmps19
  go_wp2_with (first
    | (go_at_call 34; refine (may_calls p b c now _ (HS0.out.get 0 rfl)).mono ?_; rw [HM.out]; rintro e w1 ⟨rfl, hb1⟩; have HS1 := Lib.hid (HS0.out.below hb1); clear hb1; have fr := (show CaAt _ p b c from HS1.out.get 0 rfl).free 3; have c3 := (show CaAt _ p b c from HS1.out.get 0 rfl).cells.2.2.2.1; have HS2 : Hid (St (noHeap w) _ [obC p b { c with now := now }, obF w [p, b]]) := Lib.hid (HS1.out.now 0 rfl now); have c2 : (w1.setCell ⟨p, 3, none⟩ (.int .i64 now)).cell? ⟨p, 2, none⟩ = some (.map (some b)) := (show CaAt _ p b { c with now := now } from HS2.out.get 0 rfl).cells.2.2.1; clear HS1)
    | (at_range; go_must (refine wpList_rangeM rfl _ rfl rfl (show CaAt _ p b { c with now := now } from HS2.out.get 0 rfl).mp ?_; intro ob hr; have HSR : Hid (St (noHeap w) _ [obCR p b { c with now := now }, obF w [p, b]]) := Lib.hid (HS2.out.swap 0 (o' := obCR p b { c with now := now }) rfl (HS2.out.get (a := obC p b { c with now := now }) 0 rfl) (fun x hx => hx) (fun x hx => by cases hx) (fun j x hj hx b hb => by cases hb)); have HS3 := Lib.hid (HSR.out.addR hr 0 rfl (List.mem_cons_of_mem _ List.mem_cons_self) List.not_mem_nil))))
  clear c2 c3 fr HSR HS2 hr
  have hsz : (w1.setCell ⟨p, 3, none⟩ (.int .i64 now)).heap.size = w1.heap.size := by simp [World.setCell]
  rw [hsz] at HS3
  clear hsz
  generalize hw1 : w1.setCell ⟨p, 3, none⟩ (.int .i64 now) = w2 at *
  clear hw1
  have HS : Hid (St (noHeap w) (w2.alloc ob) [obCR p b { c with now := now }, obF w [p, b], obR b w1.heap.size c.M c.M, obAd (.slice none 0 0) []]) := Lib.hid (HS3.out.newW flA)
  have HI : Hid ((([] : List Ad) ++ (c.M.filter (dueP c.A now)).map (·.1)).Perm ((c.M.filter (dueP c.A now)).map (·.1)) ∧ NdM c.M ∧ ∀ x ∈ c.M, x ∈ c.M) := Lib.hid ⟨List.Perm.refl _, HK.out.nd, fun _ h => h⟩
  clear HS3
  go_loopg [6] c.M.length (fun gg s6 wr => ∃ (left : Mp) (xs : List Ad) (v : Value), left.length ≤ gg ∧ s6 = v ∧ Hid ((xs ++ (left.filter (dueP c.A now)).map (·.1)).Perm ((c.M.filter (dueP c.A now)).map (·.1)) ∧ NdM left ∧ ∀ x ∈ left, x ∈ c.M) ∧ Hid (St (noHeap w) wr [obCR p b { c with now := now }, obF w [p, b], obR b w1.heap.size c.M left, obAd v xs]))
  case atStart => exact ⟨c.M, [], _, Nat.le_refl _, rfl, HI, HS⟩
  case round =>
    obtain ⟨left, xs, v, hg, hv, HI2, HS3⟩ := hrel
    replace hv := hv.symm
    subst hv
    clear HS HI
    have HXL : Hid (xs.length < 1000000) := Lib.hid (by
      have h1 := HI2.out.1.length_eq
      have h2 := HL.out
      have h3 := List.length_filter_le (dueP c.A now) c.M
      simp only [List.length_append, List.length_map] at h1
      omega)
    go_wp2_with (at_next; go_must (refine wpList_nextM rfl _ rfl rfl (show RgAt _ b _ c.M left from HS3.out.get 2 rfl) ?_ ?_))
    · intro hl
      subst hl
      obtain ⟨A0, cp, hv0, hcap, _⟩ := Kd.R_reads (show kA.R 32 wr 0 (fun _ => True) v xs from HS3.out.get 3 rfl)
      subst hv0
      have HP : Hid (xs.Perm (dueS c.A now c.M)) := Lib.hid (by have := HI2.out.1; simp only [List.filter_nil, List.map_nil, List.append_nil] at this; exact this)
      have HSc : Hid (St (noHeap w) wr [obC p b { c with now := now }, obF w [p, b], obAd (.slice A0 xs.length cp) xs]) := Lib.hid (by
        have h1 := HS3.out.pick [0, 1, 3] (by decide)
        have h2 : St (noHeap w) wr [obCR p b { c with now := now }, obF w [p, b], obAd (.slice A0 xs.length cp) xs] := h1
        refine h2.swap 0 (o' := obC p b { c with now := now }) rfl (h2.get (a := obCR p b { c with now := now }) 0 rfl) (fun x hx => hx) (fun x hx => Nat.zero_le _) (fun j x hj hx q hq => ?_)
        match j, hj, hx with
        | 0, hj, _ => exact absurd rfl hj
        | 1, _, hx => cases hx; exact (HS0.out.sep 0 1 _ _ (by decide) rfl rfl).1 q hq
        | 2, _, hx => cases hx; exact fun hm => (h2.sep 2 0 _ _ (by decide) rfl rfl).1 q hm hq
        | n + 3, _, hx => simp at hx)
      clear HS3 HI2 hg hcap
      have HN : Hid (xs.Nodup ∧ ∀ x ∈ xs, x ∈ c.M.map (·.1)) := Lib.hid ⟨HP.out.nodup_iff.2 (due_nd HK.out.nd), fun x hx => by
        obtain ⟨y, hy, e⟩ := List.mem_map.1 (HP.out.mem_iff.1 hx)
        exact List.mem_map.2 ⟨y, (List.mem_filter.1 hy).1, e⟩⟩
      go_wp2_with fail
      go_loopw [46] (fun i wr => ∃ k : Nat, k ≤ xs.length ∧ i = .int .i64 k ∧ Hid (St (noHeap w) wr [obC p b { c with now := now, M := runT now above c.M (xs.take k) }, obF w [p, b], obAd (.slice A0 xs.length cp) xs])) (fun i _ => xs.length - (intOf i).toNat)
      case atStart => exact ⟨0, Nat.zero_le _, rfl, HSc⟩
      case round =>
        obtain ⟨k, hk, rfl, HSd⟩ := hrel
        clear HSc
        by_cases hlt : k < xs.length
        · have hltz : (k : Int) < (xs.length : Int) := by omega
          have hk0 : (0 : Int) ≤ (k : Int) := by omega
          have HKL := Lib.hid hlt
          have hxl : xs.length < 1000000 := HXL.out
          obtain ⟨g, c', hv, hra, hgs⟩ := RA_at (show kA.R 32 wr 0 (fun _ => True) (.slice A0 xs.length cp) xs from HSd.out.get 2 rfl) k _ (List.getElem?_eq_getElem hlt)
          injection hv with hA h2 h3
          subst hA h3
          clear h2
          obtain ⟨y, hlk, hmem⟩ := runT_look (now := now) (above := above) hlt HN.out.1 HK.out.nd HN.out.2
          have HST := Lib.hid (runT_take (now := now) (above := above) (M := c.M) hlt)
          have HRA := Lib.hid hra
          have hent := HK.out.ent _ hmem
          clear hra hgs hmem hk
          generalize hx : xs[k] = x at HRA HST hlk
          clear hx
          generalize hMk : runT now above c.M (xs.take k) = Mk at HSd HST hlk
          have HMk := Lib.hid hMk
          have HLK := Lib.hid hlk
          have HEN := Lib.hid hent
          clear hMk hlk hent
          go_wp2_with (first
            | (refine gate_ (.load 32 (.tmp 48)) rfl ?_; go_must (refine ld_A (.tmp 48) rfl rfl HRA.out rfl ?_))
            | (refine gate_ (.alloc 32) rfl ?_; go_must (refine wpList_alloc_B rfl 32 rfl _ zeroA _ rfl HSd.out ?_; intro w4 hz hs; clear hz; have HSe := Lib.hid hs; clear hs HSd HRA))
            | (refine gate_ (.store 32 (.tmp 10) (.tmp 49)) rfl ?_; go_must (refine wpList_store_B HSe.out 3 rfl rfl rfl 32 (.tmp 10) (.tmp 49) rfl (aV x) rfl rfl (by rw [aV_size]; exact sizA) (by rw [aV_size]; exact aV_size _) (aV_one _) ?_; intro w5 hs; have HSf : Hid (St (noHeap w) w5 [obC p b { c with now := now, M := Mk }, obF w [p, b], obAd (.slice (some ⟨g, 0, none⟩) xs.length cp) xs, obB wr.heap.size (aV x) 32]) := Lib.hid hs; clear hs HSe)))
          have HTB : Hid (Tab w5) := Lib.hid (HSf.out.tabF 1 rfl HT.out HG0.out)
          have HC2 : Hid (∀ W : World, Below w5.heap.size w5 W → W.cell? ⟨p, 2, none⟩ = some (.map (some b)) ∧ W.rangeAt wr.heap.size 0 (aL x) ∧ (Instr.lookup 78 (.map (some b)) (.agg (aV x)) false).run Tryd.prog W = .ok (.agg (beA y)) W) := Lib.hid fun W hb => by
            have hc : CaAt W p b { c with now := now, M := Mk } := (show CaAt w5 p b { c with now := now, M := Mk } from HSf.out.get 0 rfl).below hb
            have hx5 : w5.heap[wr.heap.size]? = some (.cells (aV x) 32 (0, 0)) := HSf.out.get 3 rfl
            refine ⟨hc.cells.2.2.1, range_A ((hb.block _ (lt_of_block hx5)).trans hx5), ?_⟩
            have h1 := run_lookM hc.mp x false
            rw [HLK.out] at h1
            exact h1
          have hLD : ∀ W : World, W.rangeAt wr.heap.size 0 (aL x) → (loadVar 32 ⟨wr.heap.size, 0, none⟩).run Tryd.prog W = .ok (.agg (aV x)) W := fun W h => lvA h
          have HB : Hid (Below w5.heap.size w5 w5) := Lib.hid (Below.refl _ _)
          go_region_held3 (fun W => W.cell? ⟨p, 2, none⟩ = some (.map (some b)) ∧ W.rangeAt wr.heap.size 0 (aL x) ∧ (Instr.lookup 78 (.map (some b)) (.agg (aV x)) false).run Tryd.prog W = .ok (.agg (beA y)) W) ((refine HC2.out _ ?_; first | exact HB.out | exact HB.out.drew | exact (HB.out.alloc HB.out.size _).drew)) (first | fail)
          all_goals
            have HSg : Hid (St (noHeap w) (w5.alloc (.cells #[.int .i64 y.est, .int .i64 y.fst, .int .i64 y.clk, .int .i64 y.hrd] 90)).drew [obC p b { c with now := now, M := Mk }, obF w [p, b], obAd (.slice (some ⟨g, 0, none⟩) xs.length cp) xs, obB wr.heap.size (aV x) 32, obB w5.heap.size (beA y) 90]) := Lib.hid (HSf.out.box (beA y) _).drew
            generalize (w5.alloc (.cells #[.int .i64 y.est, .int .i64 y.fst, .int .i64 y.clk, .int .i64 y.hrd] 90)).drew = w6 at HSg ⊢
            have q0 : w6.cell? ⟨w5.heap.size, 0, none⟩ = some (.int .i64 y.est) := HSg.out.cellB 4 rfl 0 rfl
            have q1 : w6.cell? ⟨w5.heap.size, 1, none⟩ = some (.int .i64 y.fst) := HSg.out.cellB 4 rfl 1 rfl
            have q2 : w6.cell? ⟨w5.heap.size, 2, none⟩ = some (.int .i64 y.clk) := HSg.out.cellB 4 rfl 2 rfl
            have fr0 := HSg.out.freeB 4 rfl 0
            have fr2 := HSg.out.freeB 4 rfl 2
            have HSh : Hid (St (noHeap w) ((w6.setCell ⟨w5.heap.size, 0, none⟩ (.int .i64 (above y.est))).setCell ⟨w5.heap.size, 2, none⟩ (.int .i64 now)) [obC p b { c with now := now, M := Mk }, obF w [p, b], obAd (.slice (some ⟨g, 0, none⟩) xs.length cp) xs, obB wr.heap.size (aV x) 32, obB w5.heap.size (beA { y with est := above y.est, clk := now }) 90]) := Lib.hid ((HSg.out.setB 4 rfl 0 (.int .i64 (above y.est))).setB 4 rfl 2 (.int .i64 now))
            by_cases hge : y.fst ≤ above y.est
            · have hd : decide (above y.est ≥ y.fst) = true := decide_eq_true hge
              have HNX : Hid (runT now above c.M (xs.take (k + 1)) = delM Mk x) := Lib.hid (by rw [HST.out]; unfold stepT; rw [HLK.out]; exact if_pos hge)
              go_wp2_with (go_at_call 35; refine (above_any _ _ (HSg.out.tabF 1 rfl HT.out HG0.out)).mono ?_; rintro e w7 ⟨rfl, rfl⟩)
              generalize ((w6.setCell ⟨w5.heap.size, 0, none⟩ (.int .i64 (above y.est))).setCell ⟨w5.heap.size, 2, none⟩ (.int .i64 now)) = w8 at HSh ⊢
              clear q0 q1 q2 fr0 fr2 HSg
              have HSi : Hid (St (noHeap w) w8.drew [obC p b { c with now := now, M := Mk }, obF w [p, b], obAd (.slice (some ⟨g, 0, none⟩) xs.length cp) xs, obB wr.heap.size (aV x) 32, obB w5.heap.size (beA { y with est := above y.est, clk := now }) 90]) := Lib.hid HSh.out.drew
              have HCA : Hid (CaAt w8 p b { c with now := now, M := Mk }) := Lib.hid (HSh.out.get 0 rfl)
              have HCD : Hid (CaAt w8.drew p b { c with now := now, M := Mk }) := Lib.hid (HSi.out.get 0 rfl)
              have hLD : ∀ W : World, W.rangeAt wr.heap.size 0 (aL x) → (loadVar 32 ⟨wr.heap.size, 0, none⟩).run Tryd.prog W = .ok (.agg (aV x)) W := fun W h => lvA h
              obtain ⟨es, ck, hrun, hM⟩ := run_delM HCD.out.mp x 0
              have HSj : Hid (St (noHeap w) (ChangeMaps.setBlock w8.drew b (.map es ck)) [obC p b { c with now := now, M := delM Mk x }, obF w [p, b], obAd (.slice (some ⟨g, 0, none⟩) xs.length cp) xs, obB wr.heap.size (aV x) 32, obB w5.heap.size (beA { y with est := above y.est, clk := now }) 90]) := Lib.hid (HSi.out.putC 0 rfl (HCD.out.setMap hM) ((touch_setBlock HCD.out.mp).mono (fun x hx => List.mem_cons_of_mem _ hx)))
              have HCJ : Hid (CaAt (ChangeMaps.setBlock w8.drew b (.map es ck)) p b { c with now := now, M := delM Mk x }) := Lib.hid (HSj.out.get 0 rfl)
              clear hM
              go_region_held3 (fun W => W.cell? ⟨p, 2, none⟩ = some (.map (some b)) ∧ W.rangeAt wr.heap.size 0 (aL x)) (first | exact ⟨HCA.out.cells.2.2.1, range_A (HSh.out.get 3 rfl)⟩ | exact ⟨HCD.out.cells.2.2.1, range_A (HSi.out.get 3 rfl)⟩ | exact ⟨HCJ.out.cells.2.2.1, range_A (HSj.out.get 3 rfl)⟩) (fail)
              all_goals
                go_wp2_with fail
                go_roundw
                case rel => exact ⟨k + 1, by have := HKL.out; omega, by go_num, Lib.hid (by rw [HNX.out]; exact St.front (Γ := [_, _, _]) (Δ := [_, _]) HSj.out)⟩
                case measure => have := HKL.out; simp [intOf]; omega
            · have hd : decide (above y.est ≥ y.fst) = false := decide_eq_false hge
              have HNX : Hid (runT now above c.M (xs.take (k + 1)) = putM Mk x { y with est := above y.est, clk := now }) := Lib.hid (by rw [HST.out]; unfold stepT; rw [HLK.out]; exact if_neg hge)
              go_wp2_with (go_at_call 35; refine (above_any _ _ (HSg.out.tabF 1 rfl HT.out HG0.out)).mono ?_; rintro e w7 ⟨rfl, rfl⟩)
              generalize ((w6.setCell ⟨w5.heap.size, 0, none⟩ (.int .i64 (above y.est))).setCell ⟨w5.heap.size, 2, none⟩ (.int .i64 now)) = w8 at HSh ⊢
              clear q0 q1 q2 fr0 fr2 HSg
              have HSi : Hid (St (noHeap w) w8.drew [obC p b { c with now := now, M := Mk }, obF w [p, b], obAd (.slice (some ⟨g, 0, none⟩) xs.length cp) xs, obB wr.heap.size (aV x) 32, obB w5.heap.size (beA { y with est := above y.est, clk := now }) 90]) := Lib.hid HSh.out.drew
              have HCA : Hid (CaAt w8 p b { c with now := now, M := Mk }) := Lib.hid (HSh.out.get 0 rfl)
              have HCD : Hid (CaAt w8.drew p b { c with now := now, M := Mk }) := Lib.hid (HSi.out.get 0 rfl)
              have hLD : ∀ W : World, W.rangeAt wr.heap.size 0 (aL x) → (loadVar 32 ⟨wr.heap.size, 0, none⟩).run Tryd.prog W = .ok (.agg (aV x)) W := fun W h => lvA h
              obtain ⟨es, ck, hput, hM⟩ := run_putM HCD.out.mp x { y with est := above y.est, clk := now }
              replace hput : (Instr.mapUpdate 78 (.map (some b)) (.agg (aV x)) (.agg (beA { y with est := above y.est, clk := now }))).run Tryd.prog w8.drew = .ok () (ChangeMaps.setBlock w8.drew b (.map es ck)) := hput
              have HSj : Hid (St (noHeap w) (ChangeMaps.setBlock w8.drew b (.map es ck)) [obC p b { c with now := now, M := putM Mk x { y with est := above y.est, clk := now } }, obF w [p, b], obAd (.slice (some ⟨g, 0, none⟩) xs.length cp) xs, obB wr.heap.size (aV x) 32, obB w5.heap.size (beA { y with est := above y.est, clk := now }) 90]) := Lib.hid (HSi.out.putC 0 rfl (HCD.out.setMap hM) ((touch_setBlock HCD.out.mp).mono (fun x hx => List.mem_cons_of_mem _ hx)))
              have HCJ : Hid (CaAt (ChangeMaps.setBlock w8.drew b (.map es ck)) p b { c with now := now, M := putM Mk x { y with est := above y.est, clk := now } }) := Lib.hid (HSj.out.get 0 rfl)
              have hLB : ∀ W : World, W.rangeAt w5.heap.size 0 (beL { y with est := above y.est, clk := now }) → (loadVar 90 ⟨w5.heap.size, 0, none⟩).run Tryd.prog W = .ok (.agg (beA { y with est := above y.est, clk := now })) W := fun W h => lvBe h
              clear hM
              go_region_held3 (fun W => W.cell? ⟨p, 2, none⟩ = some (.map (some b)) ∧ W.rangeAt wr.heap.size 0 (aL x) ∧ W.rangeAt w5.heap.size 0 (beL { y with est := above y.est, clk := now })) (first | exact ⟨HCA.out.cells.2.2.1, range_A (HSh.out.get 3 rfl), range_Be (HSh.out.get 4 rfl)⟩ | exact ⟨HCD.out.cells.2.2.1, range_A (HSi.out.get 3 rfl), range_Be (HSi.out.get 4 rfl)⟩ | exact ⟨HCJ.out.cells.2.2.1, range_A (HSj.out.get 3 rfl), range_Be (HSj.out.get 4 rfl)⟩) (fail)
              all_goals
                go_wp2_with fail
                go_roundw
                case rel => exact ⟨k + 1, by have := HKL.out; omega, by go_num, Lib.hid (by rw [HNX.out]; exact St.front (Γ := [_, _, _]) (Δ := [_, _]) HSj.out)⟩
                case measure => have := HKL.out; simp [intOf]; omega
        · have hltz : ¬ (k : Int) < (xs.length : Int) := by omega
          have hkx : k = xs.length := by omega
          have HSe : Hid (St (noHeap w) wr [obC p b (tickS c above now).2, obF w [p, b], obAd (.slice A0 xs.length cp) xs]) := Lib.hid (by
            have h1 := HSd.out
            rw [hkx, List.take_length, rise_run HK.out.nd HP.out] at h1
            have e : (tickS c above now).2 = { c with now := now, M := c.M.filterMap (rise c.A now above) } := by unfold tickS; rw [if_neg (by rw [HM.out]; simp)]
            rw [e]; exact h1)
          clear HSd hkx hlt hk
          have HC : Hid (Calls Tryd.prog 32 #[.slice A0 xs.length cp] wr fun e w' => e = .returned (.slice A0 xs.length cp) ∧ ∃ ys, SortOf xs ys ∧ St (noHeap w) w' [obC p b (tickS c above now).2, obF w [p, b], obAd (.slice A0 xs.length cp) ys]) := Lib.hid (ordered_calls HSe.out 2 rfl (fun x hx => by
            obtain ⟨y, hy, e⟩ := List.mem_map.1 (HN.out.2 x hx)
            rw [← e]; exact HO.out y hy) (by have := HXL.out; omega))
          go_wp2_with (go_at_call 32; refine HC.out.mono ?_; rintro e w9 ⟨rfl, hh⟩; have HH := Lib.hid hh; clear hh)
          go_ret2
          obtain ⟨ys, hs, hS⟩ := HH.out
          exact ⟨_, ys, rfl, ⟨hs.1.trans HP.out, hs.2⟩, hS⟩
    · intro xa xb w3 hx hr hgr hz hen
      clear hz
      have HS4 : Hid (St (noHeap w) w3 [obCR p b { c with now := now }, obF w [p, b], obR b w1.heap.size c.M (left.filter fun y => !decide (xa = y.1)), obAd v xs]) := Lib.hid (HS3.out.nextR 2 rfl hr hgr)
      have HX := Lib.hid hx
      have hent := HK.out.ent _ (HI2.out.2.2 _ hx)
      have hk0 : 0 ≤ xb.clk := hent.1
      have hk1 : xb.clk ≤ c.now := hent.2.1
      have hkw : wrap64 (now - xb.clk) = now - xb.clk := by have := HNW.out; simp only [wrap64]; omega
      clear hx hr hgr HS3 hent hk0 hk1
      replace hen : (Instr.entry (.pointer (some ⟨w1.heap.size, 0, none⟩))).run Tryd.prog w3 = .ok (.tuple #[.agg (aV xa), .agg (beA xb)]) w3 := hen
      go_wp2_with (first
        | (refine gate_ (.alloc 32) rfl ?_; go_must (refine wpList_alloc_B rfl 32 rfl _ zeroA _ rfl HS4.out ?_; intro w4 hz hs; clear hz; have HS5 := Lib.hid hs; clear hs HS4))
        | (refine gate_ (.alloc 90) rfl ?_; go_must (refine wpList_alloc_B rfl 90 rfl _ zeroBe _ rfl HS5.out ?_; intro w5 hz hs; clear hz; have HS6 := Lib.hid hs; clear hs HS5))
        | (refine gate_ (.store 32 (.tmp 7) (.tmp 28)) rfl ?_; go_must (refine wpList_store_B HS6.out 4 rfl rfl rfl 32 (.tmp 7) (.tmp 28) rfl (aV xa) rfl rfl (by rw [aV_size]; exact sizA) (by rw [aV_size]; exact aV_size _) (aV_one _) ?_; intro w6 hs; have HS7 := Lib.hid hs; clear hs HS6))
        | (refine gate_ (.store 90 (.tmp 8) (.tmp 29)) rfl ?_; go_must (refine wpList_store_B HS7.out 5 rfl rfl rfl 90 (.tmp 8) (.tmp 29) rfl (beA xb) rfl rfl beSz rfl (by simp [Value.oneCell']) ?_; intro w7 hs; have HS8 : Hid (St (noHeap w) w7 [obCR p b { c with now := now }, obF w [p, b], obR b w1.heap.size c.M (left.filter fun y => !decide (xa = y.1)), obAd v xs, obB w3.heap.size (aV xa) 32, obB w4.heap.size (beA xb) 90]) := Lib.hid hs; have q2 := hs.cellB 5 rfl 2 rfl; have qA : w7.cell? ⟨p, 1, none⟩ = some (.int .i64 c.A) := (show CaAt w7 p b { c with now := now } from hs.get 0 rfl).cells.2.1; clear hs HS7)))
      have hkw2 : IntKind.i64.wrap (now - xb.clk) = now - xb.clk := by rw [IntKind.wrap_i64]; simp only [wrap64] at hkw; exact hkw
      by_cases hdue : c.A ≤ now - xb.clk
      · have hd : decide (c.A ≤ now - xb.clk) = true := decide_eq_true hdue
        have HQ : Hid (((xs ++ [xa]) ++ ((left.filter fun y => !decide (xa = y.1)).filter (dueP c.A now)).map (·.1)).Perm ((c.M.filter (dueP c.A now)).map (·.1)) ∧ NdM (left.filter fun y => !decide (xa = y.1)) ∧ (∀ x ∈ left.filter fun y => !decide (xa = y.1), x ∈ c.M) ∧ (left.filter fun y => !decide (xa = y.1)).length < left.length) := Lib.hid ⟨by
          have h1 := due_step (dueP c.A now) HI2.out.2.1 HX.out HI2.out.1
          rw [if_pos (show dueP c.A now (xa, xb) = true from hd)] at h1
          exact h1, left_nd HI2.out.2.1 _, fun x hx => HI2.out.2.2 x (List.mem_filter.1 hx).1, left_len HI2.out.2.1 HX.out⟩
        clear hdue
        go_quiet (fail)
        have HS9 : Hid (St (noHeap w) (w7.drewN nq) [obCR p b { c with now := now }, obF w [p, b], obR b w1.heap.size c.M (left.filter fun y => !decide (xa = y.1)), obAd v xs, obB w3.heap.size (aV xa) 32, obB w4.heap.size (beA xb) 90]) := Lib.hid (HS8.out.drewN nq)
        generalize w7.drewN nq = w8 at HS9 ⊢
        clear HS8 q2 qA
        go_wp2_with (first
          | (refine gate_ (.load 32 (.tmp 7)) rfl ?_; go_must (refine ld_A (.tmp 7) rfl rfl (range_A (HS9.out.get 4 rfl)) rfl ?_))
          | (at_builtin; go_must (refine wpList_append_St kA HS9.out 3 rfl rfl (.tmp 40) (.tmp 42) 42 (.agg (aV (zA 0))) 24 rfl Tryd.underlying42 infoA (aV_size _) (by decide) (by decide) xa (aL xa) rfl rfl rfl (by have := HXL.out; omega) ?_; intro v1 w9 hgr HSA; clear hgr)))
        go_roundg (left.filter fun y => !decide (xa = y.1)).length
        case measure => have := HQ.out.2.2.2; omega
        case rel => exact ⟨_, xs ++ [xa], v1, Nat.le_refl _, rfl, Lib.hid ⟨HQ.out.1, HQ.out.2.1, HQ.out.2.2.1⟩, Lib.hid (St.front (Γ := [_, _, _, _]) (Δ := [_, _]) HSA.out)⟩
      · have hd : decide (c.A ≤ now - xb.clk) = false := decide_eq_false hdue
        have HQ : Hid ((xs ++ ((left.filter fun y => !decide (xa = y.1)).filter (dueP c.A now)).map (·.1)).Perm ((c.M.filter (dueP c.A now)).map (·.1)) ∧ NdM (left.filter fun y => !decide (xa = y.1)) ∧ (∀ x ∈ left.filter fun y => !decide (xa = y.1), x ∈ c.M) ∧ (left.filter fun y => !decide (xa = y.1)).length < left.length) := Lib.hid ⟨by
          have h1 := due_step (dueP c.A now) HI2.out.2.1 HX.out HI2.out.1
          rw [if_neg (show ¬ dueP c.A now (xa, xb) = true by show ¬ decide _ = true; rw [hd]; simp)] at h1
          exact h1, left_nd HI2.out.2.1 _, fun x hx => HI2.out.2.2 x (List.mem_filter.1 hx).1, left_len HI2.out.2.1 HX.out⟩
        clear hdue
        go_quiet (fail)
        have HS9 : Hid (St (noHeap w) (w7.drewN nq) [obCR p b { c with now := now }, obF w [p, b], obR b w1.heap.size c.M (left.filter fun y => !decide (xa = y.1)), obAd v xs, obB w3.heap.size (aV xa) 32, obB w4.heap.size (beA xb) 90]) := Lib.hid (HS8.out.drewN nq)
        generalize w7.drewN nq = w8 at HS9 ⊢
        clear HS8 q2 qA
        go_wp2_with fail
        go_roundg (left.filter fun y => !decide (xa = y.1)).length
        case measure => have := HQ.out.2.2.2; omega
        case rel => exact ⟨_, xs, v, Nat.le_refl _, rfl, Lib.hid ⟨HQ.out.1, HQ.out.2.1, HQ.out.2.2.1⟩, Lib.hid (St.front (Γ := [_, _, _, _]) (Δ := [_, _]) HS9.out)⟩
end Go.Proofs.YtdinkhhaomblcaaDoor.SL
