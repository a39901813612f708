/- The walk of forget. No condition. -/
import Derived.Test.YtdinkhhaomblcaaDoorG2
import Derived.Test.YtdinkhhaomblcaaDoorBx
namespace Go.Proofs.YtdinkhhaomblcaaDoor.SL
open Go.RowKit Go.Proofs.YtdinkhhaomblcaaDoorW.PrintWords Go.Proofs.YtdinkhhaomblcaaDoorW.PrintLast Go.Proofs.YtdinkhhaomblcaaDoorW.PrintMore
/-- A walk over a map as an object: its own block. -/
def obR (b r : Nat) (M left : Mp) : Ob where
  own := [r]
  all := [r, b]
  holds w := RgAt w b r M left
  sub := fun _ h => by obtain rfl := List.mem_singleton.1 h; exact List.mem_cons_self
  lt := fun w h x hx => by
    rcases List.mem_cons.1 hx with rfl | hx
    · exact h.lt.1
    · obtain rfl := List.mem_singleton.1 hx
      exact h.map.lt
  stab := fun w w' h hs => h.same (hs b (List.mem_cons_of_mem _ List.mem_cons_self)) (hs r List.mem_cons_self)
/-- The cache, read alone. -/
def obCR (p b : Nat) (c : Ca) : Ob where
  own := []
  all := [p, b]
  holds w := CaAt w p b c
  sub := fun _ h => by cases h
  lt := (obC p b c).lt
  stab := (obC p b c).stab
section
variable {w0 w w' : World} {Γ : List Ob} {p b r : Nat} {c : Ca} {M left : Mp}
theorem St.addR (h : St w0 w Γ) {ob : Obj} (hr : RgAt (w.alloc ob) b w.heap.size M left) (k : Nat) {o0 : Ob} (hk : Γ[k]? = some o0) (h1 : b ∈ o0.all) (h2 : b ∉ o0.own) : St w0 (w.alloc ob) (Γ ++ [obR b w.heap.size M left]) := by
  have h' := h.alloc0 ob
  have hb : ∀ o ∈ Γ, b ∉ o.own := fun o ho hbo => by
    obtain ⟨j, hj, rfl⟩ := List.getElem_of_mem ho
    by_cases e : j = k
    · subst e
      rw [List.getElem?_eq_getElem hj] at hk
      injection hk with hk
      exact h2 (hk ▸ hbo)
    · exact (h.sep j k _ o0 e (List.getElem?_eq_getElem hj) hk).1 b hbo h1
  refine ⟨h'.bl, fun i o hi => ?_, fun i o hi x hx => ?_, fun i j x y hij hi hj => ?_⟩
  · rw [List.getElem?_append] at hi
    split at hi
    · exact h'.ok i o hi
    · obtain rfl := List.mem_singleton.1 (List.mem_of_getElem? hi)
      exact hr
  · rw [List.getElem?_append] at hi
    split at hi
    · exact h'.base i o hi x hx
    · obtain rfl := List.mem_singleton.1 (List.mem_of_getElem? hi)
      obtain rfl := List.mem_singleton.1 (show x ∈ [w.heap.size] from hx)
      exact h.bl.size
  · have key : ∀ k o, Γ[k]? = some o → Apart o (obR b w.heap.size M left) := fun k o ho => ⟨fun x hx hxr => by
      rcases List.mem_cons.1 (show x ∈ [w.heap.size, b] from hxr) with rfl | hxr
      · exact absurd (o.lt w (h.ok k o ho) _ (o.sub _ hx)) (Nat.lt_irrefl _)
      · obtain rfl := List.mem_singleton.1 hxr
        exact hb o (List.mem_of_getElem? ho) hx, fun x hx hxo => by
      obtain rfl := List.mem_singleton.1 (show x ∈ [w.heap.size] from hx)
      exact absurd (o.lt w (h.ok k o ho) _ hxo) (Nat.lt_irrefl _)⟩
    rw [List.getElem?_append] at hi hj
    split at hi
    · split at hj
      · exact h'.sep i j x y hij hi hj
      · obtain rfl := List.mem_singleton.1 (List.mem_of_getElem? hj)
        exact key i x hi
    · split at hj
      · obtain rfl := List.mem_singleton.1 (List.mem_of_getElem? hi)
        exact (key j y hj).symm
      · have h1 := (List.getElem?_eq_some_iff.1 hi).1
        have h2 := (List.getElem?_eq_some_iff.1 hj).1
        simp only [List.length_singleton] at h1 h2
        omega
theorem St.nextR (h : St w0 w Γ) (i : Nat) (hi : Γ[i]? = some (obR b r M left)) {left' : Mp} (hr : RgAt w' b r M left') (hg : w.grownBy w' (some r)) : St w0 w' (Γ.set i (obR b r M left')) := by
  have := h.upd i hi (Touch.grown (Touch.refl [r] w) hg (fun k hk => .inl (by injection hk with hk; rw [hk]; exact List.mem_cons_self))) (obR b r M left') [] (fun o ho => by obtain rfl := List.mem_singleton.1 ho; exact hr)
    (fun o ho x hx => by obtain rfl := List.mem_singleton.1 ho; exact .inl hx) (fun o ho x hx => by obtain rfl := List.mem_singleton.1 ho; exact .inl hx) (List.pairwise_singleton _ _)
  rwa [List.append_nil] at this
end
def z17 : Array Value := aV (zA 0)
theorem beSz : (Tryd.prog.info? 90).map (·.size) = some 4 := by kernel_rfl
theorem aV_one (a : Ad) : (aV a).all (·.oneCell') = true := Array.all_eq_true_iff_forall_mem.2 fun u hu => aL_one a u (by simpa [aV] using hu)
abbrev beA (x : Bel) : Array Value := #[.int .i64 x.est, .int .i64 x.fst, .int .i64 x.clk, .int .i64 x.hrd]
attribute [-go_sem] loadVar storeVar
attribute [local go_sem] lv3 lv64 lvMap
attribute [local go_sem ↓] Go.wp_at_zero Go.wp_at_succ
theorem zeroA (w : World) : (zeroValue 32).run Tryd.prog w = .ok (.agg (aV (zA 0))) w := by kernel_rfl
theorem zeroBe (w : World) : (zeroValue 90).run Tryd.prog w = .ok (.agg (beA zBel)) w := by kernel_rfl
set_option maxHeartbeats 4000000 in
set_option maxRecDepth 100000 in
theorem forget_calls (p b : Nat) (c : Ca) (w : World) (h : CaAt w p b c) (hk : OkC c) (hh : c.hrd < 4000000000000000000) :
    Calls Tryd.prog 40 #[.pointer (some ⟨p, 0, none⟩)] w fun e w' => e = .returned (.tuple #[]) ∧ CaAt w' p b { c with M := forgetS c } ∧ Touch [b] w w' := by
  have h0 := hk.h0
  have HS0 : Hid (St w w [obCR p b c]) := Lib.hid (St.read (fun o ho => by obtain rfl := List.mem_singleton.1 ho; rfl) (fun o ho => by obtain rfl := List.mem_singleton.1 ho; exact h))
  have HK := Lib.hid hk
  clear h hk
  go_enter Tryd.func40, Tryd.ntmps40
  go_wp2_with (first
    | (refine gate_ (.alloc 32) rfl ?_; go_must (refine wpList_alloc_B rfl 32 rfl _ zeroA _ rfl HS0.out ?_; intro w1 hz hs; clear hz; have HS1 := Lib.hid hs; have cc := (show CaAt w1 p b c from hs.get 0 rfl).cells; have c2 := cc.2.2.1; have c4 := cc.2.2.2.2; clear hs cc))
    | (at_range; go_must (refine wpList_rangeM rfl _ rfl rfl (show CaAt _ p b c from HS1.out.get 0 rfl).mp ?_; intro ob hr; have HS2 := Lib.hid (HS1.out.addR hr 0 rfl (List.mem_cons_of_mem _ List.mem_cons_self) List.not_mem_nil))))
  go_frame
  have HI : Hid (MinI c.M c.M (c.hrd + 1) (zA 0) (c.hrd + 1) (zA 0) ∧ NdM c.M ∧ ∀ y ∈ c.M, y ∈ c.M) := Lib.hid ⟨min_start _ _ _, HK.out.nd, fun _ h => h⟩
  have HS : Hid (St w (w1.alloc ob) [obCR p b c, obB w.heap.size (aV (zA 0)) 32, obR b w1.heap.size c.M c.M]) := HS2
  clear HS1 HS2 HS0 c2 c4
  go_loopg [3] c.M.length (fun gg s3 wr => ∃ (left : Mp) (least : Int) (o : Ad), left.length ≤ gg ∧ s3 = .int .i64 least ∧ Hid (MinI c.M left (c.hrd + 1) (zA 0) least o ∧ NdM left ∧ ∀ y ∈ left, y ∈ c.M) ∧ Hid (St w wr [obCR p b c, obB w.heap.size (aV o) 32, obR b w1.heap.size c.M left]))
  case atStart => exact ⟨c.M, _, _, Nat.le_refl _, rfl, HI, HS⟩
  case round =>
    obtain ⟨left, least, o, hg, rfl, HI2, HS3⟩ := hrel
    clear HS HI
    go_wp2_with (at_next; go_must (refine wpList_nextM rfl _ rfl rfl (show RgAt _ b _ c.M left from HS3.out.get 2 rfl) ?_ ?_))
    · intro hl
      subst hl
      have ho := min_end HK.out.hd HI2.out.1
      have HCA : Hid (CaAt wr p b c) := Lib.hid (HS3.out.get 0 rfl)
      have c20 : wr.cell? ⟨p, 2, none⟩ = some (.map (some b)) := HCA.out.cells.2.2.1
      have HR0 : Hid (wr.rangeAt w.heap.size 0 (aL o)) := Lib.hid (range_A (HS3.out.get 1 rfl))
      have c2 : wr.drew.cell? ⟨p, 2, none⟩ = some (.map (some b)) := HCA.out.cells.2.2.1
      have HD : CaAt wr.drew p b c := HCA.out.below ((Touch.refl [] wr).drew.below)
      obtain ⟨es, ck, hrun, hM⟩ := run_delM HD.mp o 0
      have HR : Hid (wr.drew.rangeAt w.heap.size 0 (aL o)) := Lib.hid (range_A (HS3.out.drew.get 1 rfl))
      have hLD : ∀ W : World, W.rangeAt w.heap.size 0 (aL o) → (loadVar 32 ⟨w.heap.size, 0, none⟩).run Tryd.prog W = .ok (.agg (aV o)) W := fun W h => lvA h
      have HE : Hid (CaAt (ChangeMaps.setBlock wr.drew b (.map es ck)) p b { c with M := forgetS c } ∧ Touch [b] w (ChangeMaps.setBlock wr.drew b (.map es ck))) := Lib.hid (by
        have hM2 : MpAt (ChangeMaps.setBlock wr.drew b (.map es ck)) b (forgetS c) := by unfold forgetS; rw [← ho]; exact hM
        exact ⟨HD.setMap hM2, (Touch.of_below HS3.out.drew.bl).trans (touch_setBlock HD.mp)⟩)
      have hne : w.heap.size ≠ b := fun e => (HS3.out.sep 1 0 _ _ (by decide) rfl rfl).1 w.heap.size List.mem_cons_self (by rw [e]; exact List.mem_cons_of_mem _ List.mem_cons_self)
      have HRf : Hid ((ChangeMaps.setBlock wr.drew b (.map es ck)).rangeAt w.heap.size 0 (aL o)) := Lib.hid (by
        obtain ⟨es0, clock0, hb0, _⟩ := HD.mp.ex
        exact range_A ((ChangeMaps.heap_setBlock_other hb0 _ hne).trans (HS3.out.drew.get 1 rfl)))
      clear HD hM ho HI2 HCA hne
      go_wp2_with fail
      go_region_held3 (fun W => W.cell? ⟨p, 2, none⟩ = some (.map (some b)) ∧ W.rangeAt w.heap.size 0 (aL o)) (first | exact ⟨c2, HR.out⟩ | exact ⟨c20, HR0.out⟩ | exact ⟨HE.out.1.cells.2.2.1, HRf.out⟩) (fail)
      go_end0
      exact ⟨rfl, HE.out⟩
    · intro xa xb w2 hx hr hgr hz hen
      clear hz
      have HS4 : Hid (St w w2 [obCR p b c, obB w.heap.size (aV o) 32, obR b w1.heap.size c.M (left.filter fun y => !decide (xa = y.1))]) := Lib.hid (HS3.out.nextR 2 rfl hr hgr)
      have HX := Lib.hid hx
      clear hx hr hgr HS3
      replace hen : (Instr.entry (.pointer (some ⟨w1.heap.size, 0, none⟩))).run Tryd.prog w2 = .ok (.tuple #[.agg (aV xa), .agg (beA xb)]) w2 := hen
      go_wp2_with (first
        | (refine gate_ (.alloc 32) rfl ?_; go_must (refine wpList_alloc_B rfl 32 rfl _ zeroA _ rfl HS4.out ?_; intro w3 hz hs; clear hz; have HS5 := Lib.hid hs; clear hs HS4))
        | (refine gate_ (.alloc 90) rfl ?_; go_must (refine wpList_alloc_B rfl 90 rfl _ zeroBe _ rfl HS5.out ?_; intro w4 hz hs; clear hz; have HS6 := Lib.hid hs; clear hs HS5))
        | (refine gate_ (.store 32 (.tmp 4) (.tmp 19)) rfl ?_; go_must (refine wpList_store_B HS6.out 3 rfl rfl rfl 32 (.tmp 4) (.tmp 19) rfl (aV xa) rfl rfl (by rw [aV_size]; exact sizA) (by rw [aV_size]; exact aV_size _) (aV_one _) ?_; intro w5 hs; have HS7 := Lib.hid hs; clear hs HS6))
        | (refine gate_ (.store 90 (.tmp 5) (.tmp 20)) rfl ?_; go_must (refine wpList_store_B HS7.out 4 rfl rfl rfl 90 (.tmp 5) (.tmp 20) rfl (beA xb) rfl rfl beSz rfl (by simp [Value.oneCell']) ?_; intro w6 hs; have HS8 := Lib.hid hs; have q3 := hs.cellB 4 rfl 3 rfl; clear hs HS7)))
      · rename_i hlt
        have HS8' : Hid (St w w6 [obCR p b c, obB w.heap.size (aV o) 32, obR b w1.heap.size c.M (left.filter fun y => !decide (xa = y.1)), obB w2.heap.size (aV xa) 32, obB w3.heap.size (beA xb) 90]) := HS8
        have HS9 : Hid (St w (w6.drew.setRow w.heap.size (aV xa)) [obCR p b c, obB w.heap.size (aV xa) 32, obR b w1.heap.size c.M (left.filter fun y => !decide (xa = y.1)), obB w2.heap.size (aV xa) 32, obB w3.heap.size (beA xb) 90]) := Lib.hid (HS8'.out.drew.stB 1 rfl (aV xa))
        have hSV : (storeVar 32 ⟨w.heap.size, 0, none⟩ (.agg (aV xa))).run Tryd.prog w6.drew = .ok () (w6.drew.setRow w.heap.size (aV xa)) := svA (HS8'.out.drew.get 1 rfl) (aV_size _)
        have hLD : ∀ W : World, W.rangeAt w2.heap.size 0 (aL xa) → (loadVar 32 ⟨w2.heap.size, 0, none⟩).run Tryd.prog W = .ok (.agg (aV xa)) W := fun W h => lvA h
        have HQ : Hid (MinI c.M (left.filter fun y => !decide (xa = y.1)) (c.hrd + 1) (zA 0) xb.hrd xa ∧ NdM (left.filter fun y => !decide (xa = y.1)) ∧ (∀ y ∈ left.filter fun y => !decide (xa = y.1), y ∈ c.M) ∧ (left.filter fun y => !decide (xa = y.1)).length < left.length) := Lib.hid (by
          have h1 := min_step HI2.out.2.1 HI2.out.2.2 HX.out HI2.out.1
          rw [if_pos hlt, if_pos hlt] at h1
          exact ⟨h1, left_nd HI2.out.2.1 _, fun y hy => HI2.out.2.2 y ((List.mem_filter.1 hy).1), left_len HI2.out.2.1 HX.out⟩)
        clear HI2 HX HS8
        go_region_held3 (fun W => W.rangeAt w2.heap.size 0 (aL xa) ∧ W.cell? ⟨w3.heap.size, 3, none⟩ = some (.int .i64 xb.hrd)) (first | exact ⟨range_A (HS8'.out.get 3 rfl), HS8'.out.cellB 4 rfl 3 rfl⟩ | exact ⟨range_A (HS8'.out.drew.get 3 rfl), HS8'.out.drew.cellB 4 rfl 3 rfl⟩ | exact ⟨range_A (HS9.out.get 3 rfl), HS9.out.cellB 4 rfl 3 rfl⟩) (fail)
        all_goals
          go_wp2_with fail
          go_roundg (left.filter fun y => !decide (xa = y.1)).length
          case measure => have := HQ.out.2.2.2; omega
          case rel => exact ⟨_, _, xa, Nat.le_refl _, rfl, Lib.hid ⟨HQ.out.1, HQ.out.2.1, HQ.out.2.2.1⟩, Lib.hid (St.front (Γ := [_, _, _]) (Δ := [_, _]) HS9.out)⟩
      · rename_i hlt
        have HS8' : Hid (St w w6 [obCR p b c, obB w.heap.size (aV o) 32, obR b w1.heap.size c.M (left.filter fun y => !decide (xa = y.1)), obB w2.heap.size (aV xa) 32, obB w3.heap.size (beA xb) 90]) := HS8
        have HQ : Hid (MinI c.M (left.filter fun y => !decide (xa = y.1)) (c.hrd + 1) (zA 0) least o ∧ NdM (left.filter fun y => !decide (xa = y.1)) ∧ (∀ y ∈ left.filter fun y => !decide (xa = y.1), y ∈ c.M) ∧ (left.filter fun y => !decide (xa = y.1)).length < left.length) := Lib.hid (by
          have h1 := min_step HI2.out.2.1 HI2.out.2.2 HX.out HI2.out.1
          have hlt' : ¬ xb.hrd < least := by omega
          rw [if_neg hlt', if_neg hlt'] at h1
          exact ⟨h1, left_nd HI2.out.2.1 _, fun y hy => HI2.out.2.2 y ((List.mem_filter.1 hy).1), left_len HI2.out.2.1 HX.out⟩)
        go_roundg (left.filter fun y => !decide (xa = y.1)).length
        case measure => have := HQ.out.2.2.2; omega
        case rel => exact ⟨_, _, o, Nat.le_refl _, rfl, Lib.hid ⟨HQ.out.1, HQ.out.2.1, HQ.out.2.2.1⟩, Lib.hid (St.front (Γ := [_, _, _]) (Δ := [_, _]) HS8'.out)⟩
end Go.Proofs.YtdinkhhaomblcaaDoor.SL
