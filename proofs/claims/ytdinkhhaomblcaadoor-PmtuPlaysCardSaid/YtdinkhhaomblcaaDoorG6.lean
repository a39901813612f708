/- The walk of All. No condition but sizes. -/
import Derived.Test.YtdinkhhaomblcaaDoorG4
import Derived.Test.YtdinkhhaomblcaaDoorG5
import Derived.BigQuiet
namespace Go.Proofs.YtdinkhhaomblcaaDoor.SL
open Go.RowKit Go.Proofs.YtdinkhhaomblcaaDoorW.PrintWords Go.Proofs.YtdinkhhaomblcaaDoorW.PrintLast Go.Proofs.YtdinkhhaomblcaaDoorW.PrintMore
theorem infoA : (Tryd.prog.info? 32).map (fun i => (i.zero, i.size, i.bytes)) = some (some (.agg (aV (zA 0))), kA.sz, 24) := by kernel_rfl
theorem infA : ∃ i, Tryd.prog.info? 32 = some i ∧ i.size = 17 := by
  have := sizA
  cases h : Tryd.prog.info? 32 with
  | none => rw [h] at this; cases this
  | some i => rw [h] at this; exact ⟨i, rfl, by simpa using this⟩
theorem fill_A (x : Ad) : Instr.fill (fun i => some (i * 17, 17)) ((Array.range (1 * 17)).map ((aV (zA 0))[· % (aV (zA 0)).size]!)) [(0, .agg (aV x))] = some (aV x) := by
  obtain ⟨v, b, hb⟩ := x
  obtain ⟨b0, b1, b2, b3, b4, b5, b6, b7, b8, b9, b10, b11, b12, b13, b14, b15, rfl⟩ := list16 b hb
  kernel_rfl
theorem bls_A (w : World) (x : Ad) : (Instr.buildSlice 42 1 #[(0, .agg (aV x))]).run Tryd.prog w = .ok (.slice (some ⟨w.heap.size, 0, none⟩) 1 1) (w.alloc (.cells (aV x) 32)) := by
  obtain ⟨i, hi, hs⟩ := infA
  have h := fill_A x
  have hz := zeroA w
  have hzs := aV_size (zA 0)
  generalize aV (zA 0) = Z at h hz hzs
  rw [hzs] at h
  simp only [Nat.one_mul] at h
  simp only [Instr.buildSlice, Sem.run_bind, run_underlying Tryd.underlying42, Result.andThen_ok, show (sizeOf 32).run Tryd.prog w = .ok 17 w by simp [sizeOf, typeInfo, hi, hs], Nat.one_mul, if_neg (show ¬ 17 > 2 ^ 24 by decide), if_neg (show ¬ 17 = 0 by decide), hz, Sem.run_pure, Value.cells, hzs, h]
  simp [newRow]
/-- A row of one's own stands where its block stands. -/
theorem R_raise {α : Type} {d : Kd α} (hf : Flat d) {e : Nat} {w : World} {base B : Nat} {ok : Nat → Prop} {v : Value} {xs : List α} (h : d.R e w base ok v xs) (hb : ∀ b ∈ v.ownBlock.toList, B ≤ b) : d.R e w B (fun _ => True) v xs := by
  obtain ⟨_, inner, ⟨h1, h2⟩, hr⟩ := h
  refine ⟨fun _ _ => trivial, inner, ⟨h1, ?_⟩, hr.imp_ (fun x cs hx => hf w w _ _ x cs (d.K_of_M hx))⟩
  rcases h2 with h2 | ⟨g, cap, cur, rfl, _, h3⟩
  · exact .inl h2
  · exact .inr ⟨g, cap, cur, rfl, hb g (by simp [Value.ownBlock]), h3⟩
attribute [-go_sem] loadVar storeVar Instr.buildSlice
attribute [local go_sem] lv3 lv64 lvMap bls_A
attribute [local go_sem ↓] Go.wp_at_zero Go.wp_at_succ
set_option maxHeartbeats 4000000 in
set_option maxRecDepth 100000 in
theorem all_raw (p b : Nat) (c : Ca) (w : World) (h : CaAt w p b c) (hnd : NdM c.M) (hok : ∀ x ∈ c.M, BOk x.1) (hl : c.M.length < 1000000) :
    Calls Tryd.prog 14 #[.pointer (some ⟨p, 0, none⟩)] w fun e w' => ∃ v ys, e = .returned v ∧ SortOf (c.M.map (·.1)) ys ∧ kA.R 32 w' w.heap.size (fun _ => True) v ys ∧ Below w.heap.size w w' := by
  have HS0 : Hid (St w w [obCR p b c]) := Lib.hid (St.read (fun o ho => by obtain rfl := List.mem_singleton.1 ho; rfl) (fun o ho => by obtain rfl := List.mem_singleton.1 ho; exact h))
  have c2 := h.cells.2.2.1
  have HL := Lib.hid hl
  have HO := Lib.hid hok
  have HN := Lib.hid hnd
  clear h hl hok hnd
  go_enter Tryd.func14, Tryd.ntmps14
  go_wp2_with (at_range; go_must (refine wpList_rangeM rfl _ rfl rfl (show CaAt _ p b c from HS0.out.get 0 rfl).mp ?_; intro ob hr; have HS2 := Lib.hid (HS0.out.addR hr 0 rfl (List.mem_cons_of_mem _ List.mem_cons_self) List.not_mem_nil)))
  go_frame
  have HS : Hid (St w (w.alloc ob) [obCR p b c, obR b w.heap.size c.M c.M, obAd (.slice none 0 0) []]) := Lib.hid (HS2.out.newW flA)
  have HI : Hid ((([] : List Ad) ++ c.M.map (·.1)).Perm (c.M.map (·.1)) ∧ NdM c.M) := Lib.hid ⟨List.Perm.refl _, HN.out⟩
  clear HS2 HS0 c2 hr
  go_loopg [3] c.M.length (fun gg s3 wr => ∃ (left : Mp) (xs : List Ad) (v : Value), left.length ≤ gg ∧ s3 = v ∧ Hid ((xs ++ left.map (·.1)).Perm (c.M.map (·.1)) ∧ NdM left) ∧ Hid (St w wr [obCR p b c, obR b w.heap.size c.M left, obAd v xs]))
  case atStart => exact ⟨c.M, [], _, Nat.le_refl _, rfl, HI, HS⟩
  case round =>
    obtain ⟨left, xs, v, hg, hv, HI2, HS3⟩ := hrel
    replace hv := hv.symm
    subst hv
    clear HS HI
    have HXL : Hid (xs.length < 1000000) := Lib.hid (by
      have := HI2.out.1.length_eq
      have := HL.out
      simp only [List.length_append, List.length_map] at *
      omega)
    go_wp2_with (at_next; go_must (refine wpList_nextM rfl _ rfl rfl (show RgAt _ b _ c.M left from HS3.out.get 1 rfl) ?_ ?_))
    · intro hl
      subst hl
      have hxs : ∀ x ∈ xs, BOk x := fun x hx => by
        have := HI2.out.1.mem_iff.1 (List.mem_append_left _ hx)
        obtain ⟨y, hy, rfl⟩ := List.mem_map.1 this
        exact HO.out y hy
      have HC : Hid (Calls Tryd.prog 32 #[v] wr fun e w' => e = .returned v ∧ ∃ ys, SortOf xs ys ∧ St w w' [obCR p b c, obR b w.heap.size c.M [], obAd v ys]) := Lib.hid (ordered_calls HS3.out 2 rfl hxs (by have := HXL.out; omega))
      have HP : Hid (xs.Perm (c.M.map (·.1))) := Lib.hid (by have := HI2.out.1; simpa using this)
      clear hxs
      go_wp2_with (go_at_call 32; refine HC.out.mono ?_; rintro e w1 ⟨rfl, hh⟩; have HH := Lib.hid hh; clear hh)
      go_ret
      obtain ⟨ys, hs, hS⟩ := HH.out
      exact ⟨_, ys, rfl, ⟨hs.1.trans HP.out, hs.2⟩, R_raise flA (show kA.R _ _ _ _ _ _ from hS.get 2 rfl) (hS.base 2 _ rfl), hS.bl⟩
    · intro xa xb w2 hx hr hgr hz hen
      clear hz
      have HS4 : Hid (St w w2 [obCR p b c, obR b w.heap.size c.M (left.filter fun y => !decide (xa = y.1)), obAd v xs]) := Lib.hid (HS3.out.nextR 1 rfl hr hgr)
      have HX := Lib.hid hx
      clear hx hr hgr HS3
      replace hen : (Instr.entry (.pointer (some ⟨w.heap.size, 0, none⟩))).run Tryd.prog w2 = .ok (.tuple #[.agg (aV xa), beV xb]) w2 := hen
      go_wp2_with (first
        | (refine gate_ (.alloc 32) rfl ?_; go_must (refine wpList_alloc_B rfl 32 rfl _ zeroA _ rfl HS4.out ?_; intro w3 hz hs; clear hz; have HS5 := Lib.hid hs; clear hs HS4))
        | (refine gate_ (.store 32 (.tmp 4) (.tmp 13)) rfl ?_; go_must (refine wpList_store_B HS5.out 3 rfl rfl rfl 32 (.tmp 4) (.tmp 13) rfl (aV xa) rfl rfl (by rw [aV_size]; exact sizA) (by rw [aV_size]; exact aV_size _) (aV_one _) ?_; intro w5 hs; have HS7 := Lib.hid hs; clear hs HS5))
        | (refine gate_ (.load 32 (.tmp 4)) rfl ?_; go_must (refine ld_A (.tmp 4) rfl rfl (range_A (HS7.out.get 3 rfl)) rfl ?_))
        | (at_builtin; go_must (refine wpList_append_St kA HS7.out 2 rfl rfl (.tmp 14) (.tmp 16) 42 (.agg (aV (zA 0))) 24 rfl Tryd.underlying42 infoA (aV_size _) (by decide) (by decide) xa (aL xa) rfl rfl rfl (by have := HXL.out; omega) ?_; intro v1 w9 _ HS9)))
      have HQ : Hid (((xs ++ [xa]) ++ (left.filter fun y => !decide (xa = y.1)).map (·.1)).Perm (c.M.map (·.1)) ∧ NdM (left.filter fun y => !decide (xa = y.1)) ∧ (left.filter fun y => !decide (xa = y.1)).length < left.length) := Lib.hid ⟨by
        refine List.Perm.trans ?_ HI2.out.1
        rw [List.append_assoc]
        exact (((left_perm HI2.out.2 HX.out).map (fun y : Ad × Bel => y.1)).append_left xs).symm, left_nd HI2.out.2 _, left_len HI2.out.2 HX.out⟩
      go_roundg (left.filter fun y => !decide (xa = y.1)).length
      case measure => have := HQ.out.2.2; omega
      case rel => exact ⟨_, xs ++ [xa], v1, Nat.le_refl _, rfl, Lib.hid ⟨HQ.out.1, HQ.out.2.1⟩, Lib.hid (St.front (Γ := [_, _, _]) (Δ := [_]) HS9.out)⟩
end Go.Proofs.YtdinkhhaomblcaaDoor.SL
