/- The walk of the library's Delete of one bound, and of Close. No condition but sizes. -/
import Derived.Test.YtgcafklieblldaaB7
import Derived.Deep.RegionLaw
import Derived.Shelf.RegionOpenPlain
namespace Go.Proofs.Ytgcafklieblldaa.SL
open Go.RowKit Go.Proofs.YtgcafklieblldaaW.PrintWords Go.Proofs.YtgcafklieblldaaW.PrintLast Go.Proofs.YtgcafklieblldaaW.PrintMore
theorem Reps.erase {α : Type} {R : α → List Value → Prop} {s : Nat} {ps : List α} {cs : List Value} (h : Reps R s ps cs) {k : Nat} (hk : k < ps.length) : Reps R s (ps.eraseIdx k) (cs.take (k * s) ++ cs.drop ((k + 1) * s)) := by
  have hle : (k + 1) * s ≤ ps.length * s := Nat.mul_le_mul_right _ hk
  have e1 : (k + 1) * s = k * s + s := Nat.succ_mul k s
  have hl := h.1
  have hks : (cs.take (k * s)).length = k * s := by rw [List.length_take]; omega
  refine ⟨?_, fun j p hj => ?_⟩
  · rw [List.length_append, hks, List.length_drop, hl, List.length_eraseIdx, if_pos hk, Nat.sub_mul, Nat.one_mul]
    omega
  · rw [List.getElem?_eraseIdx] at hj
    by_cases hjk : j < k
    · rw [if_pos hjk] at hj
      have := h.2 j p hj
      have hjs : (j + 1) * s ≤ k * s := Nat.mul_le_mul_right _ hjk
      have e2 : (j + 1) * s = j * s + s := Nat.succ_mul j s
      rw [List.drop_append_of_le_length (by rw [hks]; omega), List.take_append_of_le_length (by rw [List.length_drop, hks]; omega), List.drop_take, List.take_take, Nat.min_eq_left (by omega)]
      exact this
    · rw [if_neg hjk] at hj
      have := h.2 (j + 1) p hj
      have hjs : k * s ≤ j * s := Nat.mul_le_mul_right _ (by omega)
      have e2 : (j + 1) * s = j * s + s := Nat.succ_mul j s
      rw [List.drop_append, hks, List.drop_eq_nil_of_le (by rw [hks]; exact hjs), List.nil_append, List.drop_drop, show (k + 1) * s + (j * s - k * s) = (j + 1) * s by omega]
      exact this
theorem hreps_one {α : Type} (d : Kd α) {w : World} {base : Nat} {ok : Nat → Prop} {l : List α} {inner : List Value} (h : Reps (d.M w base ok) d.sz l inner) : ∀ u ∈ inner, u.oneCell' = true := fun u hu => by
  obtain ⟨j, hj, rfl⟩ := List.getElem_of_mem hu
  rcases Nat.eq_zero_or_pos d.sz with h0 | h0
  · have := h.1; rw [h0] at this; omega
  · have hq : j / d.sz < l.length := (Nat.div_lt_iff_lt_mul h0).2 (by rw [← h.1]; exact hj)
    have hm := h.2 (j / d.sz) _ (List.getElem?_eq_getElem hq)
    refine d.K_one (d.K_of_M hm) _ ?_
    have e := Nat.div_add_mod j d.sz
    have hr := Nat.mod_lt j h0
    refine List.mem_of_getElem? (i := j % d.sz) ?_
    rw [List.getElem?_take, if_pos hr, List.getElem?_drop, Nat.mul_comm, e, List.getElem?_eq_getElem hj]
section
variable {P : Program}
/-- clear(l), in a block that is known whole. -/
theorem run_clear_row (w : World) (t e ty : TypeId) (z : Value) (ht : P.underlying t = some (.slice e)) (hv : (zeroValue e).run P w = .ok z w) (h1 : ∀ u ∈ z.cells.toList, u.oneCell' = true) (g o c : Nat) (cur : Array Value)
    (hg : w.heap[g]? = some (.cells cur e (0, 0))) (hfit : o + z.cells.size ≤ cur.size) :
    (Builtin.clear_ #[t] ty #[.slice (some ⟨g, o, none⟩) 1 c]).run P w = .ok (.tuple #[]) (w.setRow g (cur.toList.take o ++ z.cells.toList ++ cur.toList.drop (o + z.cells.size)).toArray) := by
  have hzc : (Builtin.zeroCells z.cells 1).toList = z.cells.toList := by
    apply List.ext_getElem
    · simp [Builtin.zeroCells]
    · intro i h1 h2
      simp [Builtin.zeroCells] at h1 h2 ⊢
      rw [getElem!_pos _ _ (by rw [Nat.mod_eq_of_lt h2]; exact h2)]
      congr 1
      exact Nat.mod_eq_of_lt h2
  have hst := run_storeCells_at P g o e z.cells.toList 0 cur w hg (by simpa using hfit) h1
  simp only [Nat.add_zero, Array.length_toList] at hst
  simp [Builtin.clear_, run_underlying ht, hv, hzc, hst]
/-- append(l[:k], l[k+m..]...) as one step of a region that draws, in a block that is known whole. -/
theorem step_append_roomRow {ops : Array Oper} {o : Oper} {a : Act} {w : World} {K : Act → World → Prop} {Q : Exit → Act → World → Prop} {E : Prop}
    (hg : o.guard = none) (s x : Operand) (t : TypeId) (hop : o.op = Op.call { callee := Callee.builtin Builtin.append, args := #[s, x], argTypes := #[t, t] })
    (e : TypeId) (i : TypeInfo) (h1 : P.underlying t = some (.slice e)) (h2 : P.info? e = some i)
    (g n cap : Nat) (hs : a.eval s = .slice (some ⟨g, 0, none⟩) n cap) (cur : Array Value) (hb : w.heap[g]? = some (.cells cur e (0, 0)))
    (ad : Addr) (m c : Nat) (news : List Value) (hx : a.eval x = .slice (some ad) m c) (hn : news.length = m * i.size) (hc : ∀ j u, news[j]? = some u → w.cell? (ad.add j) = some u) (h1c : ∀ u ∈ news, u.oneCell' = true)
    (hroom : n + m ≤ cap) (hfit : n * i.size + news.length ≤ cur.size)
    (hK : K (a.put o.dst (.slice (some ⟨g, 0, none⟩) (n + m) cap)) (w.setRow g (cur.toList.take (n * i.size) ++ news ++ cur.toList.drop (n * i.size + news.length)).toArray)) :
    if Region.wanted o (yielded ops a.tmps) = true then Oper.wp P o a w K Q else E := by
  have hw : Region.wanted o (yielded ops a.tmps) = true := by simp [Region.wanted, hg]
  rw [if_pos hw]
  have hrun := run_append_room (P := P) w t o.type e i h1 h2 g n cap cur hb ad m c news hn hc h1c hroom hfit
  unfold Oper.wp execOp
  simp only [hop, resolve, invoke, builtin, Sem.run_bind, Sem.run_pure, Result.andThen_ok, List.map_toArray, List.map_cons, List.map_nil, hs, hx, hrun]
  exact hK
variable {ops : Array Oper} {rest : List Oper} {o : Oper} {a : Act} {Q : Exit → Act → World → Prop} {w : World}
theorem wpList_clear (hgd : o.guard = none) (x : Operand) (t e : TypeId) (ho : o.op = .call { callee := .builtin .clear, args := #[x], argTypes := #[t] }) (z : Value) (ht : P.underlying t = some (.slice e)) (hv : (zeroValue e).run P w = .ok z w) (h1 : ∀ u ∈ z.cells.toList, u.oneCell' = true) (g off c : Nat) (cur : Array Value)
    (hx : a.eval x = .slice (some ⟨g, off, none⟩) 1 c) (hg : w.heap[g]? = some (.cells cur e (0, 0))) (hfit : off + z.cells.size ≤ cur.size)
    (h : wpList P ops Q rest (a.put o.dst (.tuple #[])) (w.setRow g (cur.toList.take off ++ z.cells.toList ++ cur.toList.drop (off + z.cells.size)).toArray)) : wpList P ops Q (o :: rest) a w :=
  wpList_plain hgd fun _ hK => by
    unfold Oper.wp execOp
    simp only [ho, resolve, invoke, builtin, Sem.run_bind, Sem.run_pure, Result.andThen_ok, List.map_toArray, List.map_cons, List.map_nil, hx, run_clear_row w t e o.type z ht hv h1 g off c cur hg hfit]
    exact hK _ _ h
end
theorem grownBy_setRow {w w1 : World} {g : Nat} {r : Option Nat} (h : w.grownBy w1 r) (hr : some g = r) (cs : Array Value) : w.grownBy (w1.setRow g cs) r :=
  ⟨h.os, h.tape, h.output, by simpa [World.setRow] using h.size, fun k hk hn => (setRow_other w1 g k cs (fun e => hn (by rw [e]; exact hr))).trans (h.block k hk hn)⟩
def zB : Bd := ⟨0, ⟨zA 0, 0⟩⟩
theorem zero_B (w : World) : (zeroValue 66).run Try.prog w = .ok (.agg (bV zB)) w := by
  have h : (Try.prog.info? 66).bind (·.zero) = some (.agg (bV zB)) := by kernel_rfl
  cases hi : Try.prog.info? 66 with
  | none => rw [hi] at h; cases h
  | some i =>
    rw [hi] at h
    have h : i.zero = some (.agg (bV zB)) := h
    simp [zeroValue, typeInfo, hi, h]
theorem infB : ∃ i, Try.prog.info? 66 = some i ∧ i.size = 19 := by
  have := sizB
  cases h : Try.prog.info? 66 with
  | none => rw [h] at this; cases this
  | some i => rw [h] at this; exact ⟨i, rfl, by simpa using this⟩
set_option maxHeartbeats 2000000 in
theorem delete_calls (k m gr cap : Nat) (l : List Bd) (w : World) (hl : l.length = k + 1 + m) (h : RB w 0 (.slice (some ⟨gr, 0, none⟩) (k + 1 + m) cap) l) :
    Calls Try.prog 24 #[.slice (some ⟨gr, 0, none⟩) (k + 1 + m) cap, .int .i64 k, .int .i64 (k + 1)] w fun e w' => e = .returned (.slice (some ⟨gr, 0, none⟩) (k + m) cap) ∧ RB w' 0 (.slice (some ⟨gr, 0, none⟩) (k + m) cap) (l.eraseIdx k) ∧ w.grownBy w' (some gr) := by
  obtain ⟨_, inner, hown, hreps⟩ := h
  obtain ⟨i0, hi0, hs0⟩ := infB
  have hown2 := hown.2
  rw [hl] at hown2
  rcases hown2 with ⟨_, h0⟩ | ⟨g', cap', cur, e, _, hg, hnc, hcm, hcs, htake⟩
  · omega
  injection e with e1 _ e3
  injection e1 with e1
  injection e1 with e1
  subst e1 e3
  simp only [maxLen] at hcm
  have hkc : k ≤ cap := by omega
  have hkc1 : k + 1 ≤ cap := by omega
  have hlen : inner.length = (k + 1 + m) * 19 := by have := hown.1; rw [hl] at this; exact this
  have hcs19 : cur.size = cap * 19 := hcs
  have hne : ¬ k = k + 1 := by omega
  have hg' : w.drew.heap[gr]? = some (.cells cur 66 (0, 0)) := hg
  obtain ⟨news, hnews⟩ : ∃ news, news = inner.drop ((k + 1) * 19) := ⟨_, rfl⟩
  have hnl : news.length = m * 19 := by rw [hnews, List.length_drop, hlen]; omega
  go_enter Try.func24, Try.ntmps24
  have hone : ∀ u ∈ inner, u.oneCell' = true := fun u hu => hreps_one kB hreps u hu
  have h1n : Hid (∀ u ∈ news, u.oneCell' = true) := Lib.hid fun u hu => hone u (List.mem_of_mem_drop (by rw [← hnews]; exact hu))
  obtain ⟨A, hA, hsrc⟩ : ∃ A : Addr, (if cap = k + 1 then some (⟨gr, 0, none⟩ : Addr) else some ⟨gr, (k + 1) * 19, none⟩) = some A ∧ Hid (∀ t u, news[t]? = some u → w.drew.cell? (A.add t) = some u) := by
    by_cases hc : cap = k + 1
    · refine ⟨⟨gr, 0, none⟩, by simp [hc], Lib.hid fun t u hu => ?_⟩
      have h0 : news.length = 0 := by rw [hnl]; omega
      rw [List.length_eq_zero_iff.1 h0] at hu
      simp at hu
    · refine ⟨⟨gr, (k + 1) * 19, none⟩, by simp [hc], Lib.hid fun t u hu => ?_⟩
      rw [Addr.add_mid, cell_of_row _ _ _ _ _ _ hg']
      rw [hnews, List.getElem?_drop, ← htake] at hu
      rw [List.getElem?_take] at hu
      split at hu
      · rw [← Array.getElem?_toList]; exact hu
      · cases hu
  have hz0 : (0 : Int) ≤ (k : Int) + 1 := by omega
  have hz1 : (k : Int) + 1 ≤ (k : Int) + 1 + (m : Int) := by omega
  have s1 : Hid (news.length = m * i0.size) := Lib.hid (by rw [hs0]; exact hnl)
  have s2 : Hid (k * i0.size + news.length ≤ cur.size) := Lib.hid (by rw [hs0, hnl, hcs19]; omega)
  have HG := Lib.hid hg'
  have HR := Lib.hid hreps
  have HI := Lib.hid (And.intro hcs19 (And.intro hlen (And.intro htake hnews)))
  have HS := Lib.hid hs0
  have HLL := Lib.hid hl
  clear hg hg' hnews hone hreps hlen htake hcs hcs19 hs0 hown hl
  obtain ⟨W1, hW1⟩ : ∃ W1, W1 = w.drew.setRow gr (cur.toList.take (k * i0.size) ++ news ++ cur.toList.drop (k * i0.size + news.length)).toArray := ⟨_, rfl⟩
  have HW := Lib.hid hW1
  obtain ⟨cur1, hcur1⟩ : ∃ cur1, cur1 = (cur.toList.take (k * i0.size) ++ news ++ cur.toList.drop (k * i0.size + news.length)).toArray := ⟨_, rfl⟩
  have hb1 : W1.heap[gr]? = some (.cells cur1 66 (0, 0)) := by rw [hW1, hcur1]; exact setRow_heap _ _ _ _ _ _ HG.out
  have HB1 := Lib.hid hb1
  have HC1 := Lib.hid hcur1
  have hsz1 : cur1.size = cap * 19 := by
    rw [hcur1, HS.out, hnl]
    simp only [List.size_toArray, List.length_append, List.length_take, List.length_drop, Array.length_toList, HI.out.1, hnl]
    omega
  have HZ1 := Lib.hid hsz1
  have hck : ¬ cap = k + m := by omega
  have hc2 : (k : Int) + (m : Int) ≤ (k : Int) + 1 + (m : Int) := by omega
  clear hW1 hb1 hcur1 hsz1
  go_wp2_with fail
  go_region_law (refine step_append_roomRow rfl (.tmp 22) (.tmp 25) 59 rfl 66 i0 Try.underlying59 hi0 gr k cap (by simp [Act.eval, Act.put]) cur HG.out A m (cap - (k + 1)) news (by simp [Act.eval, Act.put]) s1.out hsrc.out h1n.out (by omega) s2.out ?_; rw [← HW.out])
  go_wp2_with (refine gate_builtin (b := .clear) rfl ?_; go_must (refine wpList_clear rfl (.tmp 31) 59 66 rfl (.agg (bV zB)) Try.underlying59 (zero_B _) (bL_one zB) gr ((k + m) * 19) (cap - (k + m)) cur1 ?hx HB1.out ?hf ?_))
  case hx =>
    show Value.slice (some ⟨gr, (k + m) * 19, none⟩) (k + 1 + m - (k + m)) (cap - (k + m)) = _
    rw [show k + 1 + m - (k + m) = 1 by omega]
  case hf =>
    show (k + m) * 19 + (bV zB).size ≤ cur1.size
    rw [bV_size, HZ1.out]
    omega
  go_ret
  obtain ⟨hcs, hil, hit, hnw⟩ := HI.out
  have hW := HW.out
  have hc1 := HC1.out
  rw [HS.out] at hc1
  have hcl : cur.toList.length = cap * 19 := by rw [Array.length_toList]; exact hcs
  have hk1 : cur.toList.take (k * 19) = inner.take (k * 19) := by
    rw [← hit, List.take_take]
    congr 1
    show k * 19 = min (k * 19) ((k + 1 + m) * 19)
    omega
  have hin1 : (inner.take (k * 19)).length = k * 19 := by rw [List.length_take, hil]; omega
  refine ⟨rfl, ⟨fun _ _ => trivial, inner.take (k * 19) ++ inner.drop ((k + 1) * 19), ⟨?_, .inr ⟨gr, cap, _, by rw [List.length_eraseIdx, if_pos (by rw [HLL.out]; omega), HLL.out, show k + 1 + m - 1 = k + m by omega], Nat.zero_le _, setRow_heap _ _ _ _ _ _ HB1.out, by rw [List.length_eraseIdx, if_pos (by rw [HLL.out]; omega), HLL.out]; omega, hcm, ?_, ?_⟩⟩, ?_⟩, ?_⟩
  · rw [List.length_append, hin1, ← hnw, hnl, List.length_eraseIdx, if_pos (by rw [HLL.out]; omega), HLL.out]
    show k * 19 + m * 19 = (k + 1 + m - 1) * 19
    omega
  · show (List.toArray _).size = cap * 19
    simp only [List.size_toArray, List.length_append, List.length_take, List.length_drop, Array.length_toList, HZ1.out, bV_size]
    omega
  · show List.take ((l.eraseIdx k).length * 19) (List.toArray _).toList = _
    rw [List.length_eraseIdx, if_pos (by rw [HLL.out]; omega), HLL.out, show k + 1 + m - 1 = k + m by omega]
    have e1 : cur1.toList.take ((k + m) * 19) = inner.take (k * 19) ++ news := by
      rw [hc1, hk1]
      show List.take _ (_ ++ _ ++ _) = _
      rw [List.take_left' (by rw [List.length_append, hin1, hnl]; omega)]
    show List.take ((k + m) * 19) (List.take ((k + m) * 19) cur1.toList ++ _) = _
    rw [List.take_append_of_le_length (by rw [List.length_take, Array.length_toList, HZ1.out]; omega), List.take_take, Nat.min_self, e1, hnw]
  · exact (Reps.erase HR.out (by rw [HLL.out]; omega)).imp_ fun x c hm => hm
  · rw [hW]
    exact grownBy_setRow (grownBy_setRow (show w.grownBy w.drew (some gr) from ⟨rfl, rfl, rfl, Nat.le_refl _, fun _ _ _ => rfl⟩) rfl _) rfl _
end Go.Proofs.Ytgcafklieblldaa.SL
