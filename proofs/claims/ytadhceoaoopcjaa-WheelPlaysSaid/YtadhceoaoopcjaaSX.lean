/- append to a row of one's own, told apart: in its place, or in a new block with the old one left as it was. No condition but the sizes. -/
import Derived.Test.YtadhceoaoopcjaaSK
namespace Go.Proofs.Ytadhceoaoopcjaa.SL
open Go.RowKit Go.Proofs.YtadhceoaoopcjaaW.PrintWords Go.Proofs.YtadhceoaoopcjaaW.PrintLast Go.Proofs.YtadhceoaoopcjaaW.PrintMore

theorem run_append_two {P : Program} (w : World) (base : Nat) (t ty e : TypeId) (i : TypeInfo) (z : Value) (size bytes : Nat) (ht : P.underlying t = some (.slice e)) (hi : P.info? e = some i) (hz : i.zero = some z)
    (hsize : i.size = size) (hby : i.bytes = bytes) (hzs : z.cells.size = size) (hsz : 0 < size)
    (v : Value) (n : Nat) (xs : List Value) (hown : w.ownsRow base e size v n xs)
    (a : Addr) (m c : Nat) (news : List Value) (hl : news.length = m * size) (hnews : ∀ j u, news[j]? = some u → w.cell? (a.add j) = some u) (h1 : ∀ u ∈ news, u.oneCell' = true)
    (hm : 0 < m) (h63 : n + m ≤ maxLen) (hbytes : (n + m) * bytes ≤ 140737488355328) (hbase : base ≤ w.heap.size) :
    ∃ v' w', (Builtin.append_ #[t, t] ty #[v, .slice (some a) m c]).run P w = .ok v' w' ∧ w'.ownsRow base e size v' (n + m) (xs ++ news) ∧
      ((∃ g cap, v = .slice (some ⟨g, 0, none⟩) n cap ∧ v' = .slice (some ⟨g, 0, none⟩) (n + m) cap ∧ w.grownBy w' (some g)) ∨
        (∃ cap, v' = .slice (some ⟨w.heap.size, 0, none⟩) (n + m) cap ∧ Below w.heap.size w w')) := by
  subst hsize
  subst hby
  have hsmall : n + m ≤ 9223372036854775807 := by simp only [maxLen] at h63; omega
  have hlen : (xs ++ news).length = (n + m) * i.size := by rw [List.length_append, hown.1, hl, Nat.add_mul]
  have grown : ∀ (old : Nat), old < n + m →
      (w.drew.alloc (.cells (xs.toArray ++ news.toArray ++ Builtin.zeroCells z.cells (grownCap w (n + m) old e - (n + m))) e)).ownsRow base e i.size
        (.slice (some ⟨w.heap.size, 0, none⟩) (n + m) (grownCap w (n + m) old e)) (n + m) (xs ++ news) ∧
      Below w.heap.size w (w.drew.alloc (.cells (xs.toArray ++ news.toArray ++ Builtin.zeroCells z.cells (grownCap w (n + m) old e - (n + m))) e)) := by
    intro old ho
    have hge := grownCap_ge w (n + m) old e
    have hcm : grownCap w (n + m) old e ≤ maxLen := grownCap_le_maxLen w (n + m) old e h63
    refine ⟨⟨hlen, .inr ⟨w.heap.size, _, _, rfl, hbase, heap_alloc_new w.drew _, hge, hcm, ?_, ?_⟩⟩, ⟨rfl, rfl, rfl, by simp, fun k hk => heap_alloc_old w.drew _ hk⟩⟩
    · simp only [Array.size_append, List.size_toArray, size_zeroCells, hzs, hown.1, hl, ← Nat.add_mul]
      congr 1
      omega
    · simp only [Array.toList_append, List.append_assoc]
      rw [← List.append_assoc, ← hlen]
      exact List.take_left
  rcases hown.2 with ⟨rfl, rfl⟩ | ⟨g, cap, cur, rfl, hbg, hg, hnc, hcm, hcs, htake⟩
  · have hx : xs = [] := List.eq_nil_of_length_eq_zero (by simpa using hown.1)
    subst hx
    have hr := run_append_nil (P := P) w t ty e i z ht hi hz a m c news hl hnews (by omega) (by omega) (by have hb := hbytes; simp only [Nat.zero_add] at hb; omega)
    have hgr := grown 0 (by omega)
    simp only [Nat.zero_add, List.nil_append, Array.empty_append] at hgr ⊢
    exact ⟨_, _, hr, hgr.1, .inr ⟨_, rfl, hgr.2⟩⟩
  · by_cases hroom : n + m ≤ cap
    · have hfit : n * i.size + news.length ≤ cur.size := by rw [hl, hcs, ← Nat.add_mul]; exact Nat.mul_le_mul_right _ hroom
      have hr := run_append_room (P := P) w t ty e i ht hi g n cap cur hg a m c news hl hnews h1 hroom hfit
      refine ⟨_, _, hr, ⟨hlen, .inr ⟨g, cap, _, rfl, hbg, setRow_heap w g cur _ e _ hg, hroom, hcm, ?_, ?_⟩⟩, .inl ⟨g, cap, rfl, rfl, ⟨rfl, rfl, rfl, by simp, fun k _ hk => setRow_other w g k _ (fun e => hk (by rw [e]))⟩⟩⟩
      · simp only [List.size_toArray, List.length_append, List.length_take, List.length_drop, Array.length_toList]
        omega
      · rw [htake, ← hlen]
        exact List.take_left
    · have holds : ∀ j u, xs[j]? = some u → w.cell? ((⟨g, 0, none⟩ : Addr).add j) = some u := hown.cells (g := g) rfl
      have hr := run_append_grow (P := P) w t ty e i z ht hi hz ⟨g, 0, none⟩ n cap xs hown.1 holds a m c news hl hnews (by omega) (by omega) (growslice_fits (by omega) hbytes)
      have hgr := grown cap (by omega)
      exact ⟨_, _, hr, hgr.1, .inr ⟨_, rfl, hgr.2⟩⟩
section
variable {P : Program} {ops : Array Oper} {rest : List Oper} {o : Oper} {a : Act} {Q : Exit → Act → World → Prop} {α : Type}
/-- One element appended to a row of one's own, told apart. (The element lies in a block of its own, just made.) -/
theorem wpList_append_two (d : Kd α) (hf : Flat d) {W : World} (hgd : o.guard = none) (s x : Operand) (t e : TypeId) (z : Value) (bytes : Nat)
    (ho : o.op = .call { callee := .builtin .append, args := #[s, x], argTypes := #[t, t] })
    (ht : P.underlying t = some (.slice e)) (hinfo : (P.info? e).map (fun i => (i.zero, i.size, i.bytes)) = some (some z, d.sz, bytes)) (hz : z.cells.size = d.sz) (hs0 : 0 < d.sz) (hb0 : 0 < bytes)
    (v : Value) (xs : List α) (p : α) (cs : List Value) (hs : a.eval s = v) (hx : a.eval x = .slice (some ⟨W.heap.size, 0, none⟩) 1 1) (hp : d.K W p cs)
    (HO : d.R e W 0 (fun _ => True) v xs) (hl : (xs.length + 1) * bytes ≤ 140737488355328)
    (h : ∀ v1 w1, d.R e w1 0 (fun _ => True) v1 (xs ++ [p]) → ((∃ g cap, v = .slice (some ⟨g, 0, none⟩) xs.length cap ∧ v1 = .slice (some ⟨g, 0, none⟩) (xs.length + 1) cap ∧ W.grownBy w1 (some g)) ∨
        (∃ g cap, W.heap.size ≤ g ∧ v1 = .slice (some ⟨g, 0, none⟩) (xs.length + 1) cap ∧ Below W.heap.size W w1)) → wpList P ops Q rest (a.put o.dst v1) w1) :
    wpList P ops Q (o :: rest) a (W.alloc (.cells cs.toArray e)) := by
  obtain ⟨i0, hi, hzz⟩ := Option.map_eq_some_iff.1 hinfo
  simp only [Prod.mk.injEq] at hzz
  obtain ⟨hz0, hz1, hz2⟩ := hzz
  have hlen : xs.length + 1 ≤ 140737488355328 := Nat.le_trans (Nat.le_mul_of_pos_right _ hb0) hl
  obtain ⟨h0, inner, hown, hr⟩ := HO
  have hcl := d.K_len hp
  have hown' := hown.alloc (.cells cs.toArray e)
  obtain ⟨v1, w1, hrun, hown1, hcase⟩ := run_append_two (P := P) (W.alloc (.cells cs.toArray e)) 0 t o.type e i0 z d.sz bytes ht hi hz0 hz1 hz2 hz hs0 v xs.length inner hown' ⟨W.heap.size, 0, none⟩ 1 1 cs (by rw [hcl, Nat.one_mul]) (fun j u hu => by
    rw [add_plain, cell_of_row _ _ _ _ _ _ (heap_alloc_new W _)]
    simpa using hu) (d.K_one hp) (by omega) (by simp only [maxLen]; omega) hl (Nat.zero_le _)
  have hB : Below W.heap.size W (W.alloc (.cells cs.toArray e)) := Below.alloc (Below.refl _ _) (Nat.le_refl _) _
  have hK : ∀ x c, d.M W 0 (fun k => (fun _ => True) k ∧ some k ≠ v.ownBlock) x c → d.M w1 0 (fun k => (fun _ => True) k ∧ some k ≠ v1.ownBlock) x c := fun x c hm => hf W w1 0 _ x c (d.K_of_M hm)
  have hR : d.R e w1 0 (fun _ => True) v1 (xs ++ [p]) := by
    refine ⟨fun _ _ => trivial, inner ++ cs, ?_, ?_⟩
    · rw [List.length_append, List.length_singleton]; exact hown1
    · exact (hr.imp_ hK).snoc (hf W w1 0 _ p cs hp) hcl
  refine wpList_plain hgd fun K hKK => ?_
  have hgo := h v1 w1 hR (by
    rcases hcase with ⟨g, cap, e1, e2, hg⟩ | ⟨cap, e2, hb⟩
    · refine .inl ⟨g, cap, e1, e2, ⟨hg.os, hg.tape, hg.output, Nat.le_trans (by simp) hg.size, fun k hk hne => ?_⟩⟩
      exact (hg.block k (by simp; omega) hne).trans (heap_alloc_old W _ hk)
    · exact .inr ⟨_, cap, by simp, e2, hB.trans (hb.mono (by simp))⟩)
  unfold Oper.wp execOp
  simp only [ho, resolve, invoke, builtin, Sem.run_bind, Sem.run_pure, Result.andThen_ok, List.map_toArray, List.map_cons, List.map_nil, hs, hx, hrun]
  exact hKK _ _ hgo
end
theorem Apart.pair {Γ : List Ob} : (∀ (i j : Nat) (a b : Ob), i ≠ j → Γ[i]? = some a → Γ[j]? = some b → Apart a b) ↔ Γ.Pairwise Apart := by
  rw [List.pairwise_iff_getElem]
  constructor
  · intro h i j hi hj hij
    exact h i j _ _ (by omega) (List.getElem?_eq_getElem hi) (List.getElem?_eq_getElem hj)
  · intro h i j a b hij ha hb
    obtain ⟨hi, rfl⟩ := List.getElem?_eq_some_iff.1 ha
    obtain ⟨hj, rfl⟩ := List.getElem?_eq_some_iff.1 hb
    rcases Nat.lt_or_gt_of_ne hij with hlt | hlt
    · exact h i j hi hj hlt
    · exact (h j i hj hi hlt).symm
/-- The same objects in another order. -/
theorem St.perm {w0 w : World} {Γ Δ : List Ob} (h : St w0 w Γ) (hp : Δ.Perm Γ) : St w0 w Δ := by
  refine ⟨h.bl, fun i o hi => ?_, fun i o hi => ?_, Apart.pair.2 (List.Pairwise.perm (Apart.pair.1 h.sep) hp.symm (fun h => h.symm))⟩
  · obtain ⟨j, hj, he⟩ := List.getElem_of_mem (hp.mem_iff.1 (List.mem_of_getElem? hi))
    exact h.ok j o (by rw [List.getElem?_eq_getElem hj, he])
  · obtain ⟨j, hj, he⟩ := List.getElem_of_mem (hp.mem_iff.1 (List.mem_of_getElem? hi))
    exact h.base j o (by rw [List.getElem?_eq_getElem hj, he])
end Go.Proofs.Ytadhceoaoopcjaa.SL
