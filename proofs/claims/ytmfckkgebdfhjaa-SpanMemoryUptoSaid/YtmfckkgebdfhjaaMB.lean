/- The calls of the statement SpanMemory: what each tells is a list of its own; and the lists that it keeps. No condition but the lists' lengths. -/
import Derived.Test.YtmfckkgebdfhjaaMA
import Derived.Test.YtmfckkgebdfhjaaQV
import Derived.Test.YtmfckkgebdfhjaaQP
namespace Go.Proofs.Ytmfckkgebdfhjaa.MA
open Go.RowKit Go.Proofs.YtmfckkgebdfhjaaW.PrintWords Go.Proofs.YtmfckkgebdfhjaaW.PrintLast Go.Proofs.YtmfckkgebdfhjaaW.PrintMore Go.Proofs.Ytmfckkgebdfhjaa.SL
section
variable {w0 w : World} {Γ : List Ob} {A B : Option Addr} {c d : Nat} {l m : List Sp}
theorem m_fresh {f : FuncId} {args : Array Value} {g : Value → Value} {r : List Sp} (h : St w0 w Γ)
    (hc : Calls Try.prog f args w fun e w' => ∃ v, e = .returned (g v) ∧ Kd.R kS 24 w' w.heap.size (fun _ => True) v r ∧ Below w.heap.size w w') :
    Calls Try.prog f args w fun e w' => ∃ A c, e = .returned (g (.slice A r.length c)) ∧ St w0 w' (Γ ++ [obS (.slice A r.length c) r]) := by
  refine hc.mono ?_
  rintro e w' ⟨v, rfl, hR, hb⟩
  obtain ⟨A, c, rfl⟩ := Kd.R_slice hR
  exact ⟨A, c, rfl, h.addW flatS hb hR⟩
theorem m_alive (h : St w0 w Γ) : Calls Try.prog 8 #[] w fun e w' => e = .returned (.bool true) ∧ St w0 w' Γ :=
  (Q.mosaiclaw09_alive.calls 400000000 true w (Q.alive_eval _ (by omega))).mono fun _ _ ⟨he, hb⟩ => ⟨he, h.below hb⟩
theorem m_own (h : St w0 w Γ) (hC : kS.C w A l.length l) (hc : l.length ≤ c) (hl : l.length ≤ 4000000) :
    Calls Try.prog 10 #[.slice A l.length c] w fun e w' => ∃ B d, e = .returned (.slice B l.length d) ∧ St w0 w' (Γ ++ [obS (.slice B l.length d) l]) :=
  m_fresh (g := fun x => x) h (Q.mosaiclaw09_own.calls 400000000 A c l l w hC hc (Q.own_eval l (by omega) 400000000 (by omega)))
theorem m_norm (h : St w0 w Γ) (hC : kS.C w A l.length l) (hc : l.length ≤ c) (hl : l.length ≤ 4000000) {r : List Sp} {x : Int} (hn : Q.normS l = (r, x)) :
    Calls Try.prog 9 #[.slice A l.length c] w fun e w' => ∃ B d, e = .returned (.tuple #[.slice B r.length d, .int .i64 x]) ∧ St w0 w' (Γ ++ [obS (.slice B r.length d) r]) :=
  m_fresh (g := fun v => .tuple #[v, .int .i64 x]) h (Q.span_Norm.calls 400000000 A c l r x w hC hc (by rw [← hn]; exact Q.norm_eval l (by omega) 400000000 (by omega)))
theorem m_add (h : St w0 w Γ) (hC : kS.C w A l.length l) (hc : l.length ≤ c) (hl : l.length ≤ 4000000) {a b : Int} {r : List Sp} {x : Int} (hn : Q.addA l ⟨a, b⟩ = (r, x)) :
    Calls Try.prog 17 #[.slice A l.length c, .agg #[.int .i64 a, .int .i64 b]] w fun e w' => ∃ B d, e = .returned (.tuple #[.slice B r.length d, .int .i64 x]) ∧ St w0 w' (Γ ++ [obS (.slice B r.length d) r]) :=
  m_fresh (g := fun v => .tuple #[v, .int .i64 x]) h (Q.span_Add.calls 400000000 A c l a b r x w hC hc (by rw [← hn]; exact Q.add_evalA l (by omega) a b 400000000))
theorem m_cut (h : St w0 w Γ) (hC : kS.C w A l.length l) (hc : l.length ≤ c) (hl : l.length ≤ 4000000) {a b : Int} {r : List Sp} {x : Int} (hn : Q.cutA l ⟨a, b⟩ = (r, x)) :
    Calls Try.prog 19 #[.slice A l.length c, .agg #[.int .i64 a, .int .i64 b]] w fun e w' => ∃ B d, e = .returned (.tuple #[.slice B r.length d, .int .i64 x]) ∧ St w0 w' (Γ ++ [obS (.slice B r.length d) r]) :=
  m_fresh (g := fun v => .tuple #[v, .int .i64 x]) h (Q.span_Cut.calls 400000000 A c l a b r x w hC hc (by rw [← hn]; exact Q.cut_evalA l (by omega) a b 400000000 (by omega)))
theorem m_holes (h : St w0 w Γ) (hC : kS.C w A l.length l) (hc : l.length ≤ c) (hl : l.length ≤ 4000000) {en : Int} {r : List Sp} {x : Int} (hn : Q.holesB l en = (r, x)) :
    Calls Try.prog 21 #[.slice A l.length c, .int .i64 en] w fun e w' => ∃ B d, e = .returned (.tuple #[.slice B r.length d, .int .i64 x]) ∧ St w0 w' (Γ ++ [obS (.slice B r.length d) r]) :=
  m_fresh (g := fun v => .tuple #[v, .int .i64 x]) h (Q.span_Holes.calls 400000000 A c l en r x w hC hc (by rw [← hn]; exact Q.holes_evalA l (by omega) en 400000000 (by omega)))
theorem m_right (h : St w0 w Γ) (hC : kS.C w A l.length l) (hc : l.length ≤ c) (hl : l.length ≤ 4000000) : Calls Try.prog 13 #[.slice A l.length c] w fun e w' => e = .returned (.bool (Q.rightB l)) ∧ St w0 w' Γ :=
  (Q.span_Right.calls 400000000 A c l _ w hC hc (Q.right_eval l (by omega) 400000000 (by omega))).mono fun _ _ ⟨he, hb⟩ => ⟨he, h.below hb⟩
theorem m_size (h : St w0 w Γ) (hC : kS.C w A l.length l) (hc : l.length ≤ c) (hl : l.length ≤ 4000000) : Calls Try.prog 15 #[.slice A l.length c] w fun e w' => e = .returned (.int .i64 (Q.sizeA l)) ∧ St w0 w' Γ :=
  (Q.span_Size.calls 400000000 A c l _ w hC hc (Q.size_evalA l (by omega) 400000000 (by omega))).mono fun _ _ ⟨he, hb⟩ => ⟨he, h.below hb⟩
theorem m_has (h : St w0 w Γ) (hC : kS.C w A l.length l) (hc : l.length ≤ c) (a b : Int) : Calls Try.prog 23 #[.slice A l.length c, .agg #[.int .i64 a, .int .i64 b]] w fun e w' => e = .returned (.bool (Q.hasA l ⟨a, b⟩)) ∧ St w0 w' Γ :=
  (Q.span_Has.calls A c l a b _ w hC hc rfl).mono fun _ _ ⟨he, hb⟩ => ⟨he, h.below hb⟩
theorem m_meets (h : St w0 w Γ) (hC : kS.C w A l.length l) (hc : l.length ≤ c) (a b : Int) : Calls Try.prog 25 #[.slice A l.length c, .agg #[.int .i64 a, .int .i64 b]] w fun e w' => e = .returned (.bool (Q.meetsA l ⟨a, b⟩)) ∧ St w0 w' Γ :=
  (Q.span_Meets.calls A c l a b _ w hC hc rfl).mono fun _ _ ⟨he, hb⟩ => ⟨he, h.below hb⟩
theorem d_same (hC : kS.C w A l.length l) (hc : l.length ≤ c) (hD : kS.C w B l.length l) (hd : l.length ≤ d) (hl : l.length ≤ 4000000) :
    Calls Try.prog 12 #[.slice A l.length c, .slice B l.length d] w fun e w' => e = .returned (.bool true) ∧ Drawn0 w w' :=
  Q.mosaiclaw09_same.calls 400000000 A c l B d l true w hC hc hD hd (by rw [Q.same_eval l l (by omega) 400000000 (by omega), decide_eq_true rfl])
theorem m_same (h : St w0 w Γ) (hC : kS.C w A l.length l) (hc : l.length ≤ c) (hD : kS.C w B l.length l) (hd : l.length ≤ d) (hl : l.length ≤ 4000000) :
    Calls Try.prog 12 #[.slice A l.length c, .slice B l.length d] w fun e w' => e = .returned (.bool true) ∧ St w0 w' Γ :=
  (d_same hC hc hD hd hl).mono fun _ _ ⟨he, hb⟩ => ⟨he, h.below hb.below⟩
theorem m_normN {n : Nat} (h : St w0 w Γ) (hC : kS.C w A l.length l ∧ l.length ≤ c) (hl : l.length ≤ 4000000) (hnn : l.length = n) {r : List Sp} {x : Int} (hn : Q.normS l = (r, x)) :
    Calls Try.prog 9 #[.slice A n c] w fun e w' => ∃ B d, e = .returned (.tuple #[.slice B r.length d, .int .i64 x]) ∧ St w0 w' (Γ ++ [obS (.slice B r.length d) r]) := by
  subst hnn
  exact m_norm h hC.1 hC.2 hl hn
theorem m_sizeN {n : Nat} (h : St w0 w Γ) (hC : kS.C w A l.length l ∧ l.length ≤ c) (hl : l.length ≤ 4000000) (hnn : l.length = n) {z : Int} (hz : Q.sizeA l = z) : Calls Try.prog 15 #[.slice A n c] w fun e w' => e = .returned (.int .i64 z) ∧ St w0 w' Γ := by
  subst hnn hz
  exact m_size h hC.1 hC.2 hl
theorem m_sameN {n : Nat} (h : St w0 w Γ) (hC : kS.C w A l.length l ∧ l.length ≤ c) (hD : kS.C w B l.length l ∧ l.length ≤ d) (hl : l.length ≤ 4000000) (hnn : l.length = n) :
    Calls Try.prog 12 #[.slice A n c, .slice B n d] w fun e w' => e = .returned (.bool true) ∧ St w0 w' Γ := by
  subst hnn
  exact m_same h hC.1 hC.2 hD.1 hD.2 hl
theorem quiet_w {f : FuncId} {args : Array Value} {n : Nat} {v : Value}
    (h : Calls Try.prog f args (w.drewN n) fun e w' => e = .returned v ∧ Drawn0 (w.drewN n) w') : Calls Try.prog f args (w.drewN n) fun e w'' => e = .returned v ∧ ∃ m, w'' = w.drewN m :=
  h.mono fun _ _ ⟨he, hm⟩ => ⟨he, by obtain ⟨m, rfl⟩ := hm.out; exact ⟨n + m, by rw [World.drewN_drewN]⟩⟩
/-- What of a list stands in front. -/
theorem St.front_ (h : St w0 w Γ) (i : Nat) {ad : Addr} {q c : Nat} {l t : List Sp} (hi : Γ[i]? = some (obS (.slice (some ad) q c) (l ++ t))) : kS.C w (some ad) l.length l ∧ l.length ≤ c := by
  obtain ⟨h1, h2, h3⟩ := Kd.R_reads' (h.get i hi)
  have := Kd.C_take (m := l.length) h3 (by rw [List.length_append]; omega)
  rw [List.take_left] at this
  rw [List.length_append] at h1
  exact ⟨this, by omega⟩
theorem St.read_ (h : St w0 w Γ) (i : Nat) {A : Option Addr} {q c : Nat} {l : List Sp} (hi : Γ[i]? = some (obS (.slice A q c) l)) : kS.C w A l.length l ∧ l.length ≤ c := by
  obtain ⟨h1, h2, h3⟩ := Kd.R_reads' (h.get i hi)
  exact ⟨h3, by omega⟩
theorem litC (w : World) (a b c d : Int) : kS.C (w.alloc (.cells #[.int .i64 a, .int .i64 b, .int .i64 c, .int .i64 d] 24)) (some ⟨w.heap.size, 0, none⟩) 2 [⟨a, b⟩, ⟨c, d⟩] := by
  refine ⟨rfl, by omega, fun _ => ⟨_, rfl, fun j p hj => ?_⟩⟩
  match j, hj with
  | 0, hj =>
    obtain rfl := Option.some.inj hj
    refine ⟨_, rfl, Q.k24_mk _ _, fun i u hu => ?_⟩
    rw [add_plain, cell_of_row _ _ _ _ _ _ (heap_alloc_new w _)]
    match i, hu with
    | 0, hu => exact hu
    | 1, hu => exact hu
  | 1, hj =>
    obtain rfl := Option.some.inj hj
    refine ⟨_, rfl, Q.k24_mk _ _, fun i u hu => ?_⟩
    rw [add_plain, cell_of_row _ _ _ _ _ _ (heap_alloc_new w _)]
    match i, hu with
    | 0, hu => exact hu
    | 1, hu => exact hu
theorem St.lit (h : St w0 w Γ) (a b c d : Int) : St w0 (w.alloc (.cells #[.int .i64 a, .int .i64 b, .int .i64 c, .int .i64 d] 24)) (Γ ++ [obRd kS flatS szS (some ⟨w.heap.size, 0, none⟩) 2 [⟨a, b⟩, ⟨c, d⟩]]) :=
  h.add ((Touch.refl [] w).alloc _).below [obRd kS flatS szS (some ⟨w.heap.size, 0, none⟩) 2 [⟨a, b⟩, ⟨c, d⟩]] (fun o ho => by obtain rfl := List.mem_singleton.1 ho; exact ⟨litC w a b c d, Nat.le_refl _⟩)
    (fun o ho b' hb => by
      obtain rfl := List.mem_singleton.1 ho
      have hb' : b' ∈ blkOf (some ⟨w.heap.size, 0, none⟩) [(⟨a, b⟩ : Sp), ⟨c, d⟩] := hb
      simp [blkOf] at hb'
      omega) (List.pairwise_singleton _ _)
theorem St.cellB (h : St w0 w Γ) (i : Nat) {b' : Nat} {cs : Array Value} {T : TypeId} (hi : Γ[i]? = some (obB b' cs T)) (j : Nat) {v : Value} (hv : cs[j]? = some v) : w.cell? ⟨b', j, none⟩ = some v := by
  rw [cell_of_row _ _ _ _ _ _ (h.get i hi)]
  exact hv
end
theorem litSl (w : World) (e : TypeId) (ss : List Hdr) (hl : ss.length ≤ 100) : kSl.C (w.alloc (.cells (ss.map hv).toArray e)) (some ⟨w.heap.size, 0, none⟩) ss.length ss := by
  refine ⟨rfl, by omega, fun _ => ⟨_, rfl, fun j p hj => ⟨[hv p], rfl, rfl, fun i u hu => ?_⟩⟩⟩
  match i, hu with
  | 0, hu =>
    obtain rfl := Option.some.inj hu
    rw [add_plain, cell_of_row _ _ _ _ _ _ (heap_alloc_new w _)]
    simp [kSl, Kd.scalar, hj]
theorem fam_ext (hs ss : List Hdr) (c : Nat → List Sp) (n : Nat) (h : hs.length = n) : fam (n + ss.length) (famL kS 24 flatS (hs ++ ss) c) = fam n (famL kS 24 flatS hs c) ++ fam ss.length (fun i => obS (hv (hd ss i)) (c (n + i))) := by
  subst h
  apply List.ext_getElem?
  intro j
  rcases Nat.lt_or_ge j (hs.length + ss.length) with hj | hj
  · rw [fam_get _ hj]
    rcases Nat.lt_or_ge j hs.length with h1 | h1
    · rw [List.getElem?_append_left (by rw [fam_len]; exact h1), fam_get _ h1]
      show some (obW _ _ _ _ _) = some (obW _ _ _ _ _)
      rw [show hd (hs ++ ss) j = hd hs j by unfold hd; simp [List.getD_eq_getElem?_getD, List.getElem?_append_left h1]]
    · rw [List.getElem?_append_right (by rw [fam_len]; exact h1), fam_len, fam_get _ (by omega)]
      show some (obW _ _ _ _ _) = some (obW _ _ _ _ _)
      rw [show hd (hs ++ ss) j = hd ss (j - hs.length) by unfold hd; simp [List.getD_eq_getElem?_getD, List.getElem?_append_right h1], show hs.length + (j - hs.length) = j by omega]
  · rw [List.getElem?_eq_none (by rw [fam_len]; exact hj), List.getElem?_eq_none (by rw [List.length_append, fam_len, fam_len]; exact hj)]
/-- The list that is put in the place of the one that was handed in. -/
def insS (n : Nat) : List Sp := (List.range n).map fun (k : Nat) => (⟨3 * (k : Int), 3 * (k : Int) + 2⟩ : Sp)
theorem insS_len (n : Nat) : (insS n).length = n := by simp [insS]
theorem insS_get (n k : Nat) (h : k < n) : (insS n)[k]? = some ⟨3 * (k : Int), 3 * (k : Int) + 2⟩ := by simp [insS, h]
theorem ins_right (N : Int) (hN : N ≤ 65535) (d : Nat) : ∀ (k : Nat) (a : Int), a < 3 * (k : Int) → 3 * (k : Int) + 3 * (d : Int) ≤ N → Q.rightFrom a ((List.range' k d).map fun (k : Nat) => (⟨3 * (k : Int), 3 * (k : Int) + 2⟩ : Sp)) = true := by
  induction d with
  | zero => intro k a _ _; rfl
  | succ d ih =>
    intro k a h hb
    rw [List.range'_succ, List.map_cons, Q.rightFrom_cons]
    refine ⟨h, (Q.goodB_iff _).2 ?_, ih (k + 1) _ ?_ ?_⟩
    · refine ⟨?_, ?_, ?_⟩ <;> dsimp only <;> omega
    · dsimp only
      omega
    · omega
theorem insS_right (n : Nat) (h : n ≤ 20000) : Q.rightB (insS n) = true := by
  have := ins_right 65535 (Int.le_refl _) n 0 (-1) (by omega) (by omega)
  unfold Q.rightB insS
  rw [List.range_eq_range']
  exact this
theorem ins_size : ∀ (d k : Nat), Q.sizeS ((List.range' k d).map fun (k : Nat) => (⟨3 * (k : Int), 3 * (k : Int) + 2⟩ : Sp)) = 2 * (d : Int)
  | 0, k => rfl
  | d + 1, k => by
    rw [List.range'_succ, List.map_cons]
    show (3 * (k : Int) + 2 - 3 * (k : Int)) + Q.sizeS _ = _
    rw [ins_size d (k + 1)]
    omega
theorem insS_size (n : Nat) (h : n ≤ 20000) : Q.sizeA (insS n) = 2 * (n : Int) := by
  unfold Q.sizeA
  rw [insS_right n h, if_pos rfl]
  unfold insS
  rw [List.range_eq_range']
  exact ins_size n 0
theorem insS_norm (n : Nat) (h : n ≤ 20000) : Q.normS (insS n) = (insS n, 0) := by
  have hr := insS_right n h
  have hg := Q.right_good hr
  unfold Q.normS
  rw [if_pos (List.all_eq_true.2 hg), Q.joinS_eq _ _ hg hr (fun _ => Iff.rfl)]
/-- What the twelve calls tell. -/
def cM (r1 r2 r3 r4 r5 r6 : List Sp) (j : Nat) : List Sp := [r1, r2, r3, r4, r5, r6].getD (j % 6) []
theorem cM_six (r1 r2 r3 r4 r5 r6 : List Sp) (k i : Nat) : cM r1 r2 r3 r4 r5 r6 (6 * k + i) = cM r1 r2 r3 r4 r5 r6 i := by
  unfold cM
  rw [show (6 * k + i) % 6 = i % 6 by omega]
theorem cM_len {r1 r2 r3 r4 r5 r6 : List Sp} {N : Nat} (h1 : r1.length ≤ N) (h2 : r2.length ≤ N) (h3 : r3.length ≤ N) (h4 : r4.length ≤ N) (h5 : r5.length ≤ N) (h6 : r6.length ≤ N) (j : Nat) : (cM r1 r2 r3 r4 r5 r6 j).length ≤ N := by
  unfold cM
  have : j % 6 < 6 := Nat.mod_lt _ (by omega)
  match j % 6, this with
  | 0, _ => exact h1
  | 1, _ => exact h2
  | 2, _ => exact h3
  | 3, _ => exact h4
  | 4, _ => exact h5
  | 5, _ => exact h6
theorem fam_six (hs : List Hdr) (s1 s2 s3 s4 s5 s6 : Hdr) (r1 r2 r3 r4 r5 r6 : List Sp) (k : Nat) (h : hs.length = 6 * k) : fam (6 * k + 6) (famL kS 24 flatS (hs ++ [s1, s2, s3, s4, s5, s6]) (cM r1 r2 r3 r4 r5 r6)) =
    fam (6 * k) (famL kS 24 flatS hs (cM r1 r2 r3 r4 r5 r6)) ++ [obS (hv s1) r1, obS (hv s2) r2, obS (hv s3) r3, obS (hv s4) r4, obS (hv s5) r5, obS (hv s6) r6] := by
  have := fam_ext hs [s1, s2, s3, s4, s5, s6] (cM r1 r2 r3 r4 r5 r6) (6 * k) h
  rw [show [s1, s2, s3, s4, s5, s6].length = 6 from rfl] at this
  rw [this]
  congr 1
  rw [fam_congr (g := fun i => obS (hv (hd [s1, s2, s3, s4, s5, s6] i)) (cM r1 r2 r3 r4 r5 r6 i)) (fun j _ => by show obW _ _ _ _ _ = obW _ _ _ _ _; rw [cM_six])]
  rfl
theorem fam_one (ws : List Hdr) (s : Hdr) (c : Nat → List Sp) : fam (ws ++ [s]).length (famL kS 24 flatS (ws ++ [s]) c) = fam ws.length (famL kS 24 flatS ws c) ++ [obS (hv s) (c ws.length)] := by
  have := fam_ext ws [s] c ws.length rfl
  rw [show [s].length = 1 from rfl] at this
  rw [List.length_append, show [s].length = 1 from rfl, this]
  rfl
theorem fam_at2 (F : List Ob) {n i m : Nat} (f g : Nat → Ob) (D : List Ob) (h : i < m) : (F ++ (fam n f ++ (fam m g ++ D)))[F.length + n + i]? = some (g i) := by
  have := fam_at (F ++ fam n f) g D h
  rwa [List.append_assoc, List.length_append, fam_len] at this
theorem permA (a b c d e f : Ob) (X Y Z : List Ob) : ([e] ++ ((X ++ Z) ++ (a :: b :: c :: d :: f :: Y))).Perm (a :: b :: c :: d :: e :: f :: (X ++ (Y ++ Z))) := by
  have h1 : ((X ++ Z) ++ (a :: b :: c :: d :: f :: Y)).Perm (a :: b :: c :: d :: f :: (X ++ (Y ++ Z))) :=
    List.perm_append_comm.trans (List.Perm.append_left [a, b, c, d, f] (List.perm_append_comm_assoc Y X Z))
  exact (List.Perm.cons e h1).trans (List.perm_middle (l₁ := [a, b, c, d]) (a := e) (l₂ := f :: (X ++ (Y ++ Z)))).symm
def ct13 (c : Nat → List Sp) (X : List Sp) (j : Nat) : List Sp := if j < 12 then c j else X
theorem fam13 (hs : List Hdr) (s : Hdr) (c : Nat → List Sp) (X : List Sp) (h : hs.length = 12) : fam 13 (famL kS 24 flatS (hs ++ [s]) (ct13 c X)) = fam 12 (famL kS 24 flatS hs c) ++ [obS (hv s) X] := by
  have := fam_ext hs [s] (ct13 c X) 12 h
  rw [show 12 + [s].length = 13 from rfl] at this
  rw [this, fam_congr (g := famL kS 24 flatS hs c) (fun j hj => by show obW _ _ _ _ _ = obW _ _ _ _ _; unfold ct13; rw [if_pos hj])]
  rfl
theorem ins_set (n : Nat) (m t : List Sp) (h : m.length = n) (k : Nat) (hk : k < n) : (mixL (insS n) m k ++ t).set k ⟨3 * (k : Int), 3 * (k : Int) + 2⟩ = mixL (insS n) m (k + 1) ++ t := by
  subst h
  have hl := mixL_len (insS_len m.length) k
  rw [List.set_append_left _ _ (by omega), mixL_step (insS_len m.length) hk (insS_get m.length k hk)]
end Go.Proofs.Ytmfckkgebdfhjaa.MA
