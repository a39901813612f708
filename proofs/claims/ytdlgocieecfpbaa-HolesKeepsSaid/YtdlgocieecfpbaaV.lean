/- The calls of the statements about holes, by the objects that the statement's body has: what each call tells, and which object it changes. No condition but the lists' lengths. -/
import Derived.Test.YtdlgocieecfpbaaB
namespace Go.Proofs.Ytdlgocieecfpbaa.Q
open Go.RowKit Go.Proofs.YtdlgocieecfpbaaW.PrintWords Go.Proofs.YtdlgocieecfpbaaW.PrintLast Go.Proofs.YtdlgocieecfpbaaW.PrintMore Go.Proofs.Ytdlgocieecfpbaa.SL

/-- The document's list behind a pointer. -/
def obR (q t : Nat) (bits : List Bool) (ends top : Int) : Ob where
  own := [q, t]
  all := [q, t]
  holds w := RefAt w q t bits ends top
  sub := fun _ h => h
  lt := fun w h b hb => by
    rcases List.mem_cons.1 hb with rfl | hb
    · exact lt_of_block h.st
    · obtain rfl := List.mem_singleton.1 hb; exact lt_of_block h.row
  stab := fun w w' h hs => ⟨(hs q List.mem_cons_self).trans h.st, (hs t (List.mem_cons_of_mem _ List.mem_cons_self)).trans h.row, h.len, h.ne⟩
theorem R_obL {w : World} {base : Nat} {v : Value} {l : List Sp} (h : Kd.R k50 50 w base (fun _ => True) v l) : ∃ A c, v = .slice A l.length c ∧ (obL A c l).holds w ∧ ∀ b ∈ (obL A c l).all, base ≤ b := by
  obtain ⟨A, c, rfl, hl, hC⟩ := Kd.R_reads h
  refine ⟨A, c, rfl, ⟨hC, hl⟩, fun b hb => ?_⟩
  have hb' : b ∈ blk A l := hb
  unfold blk at hb'
  split at hb'
  · cases hb'
  · cases A with
    | none => cases hb'
    | some ad =>
      obtain rfl : b = ad.block := by simpa using hb'
      exact Kd.R_base h ad.block (by simp [Value.ownBlock])
section
variable {w0 w : World} {Γ : List Ob}
theorem c_fresh {f : FuncId} {args : Array Value} {g : Value → Value} {r : List Sp} (h : St w0 w Γ)
    (hc : Calls Try.prog f args w fun e w' => ∃ v, e = .returned (g v) ∧ Kd.R k50 50 w' w.heap.size (fun _ => True) v r ∧ Below w.heap.size w w') :
    Calls Try.prog f args w fun e w' => ∃ A c, e = .returned (g (.slice A r.length c)) ∧ St w0 w' (Γ ++ [obL A c r]) := by
  refine hc.mono ?_
  rintro e w' ⟨v, rfl, hR, hb⟩
  obtain ⟨A, c, rfl, hh, ha⟩ := R_obL hR
  exact ⟨A, c, rfl, h.add hb [obL A c r] (fun o ho => by obtain rfl := List.mem_singleton.1 ho; exact hh) (fun o ho b hb => by obtain rfl := List.mem_singleton.1 ho; exact ha b hb) (List.pairwise_singleton _ _)⟩
theorem c_same (h : St w0 w Γ) (i j : Nat) {A B : Option Addr} {c d : Nat} {a b : List Sp} (hi : Γ[i]? = some (obL A c a)) (hj : Γ[j]? = some (obL B d b)) (hl : a.length ≤ 100000000) :
    Calls Try.prog 11 #[.slice A a.length c, .slice B b.length d] w fun e w' => e = .returned (.bool (decide (a = b))) ∧ St w0 w' Γ := by
  obtain ⟨h1, h2⟩ := h.get i hi
  obtain ⟨h3, h4⟩ := h.get j hj
  exact (mosaiclaw13_same.calls 400000000 A c a B d b _ w h1 h2 h3 h4 (same_eval a b (by omega) 400000000 (by omega))).mono fun _ _ ⟨he, hb⟩ => ⟨he, h.below hb.below⟩
theorem c_new (h : St w0 w Γ) : Calls Try.prog 8 #[] w fun e w' => ∃ p A c, e = .returned (.pointer (some ⟨p, 0, none⟩)) ∧ St w0 w' (Γ ++ [obH p A c [⟨0, 65535⟩] (-1)]) := by
  refine (new_calls w).mono ?_
  rintro e w' ⟨rfl, rfl⟩
  refine ⟨w.heap.size + 1, some ⟨w.heap.size, 0, none⟩, 1, rfl, h.add ((Touch.refl [] w).alloc _ |>.alloc _).below [obH _ _ _ _ _] ?_ ?_ (List.pairwise_singleton _ _)⟩
  · intro o ho
    obtain rfl := List.mem_singleton.1 ho
    have h1 := heap_alloc_new (w.alloc (.cells #[.int .i64 0, .int .i64 65535] 50)) (.cells #[.slice (some ⟨w.heap.size, 0, none⟩) 1 1, .int .i64 (-1)] 52)
    have h2 := (heap_alloc_old (w.alloc (.cells #[.int .i64 0, .int .i64 65535] 50)) (.cells #[.slice (some ⟨w.heap.size, 0, none⟩) 1 1, .int .i64 (-1)] 52) (by simp)).trans (heap_alloc_new w _)
    refine ⟨by simpa using h1, ⟨rfl, by decide, fun _ => ⟨⟨w.heap.size, 0, none⟩, rfl, fun j x hx => ?_⟩⟩, Nat.le_refl _, ?_⟩
    · match j, hx with
      | 0, hx =>
        obtain rfl := Option.some.inj hx
        refine ⟨_, rfl, k50_mk _ _, fun i u hu => ?_⟩
        rw [add_plain, cell_of_row _ _ _ _ _ _ h2]
        match i, hu with
        | 0, hu => exact hu
        | 1, hu => exact hu
    · simp [blk]
  · intro o ho b hb
    obtain rfl := List.mem_singleton.1 ho
    have hb' : b ∈ (w.heap.size + 1) :: blk (some ⟨w.heap.size, 0, none⟩) [⟨0, 65535⟩] := hb
    simp [blk] at hb'
    omega
theorem c_rnew (h : St w0 w Γ) : Calls Try.prog 9 #[] w fun e w' => ∃ q t, e = .returned (.pointer (some ⟨q, 0, none⟩)) ∧ St w0 w' (Γ ++ [obR q t zBits 0 0]) := by
  refine (rnew_calls w).mono ?_
  rintro e w' ⟨rfl, rfl⟩
  refine ⟨w.heap.size + 1, w.heap.size, rfl, h.add ((Touch.refl [] w).alloc _ |>.alloc _).below [obR _ _ _ _ _] (fun o ho => by obtain rfl := List.mem_singleton.1 ho; exact rnew_at w) ?_ (List.pairwise_singleton _ _)⟩
  intro o ho b hb
  obtain rfl := List.mem_singleton.1 ho
  have hb' : b ∈ [w.heap.size + 1, w.heap.size] := hb
  simp at hb'
  omega
variable {p q t : Nat} {A : Option Addr} {c : Nat} {l : List Sp} {en : Int} {bits : List Bool} {ends top : Int} {T : Int → Bool}
theorem c_holes (h : St w0 w Γ) (i : Nat) (hi : Γ[i]? = some (obH p A c l en)) (hl : l.length ≤ 2000000) :
    Calls Try.prog 12 #[.pointer (some ⟨p, 0, none⟩)] w fun e w' => ∃ B d, e = .returned (.slice B l.length d) ∧ St w0 w' (Γ ++ [obL B d l]) := by
  obtain ⟨h1, h2, h3, h4⟩ := h.get i hi
  exact c_fresh (g := fun x => x) h (holes_calls p A c l en w h1 h2 (by omega))
theorem c_end (h : St w0 w Γ) (i : Nat) (hi : Γ[i]? = some (obH p A c l en)) :
    Calls Try.prog 16 #[.pointer (some ⟨p, 0, none⟩)] w fun e w' => e = .returned (.int .i64 en) ∧ w = w' := end_calls p _ en w (h.get i hi).1
theorem c_done (h : St w0 w Γ) (i : Nat) (hi : Γ[i]? = some (obH p A c l en)) :
    Calls Try.prog 18 #[.pointer (some ⟨p, 0, none⟩)] w fun e w' => e = .returned (.bool (doneA l en)) ∧ w = w' := done_calls p A c l en w (h.get i hi).1
theorem c_put (h : St w0 w Γ) (i : Nat) (hi : Γ[i]? = some (obH p A c l en)) (hl : l.length ≤ 2000000) (off n : Int) (more : Bool) :
    Calls Try.prog 14 #[.pointer (some ⟨p, 0, none⟩), .int .i64 off, .int .i64 n, .bool more] w fun e w' => ∃ A' c' B d, e = .returned (.tuple #[.slice B (freshP l en off n more).length d, .int .i64 (errP l en off n more)]) ∧
      St w0 w' (Γ.set i (obH p A' c' (leftP l en off n more) (endP l en off n more)) ++ [obL B d (freshP l en off n more)]) := by
  obtain ⟨h1, h2, h3, h4⟩ := h.get i hi
  have hlp := lt_of_block h1
  cases hok : mayA l en off n more with
  | false =>
    have e1 : freshP l en off n more = [] := if_neg (by rw [hok]; simp)
    have e2 : errP l en off n more = 1 := if_neg (by rw [hok]; simp)
    have e3 : leftP l en off n more = l := if_neg (by rw [hok]; simp)
    have e4 : endP l en off n more = en := if_neg (by rw [hok]; simp)
    rw [e1, e2, e3, e4]
    refine (put_refused p A c l en off n more w h1 h2 h3 hok).mono ?_
    rintro e w' ⟨rfl, hb⟩
    refine ⟨A, c, none, 0, rfl, h.upd i hi (.of_below hb) _ _ ?_ ?_ ?_ ?_⟩
    · intro o ho
      rcases List.mem_cons.1 ho with rfl | ho
      · exact (obH p A c l en).stab w w' (h.get i hi) (fun b hb' => hb.block b ((obH p A c l en).lt w (h.get i hi) b hb'))
      · obtain rfl := List.mem_singleton.1 ho
        exact ⟨⟨rfl, by decide, fun hn => by simp at hn⟩, Nat.le_refl _⟩
    · intro o ho b hb'
      rcases List.mem_cons.1 ho with rfl | ho
      · exact .inl hb'
      · obtain rfl := List.mem_singleton.1 ho; cases hb'
    · intro o ho b hb'
      rcases List.mem_cons.1 ho with rfl | ho
      · exact .inl hb'
      · obtain rfl := List.mem_singleton.1 ho
        have : b ∈ blk none [] := hb'
        cases this
    · refine List.pairwise_cons.2 ⟨fun o ho => ?_, List.pairwise_singleton _ _⟩
      obtain rfl := List.mem_singleton.1 ho
      exact ⟨fun x _ hx => (nomatch (show x ∈ ([] : List Nat) from hx)), fun x hx => (nomatch (show x ∈ ([] : List Nat) from hx))⟩
  | true =>
    have e1 : freshP l en off n more = freshA l ⟨off, off + n⟩ := if_pos hok
    have e2 : errP l en off n more = 0 := if_pos hok
    have e3 : leftP l en off n more = leftA l en off n more := if_pos hok
    have e4 : endP l en off n more = endA en off n more := if_pos hok
    rw [e1, e2, e3, e4]
    have hr : 0 ≤ off ∧ 1 ≤ n ∧ off + n ≤ 65535 := by
      unfold mayA at hok
      split at hok
      · cases hok
      · omega
    have hc : Calls Try.prog 14 #[.pointer (some ⟨p, 0, none⟩), .int .i64 off, .int .i64 n, .bool more] w (PutPost p l en off n more w) := by
      by_cases hm : more = true ∨ 0 ≤ en
      · exact put_calls p A c l en off n more w h1 h2 h3 (by omega) hok hr.1 hr.2.1 hr.2.2 hm
      · obtain rfl : more = false := by cases more; rfl; exact absurd (.inl rfl) hm
        exact put_ends p A c l en off n w h1 h2 h3 hl hok hr.1 hr.2.1 hr.2.2 (by omega)
    refine hc.mono ?_
    rintro e w' ⟨v, A', c', rfl, hT, hR1, hR2, hp', _⟩
    obtain ⟨B, d, rfl, hh1, ha1⟩ := R_obL hR1
    obtain ⟨A2, c2, he, hh2, ha2⟩ := R_obL hR2
    obtain ⟨rfl, rfl⟩ : A' = A2 ∧ c' = c2 := by injection he with x1 x2 x3; exact ⟨x1, x3⟩
    have hpn : p ∉ blk A' (leftA l en off n more) := fun hm => by have := ha2 p hm; omega
    refine ⟨A', c', B, d, rfl, h.upd i hi hT _ _ ?_ ?_ ?_ ?_⟩
    · intro o ho
      rcases List.mem_cons.1 ho with rfl | ho
      · exact ⟨hp', hh2.1, hh2.2, hpn⟩
      · obtain rfl := List.mem_singleton.1 ho; exact hh1
    · intro o ho b hb'
      rcases List.mem_cons.1 ho with rfl | ho
      · exact .inl hb'
      · obtain rfl := List.mem_singleton.1 ho; cases hb'
    · intro o ho b hb'
      rcases List.mem_cons.1 ho with rfl | ho
      · rcases List.mem_cons.1 hb' with rfl | hb'
        · exact .inl List.mem_cons_self
        · exact .inr (ha2 b hb')
      · obtain rfl := List.mem_singleton.1 ho; exact .inr (ha1 b hb')
    · refine List.pairwise_cons.2 ⟨fun o ho => ?_, List.pairwise_singleton _ _⟩
      obtain rfl := List.mem_singleton.1 ho
      refine ⟨fun x hx hx2 => ?_, fun x hx => by cases hx⟩
      obtain rfl := List.mem_singleton.1 hx
      have := ha1 x hx2
      omega
/-- The same where what it tells is known. -/
theorem c_putK (h : St w0 w Γ) (i : Nat) (hi : Γ[i]? = some (obH p A c l en)) (hl : l.length ≤ 2000000) (off n : Int) (more : Bool) {f l' : List Sp} {x en' : Int}
    (e1 : freshP l en off n more = f) (e2 : errP l en off n more = x) (e3 : leftP l en off n more = l') (e4 : endP l en off n more = en') :
    Calls Try.prog 14 #[.pointer (some ⟨p, 0, none⟩), .int .i64 off, .int .i64 n, .bool more] w fun e w' => ∃ A' c' B d, e = .returned (.tuple #[.slice B f.length d, .int .i64 x]) ∧
      St w0 w' (Γ.set i (obH p A' c' l' en') ++ [obL B d f]) := by
  subst e1 e2 e3 e4
  exact c_put h i hi hl off n more
theorem c_doneK (h : St w0 w Γ) (i : Nat) (hi : Γ[i]? = some (obH p A c l en)) {b : Bool} (hb : doneA l en = b) :
    Calls Try.prog 18 #[.pointer (some ⟨p, 0, none⟩)] w fun e w' => e = .returned (.bool b) ∧ w = w' := by
  subst hb
  exact c_done h i hi
theorem c_sameK (h : St w0 w Γ) (i j : Nat) {A B : Option Addr} {c d : Nat} {a : List Sp} (hi : Γ[i]? = some (obL A c a)) (hj : Γ[j]? = some (obL B d a)) (hl : a.length ≤ 100000000) :
    Calls Try.prog 11 #[.slice A a.length c, .slice B a.length d] w fun e w' => e = .returned (.bool true) ∧ St w0 w' Γ :=
  (c_same h i j hi hj hl).mono fun _ _ ⟨he, hs⟩ => ⟨by rw [he, decide_eq_true rfl], hs⟩
theorem c_lit (h : St w0 w Γ) (a b : Int) : St w0 (w.alloc (.cells #[.int .i64 a, .int .i64 b] 50)) (Γ ++ [obL (some ⟨w.heap.size, 0, none⟩) 1 [⟨a, b⟩]]) := by
  refine h.add ((Touch.refl [] w).alloc _).below [obL _ _ _] ?_ ?_ (List.pairwise_singleton _ _)
  · intro o ho
    obtain rfl := List.mem_singleton.1 ho
    refine ⟨⟨rfl, by simp, fun _ => ⟨⟨w.heap.size, 0, none⟩, rfl, fun j x hx => ?_⟩⟩, Nat.le_refl _⟩
    match j, hx with
    | 0, hx =>
      obtain rfl := Option.some.inj hx
      refine ⟨_, rfl, k50_mk _ _, fun i u hu => ?_⟩
      rw [add_plain, cell_of_row _ _ _ _ _ _ (heap_alloc_new w _)]
      match i, hu with
      | 0, hu => exact hu
      | 1, hu => exact hu
  · intro o ho b' hb
    obtain rfl := List.mem_singleton.1 ho
    have hb' : b' ∈ blk (some ⟨w.heap.size, 0, none⟩) [(⟨a, b⟩ : Sp)] := hb
    simp [blk] at hb'
    omega
theorem c_rput (h : St w0 w Γ) (i : Nat) (hi : Γ[i]? = some (obR q t bits ends top)) (hI : Inv T l en) (hJ : RInv T bits en ends top) (off n : Int) (more : Bool) :
    Calls Try.prog 15 #[.pointer (some ⟨q, 0, none⟩), .int .i64 off, .int .i64 n, .bool more] w fun e w' => ∃ bits' ends' top' B d, e = .returned (.tuple #[.slice B (freshP l en off n more).length d, .int .i64 (errP l en off n more)]) ∧
      RInv (putT T l en off n more) bits' (endP l en off n more) ends' top' ∧ St w0 w' (Γ.set i (obR q t bits' ends' top') ++ [obL B d (freshP l en off n more)]) := by
  have hR : RefAt w q t bits ends top := h.get i hi
  have hlen := hI.len
  have hends := hJ.ends
  have hmay := may_eq hI hJ off n more
  cases hok : mayA l en off n more with
  | false =>
    have e1 : freshP l en off n more = [] := if_neg (by rw [hok]; simp)
    have e2 : errP l en off n more = 1 := if_neg (by rw [hok]; simp)
    have e3 : putT T l en off n more = T := if_neg (by rw [hok]; simp)
    have e4 : endP l en off n more = en := if_neg (by rw [hok]; simp)
    rw [e1, e2, e3, e4]
    refine (rput_no q t bits ends top off n more w hR (by omega) (hmay.trans hok)).mono ?_
    rintro e w' ⟨rfl, rfl⟩
    refine ⟨bits, ends, top, none, 0, rfl, hJ, h.upd i hi (.refl _ _) _ _ ?_ ?_ ?_ ?_⟩
    · intro o ho
      rcases List.mem_cons.1 ho with rfl | ho
      · exact hR
      · obtain rfl := List.mem_singleton.1 ho
        exact ⟨⟨rfl, by decide, fun hn => by simp at hn⟩, Nat.le_refl _⟩
    · intro o ho b hb'
      rcases List.mem_cons.1 ho with rfl | ho
      · exact .inl hb'
      · obtain rfl := List.mem_singleton.1 ho; cases hb'
    · intro o ho b hb'
      rcases List.mem_cons.1 ho with rfl | ho
      · exact .inl hb'
      · obtain rfl := List.mem_singleton.1 ho
        have : b ∈ blk none [] := hb'
        cases this
    · refine List.pairwise_cons.2 ⟨fun o ho => ?_, List.pairwise_singleton _ _⟩
      obtain rfl := List.mem_singleton.1 ho
      exact ⟨fun x _ hx => (nomatch (show x ∈ ([] : List Nat) from hx)), fun x hx => (nomatch (show x ∈ ([] : List Nat) from hx))⟩
  | true =>
    have e1 : freshP l en off n more = freshA l ⟨off, off + n⟩ := if_pos hok
    have e2 : errP l en off n more = 0 := if_pos hok
    have e3 : putT T l en off n more = put1T T off n := if_pos hok
    have e4 : endP l en off n more = endA en off n more := if_pos hok
    rw [e1, e2, e3, e4]
    have ok := (may_iff hI off n more).1 hok
    have o1 := ok.off0
    have o2 := ok.n1
    have o3 := ok.lt
    obtain ⟨a, rfl⟩ := Int.eq_ofNat_of_zero_le o1
    obtain ⟨m, rfl⟩ := Int.eq_ofNat_of_zero_le (show (0 : Int) ≤ n by omega)
    have hk : (0 < ends ∧ more = true ∧ (a : Int) + m ≤ ends - 1) ∨ (0 < ends ∧ more = false ∧ (a : Int) + m = ends - 1) ∨ (ends ≤ 0 ∧ more = true) ∨ (ends ≤ 0 ∧ more = false ∧ top ≤ (a : Int) + m) := by
      have hr := hmay.trans hok
      unfold rmayA at hr
      split at hr
      · cases hr
      · split at hr
        · cases more with
          | true => rw [if_pos rfl, decide_eq_true_eq] at hr; exact .inl ⟨by assumption, rfl, hr⟩
          | false => rw [if_neg (by simp), decide_eq_true_eq] at hr; exact .inr (.inl ⟨by assumption, rfl, hr⟩)
        · cases more with
          | true => exact .inr (.inr (.inl ⟨by omega, rfl⟩))
          | false => rw [Bool.false_or, decide_eq_true_eq] at hr; exact .inr (.inr (.inr ⟨by omega, rfl, hr⟩))
    have hql := lt_of_block hR.st
    have htl := lt_of_block hR.row
    refine (rput_ok q t bits ends top a m more w hR (by omega) (by omega) (by omega) hk).mono ?_
    rintro e w' ⟨v, o, rfl, hT, hR1, hS, hR2⟩
    have ho := fresh_eq hI hJ ok hS
    subst ho
    obtain ⟨B, d, rfl, hh1, ha1⟩ := R_obL hR1
    refine ⟨_, _, _, B, d, rfl, RInv.put hI hJ ok, h.upd i hi hT _ _ ?_ ?_ ?_ ?_⟩
    · intro o ho
      rcases List.mem_cons.1 ho with rfl | ho
      · exact hR2
      · obtain rfl := List.mem_singleton.1 ho; exact hh1
    · intro o ho b hb'
      rcases List.mem_cons.1 ho with rfl | ho
      · exact .inl hb'
      · obtain rfl := List.mem_singleton.1 ho; cases hb'
    · intro o ho b hb'
      rcases List.mem_cons.1 ho with rfl | ho
      · exact .inl hb'
      · obtain rfl := List.mem_singleton.1 ho; exact .inr (ha1 b hb')
    · refine List.pairwise_cons.2 ⟨fun o ho => ?_, List.pairwise_singleton _ _⟩
      obtain rfl := List.mem_singleton.1 ho
      refine ⟨fun x hx hx2 => ?_, fun x hx => by cases hx⟩
      have := ha1 x hx2
      rcases List.mem_cons.1 hx with rfl | hx
      · omega
      · obtain rfl := List.mem_singleton.1 hx; omega
theorem c_rholes (h : St w0 w Γ) (i : Nat) (hi : Γ[i]? = some (obR q t bits ends top)) (hI : Inv T l en) (hJ : RInv T bits en ends top) :
    Calls Try.prog 13 #[.pointer (some ⟨q, 0, none⟩)] w fun e w' => ∃ B d, e = .returned (.slice B l.length d) ∧ St w0 w' (Γ ++ [obL B d l]) := by
  have hlen := hI.len
  have hends := hJ.ends
  refine c_fresh (g := fun x => x) h ((rholes_calls q t bits ends top w (h.get i hi) (by omega)).mono ?_)
  rintro e w' ⟨v, o, rfl, hR1, hS, hb⟩
  have ho := holes_eq hI hJ hS
  subst ho
  exact ⟨v, rfl, hR1, hb⟩
theorem c_rend (h : St w0 w Γ) (i : Nat) (hi : Γ[i]? = some (obR q t bits ends top)) (hI : Inv T l en) (hJ : RInv T bits en ends top) :
    Calls Try.prog 17 #[.pointer (some ⟨q, 0, none⟩)] w fun e w' => e = .returned (.int .i64 en) ∧ w = w' := by
  have hlen := hI.len
  have hends := hJ.ends
  have := rend_calls q t bits ends top w (h.get i hi) (by omega)
  rwa [show ends - 1 = en by omega] at this
theorem c_rdone (h : St w0 w Γ) (i : Nat) (hi : Γ[i]? = some (obR q t bits ends top)) (hI : Inv T l en) (hJ : RInv T bits en ends top) :
    Calls Try.prog 19 #[.pointer (some ⟨q, 0, none⟩)] w fun e w' => e = .returned (.bool (doneA l en)) ∧ St w0 w' Γ := by
  have hlen := hI.len
  have hends := hJ.ends
  refine (rdone_calls q t bits ends top w (h.get i hi) (by omega)).mono ?_
  rintro e w' ⟨o, rfl, hS, hb⟩
  have ho := holes_eq hI hJ hS
  subst ho
  refine ⟨?_, h.below hb⟩
  have e1 : decide (0 < ends) = decide (0 ≤ en) := by rw [decide_eq_decide]; omega
  unfold rdoneB doneA
  rw [e1]
end
end Go.Proofs.Ytdlgocieecfpbaa.Q
