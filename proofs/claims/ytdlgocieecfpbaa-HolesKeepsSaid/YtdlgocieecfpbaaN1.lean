/- The calls of the statement HolesKeeps, what they tell each one's own; and the lists that it keeps. No condition but the lists' lengths. -/
import Derived.Test.YtdlgocieecfpbaaM1
namespace Go.Proofs.Ytdlgocieecfpbaa.Q
open Go.RowKit Go.Proofs.YtdlgocieecfpbaaW.PrintWords Go.Proofs.YtdlgocieecfpbaaW.PrintLast Go.Proofs.YtdlgocieecfpbaaW.PrintMore Go.Proofs.Ytdlgocieecfpbaa.SL

section
variable {w0 w : World} {Γ : List Ob}
theorem c_freshS {f : FuncId} {args : Array Value} {g : Value → Value} {r : List Sp} (h : St w0 w Γ)
    (hc : Calls Try.prog f args w fun e w' => ∃ v, e = .returned (g v) ∧ Kd.R k50 50 w' w.heap.size (fun _ => True) v r ∧ Below w.heap.size w w') :
    Calls Try.prog f args w fun e w' => ∃ A c, e = .returned (g (.slice A r.length c)) ∧ St w0 w' (Γ ++ [obS (.slice A r.length c) r]) := by
  refine hc.mono ?_
  rintro e w' ⟨v, rfl, hR, hb⟩
  obtain ⟨A, c, rfl⟩ := Kd.R_slice hR
  exact ⟨A, c, rfl, h.addW flatS hb hR⟩
variable {p : Nat} {A : Option Addr} {c : Nat} {l : List Sp} {en : Int}
theorem c_holesS (h : St w0 w Γ) (i : Nat) (hi : Γ[i]? = some (obH p A c l en)) (hl : l.length ≤ 2000000) :
    Calls Try.prog 12 #[.pointer (some ⟨p, 0, none⟩)] w fun e w' => ∃ B d, e = .returned (.slice B l.length d) ∧ St w0 w' (Γ ++ [obS (.slice B l.length d) l]) := by
  obtain ⟨h1, h2, h3, h4⟩ := h.get i hi
  exact c_freshS (g := fun x => x) h (holes_calls p A c l en w h1 h2 (by omega))
theorem c_putS (h : St w0 w Γ) (i : Nat) (hi : Γ[i]? = some (obH p A c l en)) (hl : l.length ≤ 2000000) (off n : Int) (more : Bool) :
    Calls Try.prog 14 #[.pointer (some ⟨p, 0, none⟩), .int .i64 off, .int .i64 n, .bool more] w fun e w' => ∃ A' c' B d, e = .returned (.tuple #[.slice B (freshP l en off n more).length d, .int .i64 (errP l en off n more)]) ∧
      St w0 w' (Γ.set i (obH p A' c' (leftP l en off n more) (endP l en off n more)) ++ [obS (.slice B (freshP l en off n more).length d) (freshP l en off n more)]) := by
  obtain ⟨h1, h2, h3, h4⟩ := h.get i hi
  have hlp := lt_of_block h1
  cases hok : mayA l en off n more with
  | false =>
    have e1 : freshP l en off n more = [] := if_neg (by rw [hok]; simp)
    have e2 : errP l en off n more = 1 := if_neg (by rw [hok]; simp)
    have e3 : leftP l en off n more = l := if_neg (by rw [hok]; simp)
    have e4 : endP l en off n more = en := if_neg (by rw [hok]; simp)
    rw [e1, e2, e3, e4]
    refine (put_refused p A c l en off n more w h1 h2 h3 hok).mono ?_
    rintro e w' ⟨rfl, hb⟩
    refine ⟨A, c, none, 0, rfl, ?_⟩
    have hs : Γ.set i (obH p A c l en) = Γ := by
      obtain ⟨hlt, he⟩ := List.getElem?_eq_some_iff.1 hi
      rw [← he]
      exact List.set_getElem_self hlt
    rw [hs]
    exact (h.below hb).newW flatS
  | true =>
    have e1 : freshP l en off n more = freshA l ⟨off, off + n⟩ := if_pos hok
    have e2 : errP l en off n more = 0 := if_pos hok
    have e3 : leftP l en off n more = leftA l en off n more := if_pos hok
    have e4 : endP l en off n more = endA en off n more := if_pos hok
    rw [e1, e2, e3, e4]
    have hr : 0 ≤ off ∧ 1 ≤ n ∧ off + n ≤ 65535 := by
      unfold mayA at hok
      split at hok
      · cases hok
      · omega
    have hc : Calls Try.prog 14 #[.pointer (some ⟨p, 0, none⟩), .int .i64 off, .int .i64 n, .bool more] w (PutPost p l en off n more w) := by
      by_cases hm : more = true ∨ 0 ≤ en
      · exact put_calls p A c l en off n more w h1 h2 h3 (by omega) hok hr.1 hr.2.1 hr.2.2 hm
      · obtain rfl : more = false := by cases more; rfl; exact absurd (.inl rfl) hm
        exact put_ends p A c l en off n w h1 h2 h3 hl hok hr.1 hr.2.1 hr.2.2 (by omega)
    refine hc.mono ?_
    rintro e w' ⟨v, A', c', rfl, hT, hR1, hR2, hp', hds⟩
    obtain ⟨B, d, rfl⟩ := Kd.R_slice hR1
    obtain ⟨A2, c2, he, hh2, ha2⟩ := R_obL hR2
    obtain ⟨rfl, rfl⟩ : A' = A2 ∧ c' = c2 := by injection he with x1 x2 x3; exact ⟨x1, x3⟩
    have hpn : p ∉ blk A' (leftA l en off n more) := fun hm => by have := ha2 p hm; omega
    have hb1 : ∀ b ∈ (Value.slice B (freshA l ⟨off, off + n⟩).length d).ownBlock.toList, w.heap.size ≤ b := fun b hb => Kd.R_base hR1 b (by simpa using hb)
    refine ⟨A', c', B, d, rfl, h.upd i hi hT _ _ ?_ ?_ ?_ ?_⟩
    · intro o ho
      rcases List.mem_cons.1 ho with rfl | ho
      · exact ⟨hp', hh2.1, hh2.2, hpn⟩
      · obtain rfl := List.mem_singleton.1 ho; exact Kd.R_lower hR1 (Nat.zero_le _)
    · intro o ho b hb'
      rcases List.mem_cons.1 ho with rfl | ho
      · exact .inl hb'
      · obtain rfl := List.mem_singleton.1 ho; exact .inr (hb1 b hb')
    · intro o ho b hb'
      rcases List.mem_cons.1 ho with rfl | ho
      · rcases List.mem_cons.1 hb' with rfl | hb'
        · exact .inl List.mem_cons_self
        · exact .inr (ha2 b hb')
      · obtain rfl := List.mem_singleton.1 ho; exact .inr (hb1 b hb')
    · refine List.pairwise_cons.2 ⟨fun o ho => ?_, List.pairwise_singleton _ _⟩
      obtain rfl := List.mem_singleton.1 ho
      refine ⟨fun x hx hx2 => ?_, fun x hx hx2 => ?_⟩
      · obtain rfl := List.mem_singleton.1 hx
        have := hb1 x hx2
        omega
      · rcases List.mem_cons.1 hx2 with rfl | hx2
        · have := hb1 x hx
          omega
        · have hk : (Value.slice B (freshA l ⟨off, off + n⟩).length d).ownBlock = some x := by
            have hx' : x ∈ (Value.slice B (freshA l ⟨off, off + n⟩).length d).ownBlock.toList := hx
            simpa using hx'
          refine hds x hk ?_
          unfold blk at hx2
          split at hx2
          · cases hx2
          · cases A' with
            | none => cases hx2
            | some ad =>
              obtain rfl : x = ad.block := by simpa using hx2
              simp [Value.ownBlock]
/-- The same where what it tells is known. -/
theorem c_putSK (h : St w0 w Γ) (i : Nat) (hi : Γ[i]? = some (obH p A c l en)) (hl : l.length ≤ 2000000) (off n : Int) (more : Bool) {f l' : List Sp} {x en' : Int}
    (e1 : freshP l en off n more = f) (e2 : errP l en off n more = x) (e3 : leftP l en off n more = l') (e4 : endP l en off n more = en') :
    Calls Try.prog 14 #[.pointer (some ⟨p, 0, none⟩), .int .i64 off, .int .i64 n, .bool more] w fun e w' => ∃ A' c' B d, e = .returned (.tuple #[.slice B f.length d, .int .i64 x]) ∧
      St w0 w' (Γ.set i (obH p A' c' l' en') ++ [obS (.slice B f.length d) f]) := by
  subst e1 e2 e3 e4
  exact c_putS h i hi hl off n more
theorem c_sameS (h : St w0 w Γ) (i j : Nat) {A B : Option Addr} {n c m d : Nat} {a : List Sp} (hi : Γ[i]? = some (obS (.slice A n c) a)) (hj : Γ[j]? = some (obS (.slice B m d) a)) (hl : a.length ≤ 100000000) :
    Calls Try.prog 11 #[.slice A n c, .slice B m d] w fun e w' => e = .returned (.bool true) ∧ St w0 w' Γ :=
  (d_sameW (s := (A, n, c)) (t := (B, m, d)) h i j hi hj hl).mono fun _ _ ⟨he, hb⟩ => ⟨he, h.below hb.below⟩
end

/-- A list that is kept: its header, what it holds, its place. -/
abbrev It := Hdr × List Sp × Nat
structure Kept (Γ : List Ob) (P : Nat) (its jts : List It) : Prop where
  has : ∀ x ∈ its ++ jts, Γ[x.2.2]? = some (obS (hv x.1) x.2.1)
  nd : ((its ++ jts).map (·.2.2)).Nodup
  rng : ∀ x ∈ its ++ jts, 5 ≤ x.2.2 ∧ x.2.2 < P
  same : its.map (·.2.1) = jts.map (·.2.1)
  len : ∀ x ∈ its, x.2.1.length ≤ 2000000
theorem Kept.nil (Γ : List Ob) (P : Nat) : Kept Γ P [] [] := ⟨by simp, by simp, by simp, rfl, by simp⟩
theorem Kept.more {Γ Γ' : List Ob} {P P' : Nat} {its jts : List It} (h : Kept Γ P its jts) (hk : ∀ j, 5 ≤ j → j < P → Γ'[j]? = Γ[j]?) (ns ms : List It) (hh : ∀ x ∈ ns ++ ms, Γ'[x.2.2]? = some (obS (hv x.1) x.2.1)) (hn : ((ns ++ ms).map (·.2.2)).Nodup)
    (hr : ∀ x ∈ ns ++ ms, P ≤ x.2.2 ∧ x.2.2 < P') (h5 : 5 ≤ P) (hP : P ≤ P') (hs : ns.map (·.2.1) = ms.map (·.2.1)) (hl : ∀ x ∈ ns, x.2.1.length ≤ 2000000) : Kept Γ' P' (its ++ ns) (jts ++ ms) := by
  have hp : ((its ++ ns) ++ (jts ++ ms)).Perm ((its ++ jts) ++ (ns ++ ms)) := by
    rw [List.append_assoc, List.append_assoc]
    refine List.Perm.append_left its ?_
    rw [← List.append_assoc, ← List.append_assoc]
    exact List.Perm.append_right ms List.perm_append_comm
  have mem : ∀ x, x ∈ (its ++ ns) ++ (jts ++ ms) → x ∈ its ++ jts ∨ x ∈ ns ++ ms := fun x hx => List.mem_append.1 (hp.mem_iff.1 hx)
  refine ⟨fun x hx => ?_, ?_, fun x hx => ?_, ?_, fun x hx => ?_⟩
  · rcases mem x hx with hx | hx
    · obtain ⟨r1, r2⟩ := h.rng x hx
      rw [hk _ r1 r2]
      exact h.has x hx
    · exact hh x hx
  · refine (List.Perm.nodup_iff (hp.map _)).2 ?_
    rw [List.map_append, List.nodup_append]
    refine ⟨h.nd, hn, fun a ha b hb => ?_⟩
    obtain ⟨x, hx, rfl⟩ := List.mem_map.1 ha
    obtain ⟨y, hy, rfl⟩ := List.mem_map.1 hb
    have := (h.rng x hx).2
    have := (hr y hy).1
    omega
  · rcases mem x hx with hx | hx
    · have := h.rng x hx; omega
    · have := hr x hx; omega
  · rw [List.map_append, List.map_append, h.same, hs]
  · rcases List.mem_append.1 hx with hx | hx
    · exact h.len x hx
    · exact hl x hx
def ctOf (its : List It) (j : Nat) : List Sp := (its.map (·.2.1)).getD j []
theorem fam_of (Γ : List Ob) (its : List It) (hh : ∀ x ∈ its, Γ[x.2.2]? = some (obS (hv x.1) x.2.1)) : (its.map (·.2.2)).filterMap (fun i => Γ[i]?) = fam its.length (fL (its.map (·.1)) (ctOf its)) := by
  have h1 : (its.map (·.2.2)).filterMap (fun i => Γ[i]?) = its.map fun x => obS (hv x.1) x.2.1 := by
    rw [List.filterMap_map]
    induction its with
    | nil => rfl
    | cons x its ih =>
      rw [List.filterMap_cons, List.map_cons, ih (fun y hy => hh y (List.mem_cons_of_mem _ hy))]
      simp only [Function.comp_apply, hh x List.mem_cons_self]
  rw [h1]
  apply List.ext_getElem?
  intro j
  rcases Nat.lt_or_ge j its.length with hj | hj
  · rw [fam_get _ hj, List.getElem?_map, List.getElem?_eq_getElem hj]
    show some (obS _ _) = some (obS _ _)
    simp [hd, ctOf, List.getD_eq_getElem?_getD, hj]
  · rw [List.getElem?_eq_none (by simpa using hj), List.getElem?_eq_none (by rw [fam_len]; exact hj)]
theorem Kept.pick {w0 w : World} {Γ : List Ob} {P : Nat} {its jts : List It} {a b k u : Ob} (k' : Kept Γ P its jts) (h : St w0 w Γ) (h0 : Γ[0]? = some a) (h2 : Γ[2]? = some b) (h3 : Γ[3]? = some k) (h4 : Γ[4]? = some u) :
    St w0 w ([k, u] ++ (fam its.length (fL (its.map (·.1)) (ctOf its)) ++ (fam its.length (fL (jts.map (·.1)) (ctOf its)) ++ [a, b]))) := by
  have hlen : its.length = jts.length := by have := congrArg List.length k'.same; simpa using this
  have hct : ctOf jts = ctOf its := by funext j; unfold ctOf; rw [k'.same]
  have hnd : (([3, 4] : List Nat) ++ ((its ++ jts).map (fun x : It => x.2.2) ++ [0, 2])).Nodup := by
    have hb : ∀ p ∈ (its ++ jts).map (fun x : It => x.2.2), 5 ≤ p := fun p hp => by
      obtain ⟨x, hx, rfl⟩ := List.mem_map.1 hp
      exact (k'.rng x hx).1
    refine List.nodup_append.2 ⟨by decide, List.nodup_append.2 ⟨k'.nd, by decide, fun p hp q hq => ?_⟩, fun p hp q hq => ?_⟩
    · have := hb p hp
      simp at hq
      omega
    · simp only [List.mem_append, List.mem_cons, List.not_mem_nil, or_false] at hp hq
      rcases hq with hq | hq
      · have := hb q hq
        omega
      · omega
  have := h.pick _ hnd
  rw [List.filterMap_append, List.filterMap_append, List.map_append, List.filterMap_append, fam_of Γ its (fun x hx => k'.has x (List.mem_append.2 (.inl hx))), fam_of Γ jts (fun x hx => k'.has x (List.mem_append.2 (.inr hx))), hct, ← hlen] at this
  simp only [List.filterMap_cons, List.filterMap_nil, h0, h2, h3, h4, List.append_assoc] at this
  exact this
theorem St.back {w0 w : World} {Γ Δ : List Ob} (h : St w0 w (Γ ++ Δ)) : St w0 w Δ := by
  exact (St.front (Γ := Δ) (Δ := Γ) (h.perm List.perm_append_comm))
theorem tail_get (a b c k u : Ob) (T N : List Ob) (j : Nat) : (a :: b :: c :: k :: u :: (T ++ N))[5 + T.length + j]? = N[j]? := by
  have e : a :: b :: c :: k :: u :: (T ++ N) = ([a, b, c, k, u] ++ T) ++ N := by simp
  rw [e, List.getElem?_append_right (by simp; omega)]
  congr 1
  simp
  omega
theorem tail_old (a b c k u a' b' c' k' u' : Ob) (T N : List Ob) (j : Nat) (h : 5 ≤ j) (h2 : j < 5 + T.length) : (a' :: b' :: c' :: k' :: u' :: (T ++ N))[j]? = (a :: b :: c :: k :: u :: T)[j]? := by
  obtain ⟨i, rfl⟩ : ∃ i, j = i + 5 := ⟨j - 5, by omega⟩
  simp only [List.getElem?_cons_succ]
  exact List.getElem?_append_left (by omega)
end Go.Proofs.Ytdlgocieecfpbaa.Q
