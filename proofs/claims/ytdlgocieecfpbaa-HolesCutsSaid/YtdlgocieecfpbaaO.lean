/- What the statement HolesOnce asks, on plain lists; and its calls. No condition. -/
import Derived.Test.YtdlgocieecfpbaaK
import Derived.Deep.QuietTactic
import Derived.BigQuiet
namespace Go.Proofs.Ytdlgocieecfpbaa.Q
open Go.RowKit Go.Proofs.YtdlgocieecfpbaaW.PrintWords Go.Proofs.YtdlgocieecfpbaaW.PrintLast Go.Proofs.YtdlgocieecfpbaaW.PrintMore Go.Proofs.Ytdlgocieecfpbaa.SL

theorem lright_l0 (l : List Sp) (hb : l.length ≤ 100000000) : ∀ (d i k : Nat) (a : Int), i + d = l.length → d < k → rightFrom a (l.drop i) = true → mosaiclaw13_right.l0 k l a (i : Int) = some true := by
  intro d
  induction d with
  | zero =>
    intro i k a hi hk _
    obtain ⟨k, rfl⟩ : ∃ m, k = m + 1 := ⟨k - 1, by omega⟩
    simp only [mosaiclaw13_right.l0]
    rw [if_neg (by omega)]
  | succ d ih =>
    intro i k a hi hk hr
    obtain ⟨k, rfl⟩ : ∃ m, k = m + 1 := ⟨k - 1, by omega⟩
    have hlt : i < l.length := by omega
    rw [dropc l i hlt, rightFrom_cons] at hr
    obtain ⟨h1, h2, h3⟩ := hr
    have hg := (goodB_iff _).1 h2
    simp only [mosaiclaw13_right.l0]
    rw [if_pos (by omega), if_pos (by omega), rdT l i hlt, if_neg (by omega), if_neg (by omega), if_neg (by omega), wr1 i (by omega)]
    exact ih (i + 1) k _ (by omega) (by omega) h3
theorem lright_eval (l : List Sp) (h : rightB l = true) : mosaiclaw13_right.f 400000000 l = some true := by
  have hl := rightB_len h
  exact lright_l0 l (by omega) l.length 0 400000000 (-1) (by omega) (by omega) h
theorem within_eval (l : List Sp) (hl : l.length ≤ 100000000) (off n : Int) (h0 : 0 ≤ off) (h1 : 0 ≤ n) (h2 : off + n ≤ 65535) (hh : ∀ s ∈ l, off ≤ s.f0 ∧ s.f1 ≤ off + n) : mosaiclaw13_within.f l off n = some true := by
  unfold mosaiclaw13_within.f
  by_cases h : (l.length : Int) = 0
  · rw [if_pos h]
  · have hw : wrap64 ((l.length : Int) - 1) = ((l.length - 1 : Nat) : Int) := by unfold wrap64; omega
    have hw2 : wrap64 (off + n) = off + n := by unfold wrap64; omega
    have e0 : rd_T50 l 0 = l[0]'(by omega) := rdT l 0 (by omega)
    rw [if_neg h, if_pos (by omega), hw, hw2, e0, rdT l (l.length - 1) (by omega), if_pos (hh _ (List.getElem_mem _)).1, if_pos (by omega), if_pos (by omega), decide_eq_true (hh _ (List.getElem_mem _)).2]
/-- Two lists without an offset in common. -/
def Part (a b : List Sp) : Prop := ∀ s ∈ a, ∀ t ∈ b, ¬ (s.f0 < t.f1 ∧ t.f0 < s.f1)
theorem Part.of (a b : List Sp) (ha : ∀ s ∈ a, goodB s = true) (hb : ∀ s ∈ b, goodB s = true) (h : ∀ x, ¬ (inS a x ∧ inS b x)) : Part a b := by
  intro s hs t ht hc
  have g1 := (goodB_iff s).1 (ha s hs)
  have g2 := (goodB_iff t).1 (hb t ht)
  have hm := mx_cases s.f0 t.f0
  exact h (mx s.f0 t.f0) ⟨⟨s, hs, by omega, by omega⟩, ⟨t, ht, by omega, by omega⟩⟩
theorem meets_l1 (a b : List Sp) (hb : b.length ≤ 100000000) (i : Nat) (hi : i < a.length) (h : Part a b) (R : Option Bool) (N : Nat) (hR : ∀ k, N < k → mosaiclaw13_meets.l0 k a b (wrap64 ((i : Int) + 1)) = R) :
    ∀ (d j k : Nat), j + d = b.length → d + 1 + N < k → mosaiclaw13_meets.l1 k a b (i : Int) (j : Int) = R := by
  intro d
  induction d with
  | zero =>
    intro j k hj hk
    obtain ⟨k, rfl⟩ : ∃ m, k = m + 1 := ⟨k - 1, by omega⟩
    simp only [mosaiclaw13_meets.l1]
    rw [if_neg (by omega)]
    exact hR k (by omega)
  | succ d ih =>
    intro j k hj hk
    obtain ⟨k, rfl⟩ : ∃ m, k = m + 1 := ⟨k - 1, by omega⟩
    have hlt : j < b.length := by omega
    have hp := h _ (List.getElem_mem hi) _ (List.getElem_mem hlt)
    simp only [mosaiclaw13_meets.l1]
    rw [if_pos (by omega), if_pos (by omega), if_pos (by omega), if_pos (by omega), rdT a i hi, rdT b j hlt, wr1 j (by omega)]
    by_cases c : a[i].f0 < b[j].f1
    · rw [if_pos c, if_neg (fun c2 => hp ⟨c, c2⟩)]
      exact ih (j + 1) k (by omega) (by omega)
    · rw [if_neg c]
      exact ih (j + 1) k (by omega) (by omega)
theorem meets_l0 (a b : List Sp) (ha : a.length ≤ 100000000) (hb : b.length ≤ 100000000) (h : Part a b) : ∀ (d i k : Nat), i + d = a.length → d * (b.length + 3) + 1 < k → mosaiclaw13_meets.l0 k a b (i : Int) = some false := by
  intro d
  induction d with
  | zero =>
    intro i k hi hk
    obtain ⟨k, rfl⟩ : ∃ m, k = m + 1 := ⟨k - 1, by omega⟩
    simp only [mosaiclaw13_meets.l0]
    rw [if_neg (by omega)]
  | succ d ih =>
    intro i k hi hk
    obtain ⟨k, rfl⟩ : ∃ m, k = m + 1 := ⟨k - 1, by omega⟩
    have hlt : i < a.length := by omega
    rw [Nat.succ_mul] at hk
    simp only [mosaiclaw13_meets.l0]
    rw [if_pos (by omega)]
    exact meets_l1 a b hb i hlt h (some false) (d * (b.length + 3) + 1) (fun k' hk' => by rw [wr1 i (by omega)]; exact ih (i + 1) k' (by omega) (by omega)) b.length 0 k (by omega) (by omega)
theorem meets_eval (a b : List Sp) (ha : a.length ≤ 100000000) (hb : b.length ≤ 100000000) (h : Part a b) : mosaiclaw13_meets.f 100000000000000000 a b = some false := by
  refine meets_l0 a b ha hb h a.length 0 _ (by omega) ?_
  have : a.length * (b.length + 3) ≤ 100000000 * (100000000 + 3) := Nat.mul_le_mul ha (by omega)
  omega
theorem lsize_l0 (l : List Sp) (hb : l.length ≤ 100000000) (hg : ∀ s ∈ l, goodB s = true) : ∀ (d i k : Nat) (acc : Int), i + d = l.length → d < k → 0 ≤ acc → acc + 65536 * (d : Int) ≤ 4611686018427387904 → mosaiclaw13_size.l0 k l acc (i : Int) = some (acc + sizeS (l.drop i)) := by
  intro d
  induction d with
  | zero =>
    intro i k acc hi hk _ _
    obtain ⟨k, rfl⟩ : ∃ m, k = m + 1 := ⟨k - 1, by omega⟩
    simp only [mosaiclaw13_size.l0]
    rw [if_neg (by omega), drop_nil l i (by omega)]
    simp [sizeS]
  | succ d ih =>
    intro i k acc hi hk h0 h1
    obtain ⟨k, rfl⟩ : ∃ m, k = m + 1 := ⟨k - 1, by omega⟩
    have hlt : i < l.length := by omega
    have g := (goodB_iff _).1 (hg _ (List.getElem_mem hlt))
    have w1 : wrap64 (acc + l[i].f1) = acc + l[i].f1 := by unfold wrap64; omega
    have w2 : wrap64 (acc + l[i].f1 - l[i].f0) = acc + l[i].f1 - l[i].f0 := by unfold wrap64; omega
    simp only [mosaiclaw13_size.l0]
    rw [if_pos (by omega), if_pos (by omega), rdT l i hlt, w1, w2, wr1 i (by omega), ih (i + 1) k _ (by omega) (by omega) (by omega) (by omega), dropc l i hlt]
    simp only [sizeS, Option.some.injEq]
    omega
theorem lsize_eval (l : List Sp) (hb : l.length ≤ 100000000) (hg : ∀ s ∈ l, goodB s = true) : mosaiclaw13_size.f 400000000 l = some (sizeS l) := by
  have := lsize_l0 l hb hg l.length 0 400000000 0 (by omega) (by omega) (by omega) (by omega)
  unfold mosaiclaw13_size.f
  simpa using this

/-- What has been told. -/
structure All (T : Int → Bool) (al : List Sp) (k : Nat) : Prop where
  good : ∀ s ∈ al, goodB s = true
  has : ∀ x, inS al x ↔ T x = true
  size : sizeS al = cnt T 65535
  len : al.length ≤ 65536 * k
theorem All.start : All (fun _ => false) [] 0 := ⟨by simp, fun x => by simp [inS_nil], by rw [cnt_none _ (fun _ => rfl)]; rfl, by simp⟩
theorem All.more {T : Int → Bool} {al : List Sp} {k : Nat} (h : All T al k) : All T al (k + 1) := ⟨h.good, h.has, h.size, by have := h.len; omega⟩
/-- What a piece that is taken brings. -/
structure Once (T2 : Int → Bool) (F L2 al : List Sp) (k : Nat) (E2 en off n : Int) (more : Bool) : Prop where
  w : mosaiclaw13_within.f F off n = some true
  m1 : Part F al
  m2 : Part L2 F
  m3 : Part (al ++ F) L2
  all : All T2 (al ++ F) (k + 1)
  size : sizeS (al ++ F) + sizeS L2 = lim E2
  e1 : more = false → E2 = off + n
  e2 : more = true → E2 = en
  rng : 0 ≤ off ∧ 1 ≤ n ∧ off + n ≤ 65535
theorem once_of {T : Int → Bool} {l al : List Sp} {k : Nat} {en off n : Int} {more : Bool} (h : Inv T l en) (ha : All T al k) (hok : mayA l en off n more = true) : Once (putT T l en off n more) (freshP l en off n more) (leftP l en off n more) al k (endP l en off n more) en off n more := by
  have ok := (may_iff h off n more).1 hok
  obtain ⟨hI, f1, f2⟩ := put_spec h ok
  have e1 : freshP l en off n more = freshA l ⟨off, off + n⟩ := if_pos hok
  have e3 : leftP l en off n more = leftA l en off n more := if_pos hok
  have e4 : endP l en off n more = endA en off n more := if_pos hok
  have e5 : putT T l en off n more = put1T T off n := if_pos hok
  have o1 := ok.off0
  have o2 := ok.n1
  have o3 := ok.lt
  have hfg : ∀ s ∈ freshA l ⟨off, off + n⟩, goodB s = true := right_good f1
  have hlg : ∀ s ∈ leftA l en off n more, goodB s = true := right_good hI.right
  have hfl := rightB_len f1
  have hall : All (put1T T off n) (al ++ freshA l ⟨off, off + n⟩) (k + 1) := by
    refine ⟨fun s hs => ?_, fun x => ?_, ?_, ?_⟩
    · rcases List.mem_append.1 hs with hs | hs
      · exact ha.good s hs
      · exact hfg s hs
    · rw [inS_append, ha.has, f2, put1T_iff]
      cases T x <;> simp
    · rw [sizeS_append, ha.size, size_cnt _ (-1) (by omega) f1]
      refine (cnt_or _ _ _ (fun x => ?_) (fun x hx => ?_) _).symm
      · rw [Bool.eq_iff_iff, Bool.or_eq_true, inB_iff, f2, put1T_iff]
        cases T x <;> simp
      · have := ((f2 x).1 ((inB_iff _ x).1 hx.2)).2
        rw [hx.1] at this
        cases this
    · rw [List.length_append]
      have := ha.len
      omega
  refine ⟨?_, ?_, ?_, ?_, ?_, ?_, ?_, ?_, ⟨o1, o2, o3⟩⟩
  · rw [e1]
    refine within_eval _ (by omega) off n o1 (by omega) o3 fun s hs => ?_
    have g := (goodB_iff s).1 (hfg s hs)
    have h1 := ((f2 s.f0).1 ⟨s, hs, by omega, by omega⟩).1
    have h2 := ((f2 (s.f1 - 1)).1 ⟨s, hs, by omega, by omega⟩).1
    omega
  · rw [e1]
    refine Part.of _ _ hfg ha.good fun x hx => ?_
    have := ((f2 x).1 hx.1).2
    rw [(ha.has x).1 hx.2] at this
    cases this
  · rw [e1, e3]
    refine Part.of _ _ hlg hfg fun x hx => ?_
    have h1 := ((hI.has x).1 hx.1).2
    have h2 := ((f2 x).1 hx.2).1
    rw [put1T_false] at h1
    exact h1.2 h2
  · rw [e1, e3]
    refine Part.of _ _ hall.good hlg fun x hx => ?_
    have h1 := (hall.has x).1 hx.1
    rw [((hI.has x).1 hx.2).2] at h1
    cases h1
  · rw [e1, e5]
    exact hall
  · rw [e1, e3, e4, hall.size, size_cnt _ (-1) (by omega) hI.right]
    have hll := hI.lim_le
    rw [← cnt_or (put1T T off n) (inB (leftA l en off n more)) (fun x => decide (0 ≤ x) && decide (x < lim (endA en off n more))) (fun x => ?_) (fun x hx => ?_) 65535, cnt_one 0 (lim (endA en off n more)) (by omega) (by omega) _ (fun x => by simp) 65535, if_pos (by omega)]
    · omega
    · rw [Bool.eq_iff_iff, Bool.or_eq_true, inB_iff, hI.has, Bool.and_eq_true, decide_eq_true_eq, decide_eq_true_eq]
      constructor
      · intro hx
        cases ht : put1T T off n x with
        | true => exact .inl rfl
        | false => exact .inr ⟨hx, rfl⟩
      · rintro (hx | hx)
        · have hr := hI.rng x hx
          refine ⟨hr.1, ?_⟩
          rcases Int.lt_or_le x (lim (endA en off n more)) with h1 | h1
          · exact h1
          · unfold lim at h1
            split at h1
            · omega
            · rw [hI.top (by omega) x h1] at hx
              cases hx
        · exact hx.1
    · have := ((hI.has x).1 ((inB_iff _ x).1 hx.2)).2
      rw [hx.1] at this
      cases this
  · intro hm
    rw [e4]
    unfold endA
    split
    · rfl
    · rename_i hc
      have : ¬ en < 0 := fun e => hc ⟨hm, e⟩
      exact ((ok.known (by omega)).2 hm).symm
  · intro hm
    rw [e4]
    unfold endA
    rw [if_neg (by rintro ⟨h1, _⟩; rw [hm] at h1; cases h1)]
theorem doneA_eq (l : List Sp) (en : Int) : doneA l en = (decide (0 ≤ en) && ((l.length : Int) == 0)) := by
  unfold doneA
  congr 1
  rw [Bool.eq_iff_iff, decide_eq_true_eq, beq_iff_eq]
  omega

/-- A list of spans that is appended to. -/
def obO (v : Value) (l : List Sp) : Ob where
  own := v.ownBlock.toList
  all := v.ownBlock.toList
  holds w := Kd.R k50 50 w 0 (fun _ => True) v l
  sub := fun _ h => h
  lt := fun w h b hb => by
    obtain ⟨inner, ho⟩ := Kd.R_own h
    exact own_lt ho b (by simpa using hb)
  stab := fun w w' h hs => by
    obtain ⟨h0, inner, ho, hr⟩ := h
    refine Kd.R_mono (ok := fun k => v.ownBlock = some k) (Kd.R_move ⟨fun k hk => hk, inner, ho, hr.imp_ (fun x cs hx => K_M x cs (k50.K_of_M hx))⟩ (fun k hk => hs k (by rw [hk]; simp))) (fun _ _ => trivial)
section
variable {w0 w : World} {Γ : List Ob}
theorem St.own0 (h : St w0 w Γ) : St w0 w (Γ ++ [obO (.slice none 0 0) []]) :=
  h.add (Below.refl _ _) [obO (.slice none 0 0) []] (fun o ho => by obtain rfl := List.mem_singleton.1 ho; exact Kd.R_nil _ _ _ _ _) (fun o ho b hb => by obtain rfl := List.mem_singleton.1 ho; cases (show b ∈ ([] : List Nat) from hb)) (List.pairwise_singleton _ _)
theorem St.grow {w1 : World} (h : St w0 w Γ) (i : Nat) {v v1 : Value} {xs ys : List Sp} (hi : Γ[i]? = some (obO v xs)) (hR : Kd.R k50 50 w1 0 (fun _ => True) v1 ys) (hg : w.grownBy w1 v.ownBlock)
    (hat : v1.ownBlock = v.ownBlock ∨ ∃ b, v1.ownBlock = some b ∧ w.heap.size ≤ b) : St w0 w1 (Γ.set i (obO v1 ys)) := by
  have := h.upd i hi (Touch.grown (Touch.refl _ w) hg (fun k hk => .inl (show k ∈ v.ownBlock.toList by rw [hk]; simp))) (obO v1 ys) [] (fun o ho => by obtain rfl := List.mem_singleton.1 ho; exact hR)
    (fun o ho b hb => by
      obtain rfl := List.mem_singleton.1 ho
      have hb' : b ∈ v1.ownBlock.toList := hb
      rcases hat with e | ⟨k, e, hk⟩
      · rw [e] at hb'; exact .inl hb'
      · rw [e] at hb'
        obtain rfl : b = k := by simpa using hb'
        exact .inr hk)
    (fun o ho b hb => by
      obtain rfl := List.mem_singleton.1 ho
      have hb' : b ∈ v1.ownBlock.toList := hb
      rcases hat with e | ⟨k, e, hk⟩
      · rw [e] at hb'; exact .inl hb'
      · rw [e] at hb'
        obtain rfl : b = k := by simpa using hb'
        exact .inr hk) (List.pairwise_singleton _ _)
  rwa [List.append_nil] at this
theorem quiet_d {f : FuncId} {args : Array Value} {n : Nat} {v : Value}
    (h : Calls Try.prog f args (w.drewN n) fun e w' => e = .returned v ∧ Drawn0 (w.drewN n) w') : Calls Try.prog f args (w.drewN n) fun e w'' => e = .returned v ∧ ∃ m, w'' = w.drewN m :=
  h.mono fun _ _ ⟨he, hm⟩ => ⟨he, by obtain ⟨m, rfl⟩ := hm.out; exact ⟨n + m, by rw [World.drewN_drewN]⟩⟩
theorem quiet_s {f : FuncId} {args : Array Value} {n : Nat} {v : Value}
    (h : Calls Try.prog f args (w.drewN n) fun e w' => e = .returned v ∧ w.drewN n = w') : Calls Try.prog f args (w.drewN n) fun e w'' => e = .returned v ∧ ∃ m, w'' = w.drewN m :=
  h.mono fun _ _ ⟨he, hm⟩ => ⟨he, n, hm.symm⟩
variable {A B : Option Addr} {c d : Nat} {a b : List Sp}
theorem c_right (h : St w0 w Γ) (i : Nat) (hi : Γ[i]? = some (obL A c a)) (hr : rightB a = true) : Calls Try.prog 20 #[.slice A a.length c] w fun e w' => e = .returned (.bool true) ∧ St w0 w' Γ := by
  obtain ⟨h1, h2⟩ := h.get i hi
  exact (mosaiclaw13_right.calls 400000000 A c a true w h1 h2 (lright_eval a hr)).mono fun _ _ ⟨he, hb⟩ => ⟨he, h.below hb.below⟩
theorem c_within (h : St w0 w Γ) (i : Nat) (hi : Γ[i]? = some (obL A c a)) {off n : Int} (hr : mosaiclaw13_within.f a off n = some true) : Calls Try.prog 21 #[.slice A a.length c, .int .i64 off, .int .i64 n] w fun e w' => e = .returned (.bool true) ∧ St w0 w' Γ := by
  obtain ⟨h1, h2⟩ := h.get i hi
  exact (mosaiclaw13_within.calls A c a off n true w h1 h2 hr).mono fun _ _ ⟨he, hb⟩ => ⟨he, h.below hb.below⟩
theorem St.reads (h : St w0 w Γ) (i : Nat) {v : Value} (hi : Γ[i]? = some (obO v a)) : ∃ A c, v = .slice A a.length c ∧ a.length ≤ c ∧ Kd.C k50 w A a.length a := Kd.R_reads (h.get i hi)
theorem c_meetsO (h : St w0 w Γ) (i j : Nat) (hi : Γ[i]? = some (obL A c a)) (hj : Γ[j]? = some (obO (.slice B b.length d) b)) (ha : a.length ≤ 100000000) (hb : b.length ≤ 100000000) (hp : Part a b) :
    Calls Try.prog 22 #[.slice A a.length c, .slice B b.length d] w fun e w' => e = .returned (.bool false) ∧ St w0 w' Γ := by
  obtain ⟨h1, h2⟩ := h.get i hi
  obtain ⟨_, h4, h3⟩ := Kd.R_reads' (h.get j hj)
  exact (mosaiclaw13_meets.calls 100000000000000000 A c a B d b false w h1 h2 h3 h4 (meets_eval a b ha hb hp)).mono fun _ _ ⟨he, hb⟩ => ⟨he, h.below hb.below⟩
theorem c_meetsL (h : St w0 w Γ) (i j : Nat) (hi : Γ[i]? = some (obL A c a)) (hj : Γ[j]? = some (obL B d b)) (ha : a.length ≤ 100000000) (hb : b.length ≤ 100000000) (hp : Part a b) :
    Calls Try.prog 22 #[.slice A a.length c, .slice B b.length d] w fun e w' => e = .returned (.bool false) ∧ St w0 w' Γ := by
  obtain ⟨h1, h2⟩ := h.get i hi
  obtain ⟨h3, h4⟩ := h.get j hj
  exact (mosaiclaw13_meets.calls 100000000000000000 A c a B d b false w h1 h2 h3 h4 (meets_eval a b ha hb hp)).mono fun _ _ ⟨he, hb⟩ => ⟨he, h.below hb.below⟩
theorem d_meets (h : St w0 w Γ) (i j : Nat) (hi : Γ[i]? = some (obO (.slice A a.length c) a)) (hj : Γ[j]? = some (obL B d b)) (ha : a.length ≤ 100000000) (hb : b.length ≤ 100000000) (hp : Part a b) :
    Calls Try.prog 22 #[.slice A a.length c, .slice B b.length d] w fun e w' => e = .returned (.bool false) ∧ Drawn0 w w' := by
  obtain ⟨_, h2, h1⟩ := Kd.R_reads' (h.get i hi)
  obtain ⟨h3, h4⟩ := h.get j hj
  exact mosaiclaw13_meets.calls 100000000000000000 A c a B d b false w h1 h2 h3 h4 (meets_eval a b ha hb hp)
theorem d_sizeO (h : St w0 w Γ) (i : Nat) (hi : Γ[i]? = some (obO (.slice A a.length c) a)) (ha : a.length ≤ 100000000) (hg : ∀ s ∈ a, goodB s = true) :
    Calls Try.prog 23 #[.slice A a.length c] w fun e w' => e = .returned (.int .i64 (sizeS a)) ∧ Drawn0 w w' := by
  obtain ⟨_, h2, h1⟩ := Kd.R_reads' (h.get i hi)
  exact mosaiclaw13_size.calls 400000000 A c a _ w h1 h2 (lsize_eval a ha hg)
theorem d_sizeL (h : St w0 w Γ) (i : Nat) (hi : Γ[i]? = some (obL A c a)) (ha : a.length ≤ 100000000) (hg : ∀ s ∈ a, goodB s = true) :
    Calls Try.prog 23 #[.slice A a.length c] w fun e w' => e = .returned (.int .i64 (sizeS a)) ∧ Drawn0 w w' := by
  obtain ⟨h1, h2⟩ := h.get i hi
  exact mosaiclaw13_size.calls 400000000 A c a _ w h1 h2 (lsize_eval a ha hg)
end
end Go.Proofs.Ytdlgocieecfpbaa.Q
