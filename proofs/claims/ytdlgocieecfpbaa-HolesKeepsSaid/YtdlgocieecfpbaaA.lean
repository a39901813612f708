/- What a datagram's list is, and what a piece makes of it, on plain lists: the program's way, and what it means. No condition. -/
import Derived.Test.YtdlgocieecfpbaaE
namespace Go.Proofs.Ytdlgocieecfpbaa.Q
open Go.RowKit Go.Proofs.YtdlgocieecfpbaaW.PrintWords Go.Proofs.YtdlgocieecfpbaaW.PrintLast Go.Proofs.YtdlgocieecfpbaaW.PrintMore

/-- May a piece come? -/
def mayA (l : List Sp) (en off n : Int) (more : Bool) : Bool :=
  if off < 0 ∨ n < 1 ∨ 65535 < off ∨ 65535 - off < n then false
  else if 0 ≤ en then (if more = true then decide (off + n ≤ en) else decide (off + n = en))
  else if more = true ∨ off + n = 65535 then true else hasA l ⟨off + n, 65535⟩
def freshF (s h : Sp) : List Sp := if mx h.f0 s.f0 < mn h.f1 s.f1 then [⟨mx h.f0 s.f0, mn h.f1 s.f1⟩] else []
/-- What of a piece is new. -/
def freshA (l : List Sp) (s : Sp) : List Sp := l.flatMap (freshF s)
def endA (en off n : Int) (more : Bool) : Int := if more = false ∧ en < 0 then off + n else en
def leftA (l : List Sp) (en off n : Int) (more : Bool) : List Sp :=
  if more = false ∧ en < 0 ∧ off + n < 65535 then (cutA (cutA l ⟨off, off + n⟩).1 ⟨off + n, 65535⟩).1 else (cutA l ⟨off, off + n⟩).1

def lim (en : Int) : Int := if en < 0 then 65535 else en
/-- What has come (T), the length (en); the holes are right. -/
structure Inv (T : Int → Bool) (l : List Sp) (en : Int) : Prop where
  right : rightB l = true
  has : ∀ x, inS l x ↔ (0 ≤ x ∧ x < lim en) ∧ T x = false
  len : en = -1 ∨ (1 ≤ en ∧ en ≤ 65535)
  top : 0 ≤ en → ∀ x, en ≤ x → T x = false
  rng : ∀ x, T x = true → 0 ≤ x ∧ x < 65535
structure OkT (T : Int → Bool) (en off n : Int) (more : Bool) : Prop where
  off0 : 0 ≤ off
  n1 : 1 ≤ n
  lt : off + n ≤ 65535
  known : 0 ≤ en → (more = true → off + n ≤ en) ∧ (more = false → off + n = en)
  new : en < 0 → more = false → ∀ x, off + n ≤ x → T x = false
def put1T (T : Int → Bool) (off n : Int) : Int → Bool := fun x => T x || (decide (off ≤ x) && decide (x < off + n))
theorem put1T_iff (T : Int → Bool) (off n x : Int) : put1T T off n x = true ↔ T x = true ∨ (off ≤ x ∧ x < off + n) := by
  simp [put1T]
theorem put1T_false (T : Int → Bool) (off n x : Int) : put1T T off n x = false ↔ T x = false ∧ ¬ (off ≤ x ∧ x < off + n) := by
  rw [← Bool.not_eq_true, put1T_iff, ← Bool.not_eq_true]
  exact not_or
theorem Inv.start : Inv (fun _ => false) [⟨0, 65535⟩] (-1) where
  right := by decide
  has := fun x => by rw [inS_one]; simp [lim]
  len := .inl rfl
  top := fun _ _ _ => rfl
  rng := fun _ h => by cases h
theorem Inv.lim_le {T : Int → Bool} {l : List Sp} {en : Int} (h : Inv T l en) : 0 < lim en ∧ lim en ≤ 65535 := by
  unfold lim
  have := h.len
  split <;> omega
theorem has_iff {T : Int → Bool} {l : List Sp} {en : Int} (h : Inv T l en) (hen : en < 0) (a : Int) (h0 : 0 ≤ a) (h1 : a < 65535) : hasA l ⟨a, 65535⟩ = true ↔ ∀ x, a ≤ x → T x = false := by
  have hl : lim en = 65535 := if_pos hen
  have hg : goodB ⟨a, 65535⟩ = true := (goodB_iff _).2 ⟨h0, h1, by show (65535 : Int) ≤ 65535; omega⟩
  unfold hasA
  rw [h.right, hg, Bool.true_and, Bool.true_and, List.any_eq_true]
  constructor
  · rintro ⟨x, hx, hc⟩ n hn
    rw [Bool.and_eq_true, decide_eq_true_eq, decide_eq_true_eq] at hc
    have hc1 : x.f0 ≤ a := hc.1
    have hc2 : 65535 ≤ x.f1 := hc.2
    rcases Int.lt_or_le n 65535 with hlt | hge
    · exact ((h.has n).1 ⟨x, hx, by omega, by omega⟩).2
    · cases ht : T n with
      | false => rfl
      | true => have := h.rng n ht; omega
  · intro hT
    obtain ⟨x, hx, e1, e2⟩ := one_holds l (-1) a 65535 h.right h1 (fun n n1 n2 => (h.has n).2 ⟨⟨by omega, by omega⟩, hT n n1⟩)
    refine ⟨x, hx, ?_⟩
    rw [Bool.and_eq_true, decide_eq_true_eq, decide_eq_true_eq]
    exact ⟨e1, e2⟩
theorem may_iff {T : Int → Bool} {l : List Sp} {en : Int} (h : Inv T l en) (off n : Int) (more : Bool) : mayA l en off n more = true ↔ OkT T en off n more := by
  have hlen := h.len
  unfold mayA
  by_cases c0 : off < 0 ∨ n < 1 ∨ 65535 < off ∨ 65535 - off < n
  · rw [if_pos c0]
    constructor
    · intro h'; cases h'
    · intro h'
      have := h'.off0
      have := h'.n1
      have := h'.lt
      omega
  · rw [if_neg c0]
    by_cases c1 : 0 ≤ en
    · rw [if_pos c1]
      cases more with
      | true =>
        rw [if_pos rfl, decide_eq_true_eq]
        exact ⟨fun h' => ⟨by omega, by omega, by omega, fun _ => ⟨fun _ => h', fun e => by cases e⟩, fun e => by omega⟩, fun h' => (h'.known c1).1 rfl⟩
      | false =>
        rw [if_neg (by simp), decide_eq_true_eq]
        exact ⟨fun h' => ⟨by omega, by omega, by omega, fun _ => ⟨(fun e => by cases e), fun _ => h'⟩, fun e => by omega⟩, fun h' => (h'.known c1).2 rfl⟩
    · rw [if_neg c1]
      by_cases c2 : more = true ∨ off + n = 65535
      · rw [if_pos c2]
        refine ⟨fun _ => ⟨by omega, by omega, by omega, fun e => absurd e c1, fun _ hm x hx => ?_⟩, fun _ => rfl⟩
        rcases c2 with c2 | c2
        · rw [c2] at hm; cases hm
        · cases ht : T x with
          | false => rfl
          | true => have := h.rng x ht; omega
      · rw [if_neg c2]
        have c3 : more ≠ true ∧ off + n ≠ 65535 := ⟨fun e => c2 (.inl e), fun e => c2 (.inr e)⟩
        rw [has_iff h (by omega) (off + n) (by omega) (by omega)]
        refine ⟨fun h' => ⟨by omega, by omega, by omega, fun e => absurd e c1, fun _ _ => h'⟩, fun h' => h'.new (by omega) ?_⟩
        cases more
        · rfl
        · exact absurd rfl c3.1
theorem inS_flat (f : Sp → List Sp) (l : List Sp) (x : Int) : inS (l.flatMap f) x ↔ ∃ s ∈ l, inS (f s) x := by
  unfold inS
  constructor
  · rintro ⟨s, hs, h⟩
    obtain ⟨t, ht, hst⟩ := List.mem_flatMap.1 hs
    exact ⟨t, ht, s, hst, h⟩
  · rintro ⟨t, ht, s, hst, h⟩
    exact ⟨s, List.mem_flatMap.2 ⟨t, ht, hst⟩, h⟩
theorem freshF_spec (s h : Sp) (hg : goodB h = true) : (freshF s h = [] ∨ ∃ a b, freshF s h = [⟨a, b⟩] ∧ h.f0 ≤ a ∧ a < b ∧ b ≤ h.f1) ∧ ∀ x, inS (freshF s h) x ↔ (h.f0 ≤ x ∧ x < h.f1) ∧ (s.f0 ≤ x ∧ x < s.f1) := by
  have hh := (goodB_iff h).1 hg
  unfold freshF
  have h1 := mx_cases h.f0 s.f0
  have h2 := mn_cases h.f1 s.f1
  by_cases c : mx h.f0 s.f0 < mn h.f1 s.f1
  · rw [if_pos c]
    refine ⟨.inr ⟨_, _, rfl, by omega, c, by omega⟩, fun x => ?_⟩
    rw [inS_one]
    show mx h.f0 s.f0 ≤ x ∧ x < mn h.f1 s.f1 ↔ _
    omega
  · rw [if_neg c]
    refine ⟨.inl rfl, fun x => ⟨fun h' => absurd h' (inS_nil x), fun h' => ?_⟩⟩
    exfalso
    omega
theorem fresh_spec (s : Sp) : ∀ (l : List Sp) (a : Int), -1 ≤ a → rightFrom a l = true → rightFrom a (freshA l s) = true ∧ ∀ x, inS (freshA l s) x ↔ inS l x ∧ (s.f0 ≤ x ∧ x < s.f1)
  | [], a, _, _ => ⟨rfl, fun x => by simp [freshA, inS_nil]⟩
  | h :: l, a, ha, hr => by
    rw [rightFrom_cons] at hr
    obtain ⟨h1, h2, h3⟩ := hr
    have hg := (goodB_iff h).1 h2
    obtain ⟨i1, i2⟩ := fresh_spec s l h.f1 (by omega) h3
    obtain ⟨j1, j2⟩ := freshF_spec s h h2
    have e : freshA (h :: l) s = freshF s h ++ freshA l s := rfl
    rw [e]
    refine ⟨?_, fun x => ?_⟩
    · rcases j1 with j1 | ⟨p, q, j1, k1, k2, k3⟩
      · rw [j1]
        exact rightFrom_mono (show a ≤ h.f1 by omega) i1
      · rw [j1]
        show rightFrom a (⟨p, q⟩ :: freshA l s) = true
        rw [rightFrom_cons]
        refine ⟨by show a < p; omega, (goodB_iff _).2 ⟨by show 0 ≤ p; omega, k2, by show q ≤ 65535; omega⟩, ?_⟩
        exact rightFrom_mono (show q ≤ h.f1 from k3) i1
    · rw [inS_append, j2, i2, inS_cons]
      constructor
      · rintro (⟨x1, x2⟩ | ⟨x1, x2⟩)
        · exact ⟨.inl x1, x2⟩
        · exact ⟨.inr x1, x2⟩
      · rintro ⟨x1 | x1, x2⟩
        · exact .inl ⟨x1, x2⟩
        · exact .inr ⟨x1, x2⟩
theorem cutA_spec {l : List Sp} (h : rightB l = true) (s : Sp) (hg : goodB s = true) : rightB (cutA l s).1 = true ∧ ∀ x, inS (cutA l s).1 x ↔ inS l x ∧ ¬ (s.f0 ≤ x ∧ x < s.f1) := by
  have e : cutA l s = (cutS l s, 0) := by unfold cutA; rw [h, hg]; rfl
  rw [e]
  exact cutS_spec s ((goodB_iff s).1 hg).2.1 l (-1) h
/-- What a piece that may come makes of the list. -/
theorem put_spec {T : Int → Bool} {l : List Sp} {en off n : Int} {more : Bool} (h : Inv T l en) (ok : OkT T en off n more) :
    Inv (put1T T off n) (leftA l en off n more) (endA en off n more) ∧ rightB (freshA l ⟨off, off + n⟩) = true ∧ ∀ x, inS (freshA l ⟨off, off + n⟩) x ↔ (off ≤ x ∧ x < off + n) ∧ T x = false := by
  have o1 := ok.off0
  have o2 := ok.n1
  have o3 := ok.lt
  have hlen := h.len
  have hll := h.lim_le
  have hg : goodB ⟨off, off + n⟩ = true := (goodB_iff _).2 ⟨o1, by show off < off + n; omega, o3⟩
  have hto : off + n ≤ lim en := by
    unfold lim
    split
    · exact o3
    · rename_i hn
      have := ok.known (by omega)
      cases more with
      | true => exact this.1 rfl
      | false => have := this.2 rfl; omega
  obtain ⟨f1, f2⟩ := fresh_spec ⟨off, off + n⟩ l (-1) (by omega) h.right
  obtain ⟨c1, c2⟩ := cutA_spec h.right ⟨off, off + n⟩ hg
  refine ⟨?_, f1, fun x => ?_⟩
  · have hnew : ∀ x, 0 ≤ endA en off n more → endA en off n more ≤ x → T x = false := by
      unfold endA
      intro x
      split
      · rename_i hc
        exact fun _ hx => ok.new hc.2 hc.1 x hx
      · exact fun h0 hx => h.top h0 x hx
    have hend : endA en off n more = -1 ∧ en = -1 ∨ (1 ≤ endA en off n more ∧ endA en off n more ≤ 65535 ∧ off + n ≤ endA en off n more) := by
      unfold endA
      split
      · exact .inr ⟨by omega, o3, by omega⟩
      · rename_i hc
        rcases hlen with he | he
        · exact .inl ⟨he, he⟩
        · refine .inr ⟨he.1, he.2, ?_⟩
          have : lim en = en := if_neg (by omega)
          omega
    refine ⟨?_, fun x => ?_, ?_, fun h0 x hx => ?_, fun x hx => ?_⟩
    · unfold leftA
      split
      · rename_i hc
        refine (cutA_spec c1 ⟨off + n, 65535⟩ ((goodB_iff _).2 ⟨by show 0 ≤ off + n; omega, hc.2.2, by show (65535 : Int) ≤ 65535; omega⟩)).1
      · exact c1
    · have key : inS (leftA l en off n more) x ↔ inS l x ∧ ¬ (off ≤ x ∧ x < off + n) ∧ (more = false ∧ en < 0 → x < off + n) := by
        unfold leftA
        split
        · rename_i hc
          rw [(cutA_spec c1 ⟨off + n, 65535⟩ ((goodB_iff _).2 ⟨by show 0 ≤ off + n; omega, hc.2.2, by show (65535 : Int) ≤ 65535; omega⟩)).2 x, c2]
          show (_ ∧ ¬ (off ≤ x ∧ x < off + n)) ∧ ¬ (off + n ≤ x ∧ x < 65535) ↔ _
          constructor
          · rintro ⟨⟨x1, x2⟩, x3⟩
            have := ((h.has x).1 x1).1
            exact ⟨x1, x2, fun _ => by omega⟩
          · rintro ⟨x1, x2, x3⟩
            have := x3 ⟨hc.1, hc.2.1⟩
            exact ⟨⟨x1, x2⟩, by omega⟩
        · rename_i hc
          rw [c2]
          show _ ∧ ¬ (off ≤ x ∧ x < off + n) ↔ _
          constructor
          · rintro ⟨x1, x2⟩
            have := ((h.has x).1 x1).1
            refine ⟨x1, x2, fun hm => ?_⟩
            have : off + n = 65535 := by
              have : ¬ off + n < 65535 := fun hh => hc ⟨hm.1, hm.2, hh⟩
              omega
            omega
          · rintro ⟨x1, x2, _⟩
            exact ⟨x1, x2⟩
      rw [key, h.has, put1T_false]
      have hl : lim (endA en off n more) = if more = false ∧ en < 0 then off + n else lim en := by
        unfold endA
        split
        · unfold lim; rw [if_neg (by omega)]
        · rfl
      rw [hl]
      split
      · rename_i hc
        constructor
        · rintro ⟨⟨x1, x2⟩, x3, x4⟩
          have := x4 hc
          exact ⟨⟨x1.1, this⟩, x2, x3⟩
        · rintro ⟨x1, x2, x3⟩
          exact ⟨⟨⟨x1.1, by omega⟩, x2⟩, x3, fun _ => x1.2⟩
      · rename_i hc
        constructor
        · rintro ⟨⟨x1, x2⟩, x3, _⟩
          exact ⟨x1, x2, x3⟩
        · rintro ⟨x1, x2, x3⟩
          exact ⟨⟨x1, x2⟩, x3, fun hm => absurd hm hc⟩
    · omega
    · rw [put1T_false]
      exact ⟨hnew x h0 hx, by omega⟩
    · rcases (put1T_iff _ _ _ _).1 hx with hx | hx
      · exact h.rng x hx
      · omega
  · rw [f2, h.has]
    show _ ∧ (off ≤ x ∧ x < off + n) ↔ _
    constructor
    · rintro ⟨⟨x1, x2⟩, x3⟩
      exact ⟨x3, x2⟩
    · rintro ⟨x1, x2⟩
      exact ⟨⟨by omega, x2⟩, x1⟩
theorem leftA_right {l : List Sp} {en off n : Int} {more : Bool} (h : rightB l = true) (ok : mayA l en off n more = true) : rightB (leftA l en off n more) = true := by
  have hr : 0 ≤ off ∧ 1 ≤ n ∧ off + n ≤ 65535 := by
    unfold mayA at ok
    split at ok
    · cases ok
    · omega
  have c1 := (cutA_spec h ⟨off, off + n⟩ ((goodB_iff _).2 ⟨hr.1, by show off < off + n; omega, hr.2.2⟩)).1
  unfold leftA
  split
  · rename_i hc
    exact (cutA_spec c1 ⟨off + n, 65535⟩ ((goodB_iff _).2 ⟨by show 0 ≤ off + n; omega, hc.2.2, by show (65535 : Int) ≤ 65535; omega⟩)).1
  · exact c1
theorem freshA_right {l : List Sp} (h : rightB l = true) (s : Sp) : rightB (freshA l s) = true := (fresh_spec s l (-1) (by omega) h).1
end Go.Proofs.Ytdlgocieecfpbaa.Q
