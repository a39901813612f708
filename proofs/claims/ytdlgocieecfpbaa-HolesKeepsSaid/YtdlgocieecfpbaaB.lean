/- The document's list and the program's, of one datagram: they tell the same, and stay so. No condition. -/
import Derived.Test.YtdlgocieecfpbaaR4
namespace Go.Proofs.Ytdlgocieecfpbaa.Q
open Go.RowKit Go.Proofs.YtdlgocieecfpbaaW.PrintWords Go.Proofs.YtdlgocieecfpbaaW.PrintLast Go.Proofs.YtdlgocieecfpbaaW.PrintMore Go.Proofs.Ytdlgocieecfpbaa.SL

structure RInv (T : Int → Bool) (bits : List Bool) (en ends top : Int) : Prop where
  ends : ends = en + 1
  len : bits.length = 65535
  bit : ∀ x : Int, 0 ≤ x → x < 65535 → bits.getD x.toNat false = T x
  t0 : 0 ≤ top ∧ top ≤ 65535
  t1 : ∀ x, T x = true → x < top
  t2 : 0 < top → T (top - 1) = true
theorem RInv.start : RInv (fun _ => false) zBits (-1) 0 0 where
  ends := rfl
  len := List.length_replicate
  bit := fun x h0 h1 => by
    have : x.toNat < 65535 := by omega
    unfold zBits
    rw [List.getD_eq_getElem?_getD, List.getElem?_replicate, if_pos this]
    rfl
  t0 := ⟨Int.le_refl _, by omega⟩
  t1 := fun _ h => by cases h
  t2 := fun h => by omega
theorem rmay_iff {T : Int → Bool} {l : List Sp} {bits : List Bool} {en ends top : Int} (h : Inv T l en) (r : RInv T bits en ends top) (off n : Int) (more : Bool) : rmayA ends top off n more = true ↔ OkT T en off n more := by
  have hlen := h.len
  have hends := r.ends
  unfold rmayA
  by_cases c0 : off < 0 ∨ n < 1 ∨ 65535 < off ∨ 65535 < n ∨ 65535 < off + n
  · rw [if_pos c0]
    constructor
    · intro h'; cases h'
    · intro h'
      have := h'.off0
      have := h'.n1
      have := h'.lt
      omega
  · rw [if_neg c0]
    by_cases c1 : 0 < ends
    · rw [if_pos c1]
      cases more with
      | true =>
        rw [if_pos rfl, decide_eq_true_eq]
        exact ⟨fun h' => ⟨by omega, by omega, by omega, fun _ => ⟨fun _ => by omega, (fun e => by cases e)⟩, fun e => by omega⟩, fun h' => by have := (h'.known (by omega)).1 rfl; omega⟩
      | false =>
        rw [if_neg (by simp), decide_eq_true_eq]
        exact ⟨fun h' => ⟨by omega, by omega, by omega, fun _ => ⟨(fun e => by cases e), fun _ => by omega⟩, fun e => by omega⟩, fun h' => by have := (h'.known (by omega)).2 rfl; omega⟩
    · rw [if_neg c1, Bool.or_eq_true, decide_eq_true_eq]
      constructor
      · intro h'
        refine ⟨by omega, by omega, by omega, fun e => by omega, fun _ hm x hx => ?_⟩
        rcases h' with h' | h'
        · rw [h'] at hm; cases hm
        · cases ht : T x with
          | false => rfl
          | true => have := r.t1 x ht; omega
      · intro h'
        cases more with
        | true => exact .inl rfl
        | false =>
          right
          have hn := h'.new (by omega) rfl
          have h0 := h'.off0
          have h1 := h'.n1
          rcases Int.lt_or_le (off + n) top with h2 | h2
          · have h3 := r.t2 (by omega)
            rw [hn (top - 1) (by omega)] at h3
            cases h3
          · exact h2
theorem may_eq {T : Int → Bool} {l : List Sp} {bits : List Bool} {en ends top : Int} (h : Inv T l en) (r : RInv T bits en ends top) (off n : Int) (more : Bool) : rmayA ends top off n more = mayA l en off n more := by
  rw [Bool.eq_iff_iff, rmay_iff h r, may_iff h]
theorem RInv.put {T : Int → Bool} {l : List Sp} {bits : List Bool} {en ends top off n : Int} {more : Bool} (h : Inv T l en) (r : RInv T bits en ends top) (ok : OkT T en off n more) :
    RInv (put1T T off n) (setB bits off.toNat (off + n).toNat) (endA en off n more) (if more = true then ends else off + n + 1) (if top < off + n then off + n else top) := by
  have o1 := ok.off0
  have o2 := ok.n1
  have o3 := ok.lt
  have hlen := h.len
  have r0 := r.t0
  refine ⟨?_, by rw [setB_len]; exact r.len, fun x h0 h1 => ?_, ?_, fun x hx => ?_, fun h0 => ?_⟩
  · unfold endA
    have he := r.ends
    cases more with
    | true => rw [if_pos rfl, if_neg (by simp)]; exact he
    | false =>
      rw [if_neg (by simp)]
      split
      · rfl
      · rename_i hc
        have h1 : ¬ en < 0 := fun e => hc ⟨rfl, e⟩
        have := (ok.known (by omega)).2 rfl
        omega
  · rw [setB_get _ _ _ _ (by rw [r.len]; omega), r.bit x h0 h1]
    unfold put1T
    have e1 : decide (off.toNat ≤ x.toNat) = decide (off ≤ x) := by rw [decide_eq_decide]; omega
    have e2 : decide (x.toNat < (off + n).toNat) = decide (x < off + n) := by rw [decide_eq_decide]; omega
    rw [e1, e2]
  · split <;> omega
  · rcases (put1T_iff _ _ _ _).1 hx with hx | hx
    · have := r.t1 x hx
      split <;> omega
    · split <;> omega
  · rw [put1T_iff]
    split at h0 <;> split <;> first | exact .inr (by omega) | exact .inl (r.t2 (by omega)) | omega
theorem SpA.iff {T : Int → Bool} {bits : List Bool} {en ends top a b : Int} {o : List Sp} (r : RInv T bits en ends top) (s : SpA bits false a b o) (h0 : 0 ≤ a) (h1 : b ≤ 65535) (x : Int) : inS o x ↔ (a ≤ x ∧ x < b) ∧ T x = false := by
  rw [s.has]
  constructor
  · rintro ⟨h2, h3⟩
    have hx : x.toNat < bits.length := by rw [r.len]; omega
    rw [← r.bit x (by omega) (by omega)]
    rw [List.getD_eq_getElem?_getD, List.getElem?_eq_getElem hx] at h3 ⊢
    exact ⟨h2, h3⟩
  · rintro ⟨h2, h3⟩
    have hx : x.toNat < bits.length := by rw [r.len]; omega
    rw [← r.bit x (by omega) (by omega)] at h3
    rw [List.getD_eq_getElem?_getD, List.getElem?_eq_getElem hx] at h3 ⊢
    exact ⟨h2, h3⟩
theorem fresh_eq {T : Int → Bool} {l : List Sp} {bits : List Bool} {en ends top off n : Int} {more : Bool} {o : List Sp} (h : Inv T l en) (r : RInv T bits en ends top) (ok : OkT T en off n more) (s : SpA bits false off (off + n) o) : o = freshA l ⟨off, off + n⟩ := by
  obtain ⟨_, f1, f2⟩ := put_spec h ok
  refine right_unique s.right f1 fun x => ?_
  rw [f2, SpA.iff r s ok.off0 ok.lt]
theorem holes_eq {T : Int → Bool} {l : List Sp} {bits : List Bool} {en ends top : Int} {o : List Sp} (h : Inv T l en) (r : RInv T bits en ends top) (s : SpA bits false 0 (rlim ends) o) : o = l := by
  have hl : rlim ends = lim en := by
    have := r.ends
    unfold rlim lim
    split <;> split <;> omega
  have hll := h.lim_le
  rw [hl] at s
  refine right_unique s.right h.right fun x => ?_
  rw [SpA.iff r s (Int.le_refl _) hll.2, h.has]
/-- What Put tells and leaves, whatever the piece. -/
def freshP (l : List Sp) (en off n : Int) (more : Bool) : List Sp := if mayA l en off n more = true then freshA l ⟨off, off + n⟩ else []
def errP (l : List Sp) (en off n : Int) (more : Bool) : Int := if mayA l en off n more = true then 0 else 1
def leftP (l : List Sp) (en off n : Int) (more : Bool) : List Sp := if mayA l en off n more = true then leftA l en off n more else l
def endP (l : List Sp) (en off n : Int) (more : Bool) : Int := if mayA l en off n more = true then endA en off n more else en
def putT (T : Int → Bool) (l : List Sp) (en off n : Int) (more : Bool) : Int → Bool := if mayA l en off n more = true then put1T T off n else T
theorem Inv.next {T : Int → Bool} {l : List Sp} {en : Int} (h : Inv T l en) (off n : Int) (more : Bool) : Inv (putT T l en off n more) (leftP l en off n more) (endP l en off n more) := by
  unfold putT leftP endP
  split
  · rename_i hc
    exact (put_spec h ((may_iff h off n more).1 hc)).1
  · exact h
theorem freshP_right {l : List Sp} (h : rightB l = true) (en off n : Int) (more : Bool) : rightB (freshP l en off n more) = true := by
  unfold freshP
  split
  · exact freshA_right h _
  · rfl
end Go.Proofs.Ytdlgocieecfpbaa.Q
