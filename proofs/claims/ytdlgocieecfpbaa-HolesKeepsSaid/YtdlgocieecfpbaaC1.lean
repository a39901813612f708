/- The walks of the program's list of holes: New, may, Put, Holes, End, Done: what each computes, and what it leaves of memory. No condition but the list's length. -/
import Derived.Test.YtdlgocieecfpbaaA
import Derived.Test.YtdlgocieecfpbaaSL
import Derived.Test.YtdlgocieecfpbaaQFspanHas
import Derived.Handy
import Derived.Shelf.Abstract
import Derived.Deep.RegionHeld3
import Derived.Deep.RegionWith
import Derived.Deep.RegionLaw
import Derived.Deep.DrawnRows
namespace Go.Proofs.Ytdlgocieecfpbaa.Q
open Go.RowKit Go.Proofs.YtdlgocieecfpbaaW.PrintWords Go.Proofs.YtdlgocieecfpbaaW.PrintLast Go.Proofs.YtdlgocieecfpbaaW.PrintMore Go.Proofs.Ytdlgocieecfpbaa.SL
attribute [local go_sem ↓] Go.wp_at_zero Go.wp_at_succ

/-- The block of a list that is read. -/
def blk (A : Option Addr) (l : List Sp) : List Nat := if l = [] then [] else (A.map (·.block)).toList
theorem add_block (ad : Addr) (i : Nat) : (ad.add i).block = ad.block := by unfold Addr.add; split <;> rfl
theorem C_same {w w' : World} {A : Option Addr} {l : List Sp} (h : Kd.C k50 w A l.length l) (hs : ∀ b ∈ blk A l, w'.heap[b]? = w.heap[b]?) : Kd.C k50 w' A l.length l := by
  refine ⟨h.1, h.2.1, fun hn => ?_⟩
  obtain ⟨ad, e, hc⟩ := h.2.2 hn
  refine ⟨ad, e, fun j p hp => ?_⟩
  obtain ⟨c, h1, h2, h3⟩ := hc j p hp
  have hb : w'.heap[ad.block]? = w.heap[ad.block]? := hs ad.block (by unfold blk; rw [if_neg (by rintro rfl; simp at hn), e]; simp)
  exact ⟨c, h1, h2, fun i u hu => (World.cell?_of_block (w := w) (by rw [add_block]; exact hb)).trans (h3 i u hu)⟩
theorem C_lt {w : World} {A : Option Addr} {l : List Sp} (h : Kd.C k50 w A l.length l) : ∀ b ∈ blk A l, b < w.heap.size := by
  intro b hb
  unfold blk at hb
  split at hb
  · cases hb
  · rename_i hne
    have hn : 0 < l.length := List.length_pos_iff.2 hne
    obtain ⟨ad, e, hc⟩ := h.2.2 hn
    rw [e] at hb
    obtain rfl : b = ad.block := by simpa using hb
    obtain ⟨c, h1, h2, h3⟩ := hc 0 _ (List.getElem?_eq_getElem hn)
    have hc0 : c[0]? = some (.int .i64 (l[0]).f0) := by
      obtain rfl := k50_open h2
      rfl
    have := World.block_lt_of_cell? w _ (h3 0 _ hc0)
    rwa [add_block] at this
/-- A list of spans that is read. -/
def obL (A : Option Addr) (c : Nat) (l : List Sp) : Ob where
  own := []
  all := blk A l
  holds w := Kd.C k50 w A l.length l ∧ l.length ≤ c
  sub := fun _ h => by cases h
  lt := fun w h => C_lt h.1
  stab := fun w w' h hs => ⟨C_same h.1 hs, h.2⟩
/-- The program's list of holes behind a pointer. -/
def obH (p : Nat) (A : Option Addr) (c : Nat) (l : List Sp) (en : Int) : Ob where
  own := [p]
  all := p :: blk A l
  holds w := w.heap[p]? = some (.cells #[.slice A l.length c, .int .i64 en] 52 (0, 0)) ∧ Kd.C k50 w A l.length l ∧ l.length ≤ c ∧ p ∉ blk A l
  sub := fun b h => by obtain rfl := List.mem_singleton.1 h; exact List.mem_cons_self
  lt := fun w h b hb => by
    rcases List.mem_cons.1 hb with rfl | hb
    · exact lt_of_block h.1
    · exact C_lt h.2.1 b hb
  stab := fun w w' h hs => ⟨(hs p List.mem_cons_self).trans h.1, C_same h.2.1 (fun b hb => hs b (List.mem_cons_of_mem _ hb)), h.2.2⟩

theorem two_cells {w : World} {p : Nat} {x y : Value} {t : TypeId} {f : Nat × Nat} (h : w.heap[p]? = some (.cells #[x, y] t f)) : w.cell? ⟨p, 0, none⟩ = some x ∧ w.cell? ⟨p, 1, none⟩ = some y :=
  ⟨cell_of_row w p 0 _ _ _ h, cell_of_row w p 1 _ _ _ h⟩
theorem two_free {w : World} {p : Nat} {x y : Value} {t : TypeId} (h : w.heap[p]? = some (.cells #[x, y] t (0, 0))) (o : Nat) : w.frozen? ⟨p, o, none⟩ = false := by simp [World.frozen?, h]

set_option maxHeartbeats 1000000 in
theorem new_calls (w : World) : Calls Try.prog 8 #[] w fun e w' => e = .returned (.pointer (some ⟨w.heap.size + 1, 0, none⟩)) ∧
    w' = (w.alloc (.cells #[.int .i64 0, .int .i64 65535] 50)).alloc (.cells #[.slice (some ⟨w.heap.size, 0, none⟩) 1 1, .int .i64 (-1)] 52) := by
  have hu := Try.underlying50
  go_enter Try.func8, Try.ntmps8
  go_wp2
  go_ret
  exact ⟨rfl, rfl⟩
set_option maxHeartbeats 2000000 in
theorem may_calls (p : Nat) (A : Option Addr) (c : Nat) (l : List Sp) (en off n : Int) (more : Bool) (w : World) (hp : w.heap[p]? = some (.cells #[.slice A l.length c, .int .i64 en] 52 (0, 0)))
    (hr : Kd.C k50 w A l.length l) (hc : l.length ≤ c) :
    Calls Try.prog 29 #[.pointer (some ⟨p, 0, none⟩), .int .i64 off, .int .i64 n, .bool more] w fun e w' => e = .returned (.bool (mayA l en off n more)) ∧ Below w.heap.size w w' := by
  obtain ⟨c0, c1⟩ := two_cells hp
  have hu := Try.underlying50
  have HP := Lib.hid hp
  have HR := Lib.hid hr
  clear hp hr
  by_cases a0 : off < 0
  · have hfin : mayA l en off n more = false := if_pos (.inl a0)
    rw [hfin]
    clear hfin
    go_enter Try.func29, Try.ntmps29
    go_wp2
    go_ret
    exact ⟨rfl, Below.refl _ _⟩
  by_cases a1 : n < 1
  · have hfin : mayA l en off n more = false := if_pos (.inr (.inl a1))
    rw [hfin]
    clear hfin
    go_enter Try.func29, Try.ntmps29
    go_wp2
    go_ret
    exact ⟨rfl, Below.refl _ _⟩
  by_cases a2 : 65535 < off
  · have hfin : mayA l en off n more = false := if_pos (.inr (.inr (.inl a2)))
    rw [hfin]
    clear hfin
    go_enter Try.func29, Try.ntmps29
    go_wp2
    go_ret
    exact ⟨rfl, Below.refl _ _⟩
  by_cases a3 : 65535 - off < n
  · have hfin : mayA l en off n more = false := if_pos (.inr (.inr (.inr a3)))
    rw [hfin]
    clear hfin
    go_enter Try.func29, Try.ntmps29
    go_wp2
    go_ret
    exact ⟨rfl, Below.refl _ _⟩
  have b0 : 0 ≤ off := by omega
  have b1 : 1 ≤ n := by omega
  have b2 : off ≤ 65535 := by omega
  have b3 : off + n ≤ 65535 := by omega
  have b4 : n ≤ 65535 - off := by omega
  have hno : ¬ (off < 0 ∨ n < 1 ∨ 65535 < off ∨ 65535 - off < n) := by omega
  by_cases a4 : 0 ≤ en
  · cases more with
    | true =>
      have hfin : mayA l en off n true = decide (off + n ≤ en) := by unfold mayA; rw [if_neg hno, if_pos a4, if_pos rfl]
      have HF := Lib.hid hfin
      clear hfin hno
      go_enter Try.func29, Try.ntmps29
      go_wp2
      go_ret
      exact ⟨by rw [HF.out]; rfl, Below.refl _ _⟩
    | false =>
      have hfin : mayA l en off n false = (off + n == en) := by unfold mayA; rw [if_neg hno, if_pos a4, if_neg (by simp)]; rfl
      have HF := Lib.hid hfin
      clear hfin hno
      go_enter Try.func29, Try.ntmps29
      go_wp2
      go_ret
      exact ⟨by rw [HF.out]; rfl, Below.refl _ _⟩
  have a5 : en < 0 := by omega
  cases more with
  | true =>
    have hfin : mayA l en off n true = true := by unfold mayA; rw [if_neg hno, if_neg a4, if_pos (.inl rfl)]
    have HF := Lib.hid hfin
    clear hfin hno a4
    go_enter Try.func29, Try.ntmps29
    go_wp2
    go_ret
    exact ⟨by rw [HF.out]; rfl, Below.refl _ _⟩
  | false =>
    by_cases a6 : off + n = 65535
    · have hfin : mayA l en off n false = true := by unfold mayA; rw [if_neg hno, if_neg a4, if_pos (.inr a6)]
      have HF := Lib.hid hfin
      have a7 : (off + n == 65535) = true := by rw [beq_iff_eq]; exact a6
      clear hfin hno a4 a6
      go_enter Try.func29, Try.ntmps29
      go_wp2
      go_ret
      exact ⟨by rw [HF.out]; rfl, Below.refl _ _⟩
    · have hfin : mayA l en off n false = hasA l ⟨off + n, 65535⟩ := by unfold mayA; rw [if_neg hno, if_neg a4, if_neg (by rintro (h | h); cases h; exact a6 h)]
      have HF := Lib.hid hfin
      have a7 : (off + n == 65535) = false := by rw [beq_eq_false_iff_ne]; exact a6
      clear hfin hno a4 a6
      go_enter Try.func29, Try.ntmps29
      go_wp2_with (go_at_call 31; refine (span_Has.calls A c l _ _ _ _ HR.out hc rfl).mono ?_; rintro e w1 ⟨rfl, hb⟩)
      go_ret
      exact ⟨by rw [HF.out]; rfl, hb⟩
end Go.Proofs.Ytdlgocieecfpbaa.Q
