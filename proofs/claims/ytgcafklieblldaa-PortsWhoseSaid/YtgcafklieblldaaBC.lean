/- The walk of alive; the statements' operations. No condition. -/
import Derived.Test.YtgcafklieblldaaBB
namespace Go.Proofs.Ytgcafklieblldaa.SL
open Go.RowKit Go.Proofs.YtgcafklieblldaaW.PrintWords Go.Proofs.YtgcafklieblldaaW.PrintLast Go.Proofs.YtgcafklieblldaaW.PrintMore
section
variable {w0 w : World} {Γ : List Ob} {p : Nat} {v : Value} {most g : Int} {l : List Bd}
theorem c_bindK (h : St w0 w Γ) (i : Nat) (hi : Γ[i]? = some (obT p v most g l)) (hg0 : 0 ≤ g) (hg1 : g < 4000000000000000000) (hsm : l.length ≤ 1000000) (a : Ad) (port : Int) {r : BR} (hr : bindS most g l a port = r) :
    Calls Try.prog 9 #[.pointer (some ⟨p, 0, none⟩), .agg (aV a), .int .i64 port] w fun e w' => ∃ v', e = .returned (.tuple #[.int .i64 r.n, .int .i64 r.q, .int .i64 r.e]) ∧ St w0 w' (Γ.set i (obT p v' most r.g r.l)) := by
  subst hr
  exact c_bind h i hi hg0 hg1 hsm a port
theorem c_findK (h : St w0 w Γ) (i : Nat) (hi : Γ[i]? = some (obT p v most g l)) (a : Ad) (port : Int) {n : Int} (hn : findP l a port = n) :
    Calls Try.prog 18 #[.pointer (some ⟨p, 0, none⟩), .agg (aV a), .int .i64 port] w fun e w' => e = .returned (.int .i64 n) ∧ St w0 w' Γ := by
  subst hn
  exact c_find h i hi a port
end
def l1 : List Bd := [⟨1, ⟨fA 1, 53⟩⟩]
def l2 : List Bd := [⟨1, ⟨fA 1, 53⟩⟩, ⟨2, ⟨zA 4, 53⟩⟩]
theorem b1 : bindS 3 0 [] (fA 1) 53 = ⟨1, 53, 0, 1, l1⟩ := by kernel_rfl
theorem b2 : bindS 3 1 l1 (zA 4) 53 = ⟨2, 53, 0, 2, l2⟩ := by kernel_rfl
theorem f1 : findP l2 (fA 1) 53 = 1 := by kernel_rfl
theorem f2 : findP l2 (fA 9) 53 = 2 := by kernel_rfl
theorem f3 : findP l2 (fA 1) 54 = 0 := by kernel_rfl
theorem built_z4 : Try.prog.built 32 [(0, .int .i64 4)] = some (aV (zA 4)) := built_z 4
set_option maxHeartbeats 2000000 in
theorem alive_calls (w : World) : Calls Try.prog 7 #[] w fun e w' => e = .returned (.bool true) ∧ Below w.heap.size w w' := by
  have HS : Hid (St w w []) := Lib.hid (St.nil w)
  go_enter Try.func7, Try.ntmps7
  go_wp2_with (first | (go_at_call 8; refine (c_new HS.out 3 (by decide) (by decide)).mono ?_; rintro e w1 ⟨p, rfl, hs⟩; replace HS := Lib.hid hs; clear hs) | (go_at_call 10; refine (c_four HS.out _).mono ?_; rintro e w1 ⟨rfl, hs⟩; replace HS := Lib.hid hs; clear hs) | (refine gate_ (.build 32 #[(0, .const (.int .i64 4))]) rfl ?_; go_must (refine wpList_buildA rfl 32 #[(0, .const (.int .i64 4))] rfl [(0, .int .i64 4)] rfl built_z4 ?_)) | (go_at_call 9; with_reducible refine (c_bindK HS.out 0 rfl (by decide) (by decide) (by decide) (fA 1) 53 b1).mono ?_; rintro e w1 ⟨v1, rfl, hs⟩; replace HS := Lib.hid hs; clear hs) | (go_at_call 9; with_reducible refine (c_bindK HS.out 0 rfl (by decide) (by decide) (by decide) (zA 4) 53 b2).mono ?_; rintro e w1 ⟨v2, rfl, hs⟩; replace HS := Lib.hid hs; clear hs) | (go_at_call 18; with_reducible refine (c_findK HS.out 0 rfl (fA 1) 53 f1).mono ?_; rintro e w1 ⟨rfl, hs⟩; replace HS := Lib.hid hs; clear hs) | (go_at_call 18; with_reducible refine (c_findK HS.out 0 rfl (fA 9) 53 f2).mono ?_; rintro e w1 ⟨rfl, hs⟩; replace HS := Lib.hid hs; clear hs) | (go_at_call 18; with_reducible refine (c_findK HS.out 0 rfl (fA 1) 54 f3).mono ?_; rintro e w1 ⟨rfl, hs⟩; replace HS := Lib.hid hs; clear hs))
  go_ret
  exact ⟨rfl, HS.out.bl⟩
end Go.Proofs.Ytgcafklieblldaa.SL
