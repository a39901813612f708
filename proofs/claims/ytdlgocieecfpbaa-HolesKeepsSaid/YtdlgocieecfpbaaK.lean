/- The walk of the statements' known: the chapter's first example. No condition. -/
import Derived.Test.YtdlgocieecfpbaaV
import Derived.Handy
namespace Go.Proofs.Ytdlgocieecfpbaa.Q
open Go.RowKit Go.Proofs.YtdlgocieecfpbaaW.PrintWords Go.Proofs.YtdlgocieecfpbaaW.PrintLast Go.Proofs.YtdlgocieecfpbaaW.PrintMore Go.Proofs.Ytdlgocieecfpbaa.SL
set_option maxHeartbeats 2000000 in
set_option maxRecDepth 100000 in
theorem known_calls (w : World) : Calls Try.prog 10 #[] w fun e w' => e = .returned (.bool true) ∧ Below w.heap.size w w' := by
  have hu := Try.underlying50
  have HS := Lib.hid (St.nil w)
  go_enter Try.func10, Try.ntmps10
  go_wp2_with fail
  refine (c_new HS.out).mono ?_
  rintro e w1 ⟨p, A, c, rfl, hs⟩
  have HS := Lib.hid hs
  clear hs
  go_wp2_with fail
  refine (c_end HS.out 0 rfl).mono ?_
  rintro e w' ⟨rfl, rfl⟩
  go_wp2_with fail
  refine (c_doneK HS.out 0 rfl (b := false) (by decide)).mono ?_
  rintro e w' ⟨rfl, rfl⟩
  go_wp2_with fail
  refine (c_putK HS.out 0 rfl (by decide) 8 16 true (f := [⟨8, 24⟩]) (x := 0) (l' := [⟨0, 8⟩, ⟨24, 65535⟩]) (en' := -1) (by decide) (by decide) (by decide) (by decide)).mono ?_
  rintro e w4 ⟨A1, c1, B1, d1, rfl, hs⟩
  have HS := Lib.hid hs
  clear hs
  go_wp2_with fail
  refine (c_putK HS.out 0 rfl (by decide) 0 16 true (f := [⟨0, 8⟩]) (x := 0) (l' := [⟨24, 65535⟩]) (en' := -1) (by decide) (by decide) (by decide) (by decide)).mono ?_
  rintro e w5 ⟨A2, c2, B2, d2, rfl, hs⟩
  have HS := Lib.hid hs
  clear hs
  go_wp2_with fail
  refine (c_putK HS.out 0 rfl (by decide) 24 5 false (f := [⟨24, 29⟩]) (x := 0) (l' := []) (en' := 29) (by decide) (by decide) (by decide) (by decide)).mono ?_
  rintro e w6 ⟨A3, c3, B3, d3, rfl, hs⟩
  have HS := Lib.hid hs
  clear hs
  go_wp2_with fail
  refine (c_sameK (c_lit HS.out 8 24) 1 4 rfl rfl (by decide)).mono ?_
  rintro e w7 ⟨rfl, hs⟩
  have HS := Lib.hid hs
  clear hs
  go_wp2_with fail
  refine (c_sameK (c_lit HS.out 0 8) 2 5 rfl rfl (by decide)).mono ?_
  rintro e w8 ⟨rfl, hs⟩
  have HS := Lib.hid hs
  clear hs
  go_wp2_with fail
  refine (c_sameK (c_lit HS.out 24 29) 3 6 rfl rfl (by decide)).mono ?_
  rintro e w9 ⟨rfl, hs⟩
  have HS := Lib.hid hs
  clear hs
  go_wp2_with fail
  refine (c_end HS.out 0 rfl).mono ?_
  rintro e w' ⟨rfl, rfl⟩
  go_wp2_with fail
  refine (c_doneK HS.out 0 rfl (b := true) (by decide)).mono ?_
  rintro e w' ⟨rfl, rfl⟩
  go_wp2_with fail
  refine (c_holes HS.out 0 rfl (by decide)).mono ?_
  rintro e w12 ⟨B4, d4, rfl, hs⟩
  have HS := Lib.hid hs
  clear hs
  go_wp2
  go_ret
  exact ⟨rfl, HS.out.bl⟩
end Go.Proofs.Ytdlgocieecfpbaa.Q
