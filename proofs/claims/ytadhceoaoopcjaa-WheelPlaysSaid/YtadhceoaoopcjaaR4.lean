/- The reference's New and without. No condition but sizes. -/
import Derived.Test.YtadhceoaoopcjaaR3
namespace Go.Proofs.Ytadhceoaoopcjaa.SL
open Go.RowKit Go.Proofs.YtadhceoaoopcjaaW.PrintWords Go.Proofs.YtadhceoaoopcjaaW.PrintLast Go.Proofs.YtadhceoaoopcjaaW.PrintMore
theorem built_rf (now : Int) : Try.prog.built 82 [(0, .int .i64 now)] = some (rfV ⟨now, 0, []⟩ (.slice none 0 0)) := by kernel_rfl
theorem infoT : (Try.prog.info? 97).map (fun i => (i.zero, i.size, i.bytes)) = some (some (.agg (dV ⟨0, 0, 0⟩)), kD.sz, 24) := by kernel_rfl
section
variable {w0 w : World} {Γ Δ : List Ob}
theorem rnew_bad (now : Int) (h : now < 0 ∨ 1099511627776 < now) (w : World) : Calls Try.prog 20 #[.int .i64 now] w fun e w' => e = .returned (.tuple #[.pointer none, .int .i64 1]) ∧ w' = w := by
  by_cases h1 : now < 0
  · clear h
    go_enter Try.func20, Try.ntmps20
    go_wp2
    go_ret2
    exact ⟨rfl, rfl⟩
  · have h2 : 1099511627776 < now := by omega
    have h3 : 0 ≤ now := by omega
    clear h h1
    go_enter Try.func20, Try.ntmps20
    go_wp2
    go_ret2
    exact ⟨rfl, rfl⟩
set_option maxHeartbeats 2000000 in
theorem rnew_raw (h : St w0 w Γ) (now : Int) (h1 : 0 ≤ now) (h2 : now ≤ 1099511627776) : Calls Try.prog 20 #[.int .i64 now] w fun e w' => ∃ p, e = .returned (.tuple #[.pointer (some ⟨p, 0, none⟩), .int .i64 0]) ∧ St w0 w' (RSt.G ⟨p, none, 0, ⟨now, 0, []⟩⟩ ++ Γ) := by
  have HS := Lib.hid ((h.newW (d := kD) (e := 97) flD).front1.boxF (rfV ⟨now, 0, []⟩ (.slice none 0 0)) 82)
  clear h
  go_enter Try.func20, Try.ntmps20
  go_wp2_with (first
    | (refine gate_ (.build 82 #[(0, .tmp 10)]) rfl ?_; go_must (refine wpList_buildA rfl 82 #[(0, .tmp 10)] rfl [(0, .int .i64 now)] rfl (built_rf _) ?_))
    | (refine gate_ (.box 82 (.tmp 11)) rfl ?_; go_must (refine wpList_boxN rfl 82 (.tmp 11) rfl (rfV ⟨now, 0, []⟩ (.slice none 0 0)) rfl ?_)))
  go_ret2
  exact ⟨w.heap.size, rfl, HS.out⟩
end
end Go.Proofs.Ytadhceoaoopcjaa.SL
