/-
  No cell of these rows narrows 'for every input' (looked for: loops, veiled, ifaces, maps, wideKeys, modest, calm, conditions, laid).
  DERIVED. THE GIVEN ROWS OF THIS SEAT. 4 by the template 'for every input the law returns true; each argument reads behind the call as it read before'; 0 by the template 'total and deterministic' (their statements: YtgcafklieblldaaTotals.lean).
  GIVEN WITH THE SEED: the statements are not yours to turn. If you find one false, say at which input.
  Laid BY PROGRAM, IN A SANDBOX (cutbox-rows.mjs): the forced cells as the released guide's own fill.sh prints them over the translation cff2ec94c4fc0cfc… (all of the seat's roots in one cut). By AI agents, Wed Nov 11 2026. No macro, syntax, notation, axiom, sorry.
-/
import Derived.Test.YtgcafklieblldaaChecked
import GoSem.Claim
import GoSem.ClaimJoined
import GoSem.ClaimMapViews
import Derived.JoinedTies
import Derived.KernelRfl
namespace Go.Proofs.Ytgcafklieblldaa
/- THE CELL 'sum', in the pinned program and in every row, IS THE sha256 OF THE DUMP (.gsa) THAT YtgcafklieblldaaProg.lean LOADS. Nothing in Lean hashes anything: it is a label: what it is worth is what the hold of that sum in a sandbox is worth. -/
noncomputable def Try.pinned : Pinned := { name := "ytgcafklieblldaa", sum := "cff2ec94c4fc0cfcdf7522f62bc4628f34fe4e76601e9749f7ff3c38d35388b8", checked := Try.checked }
namespace Rows
def none {H : Type} : Left H := { results := [], args := [] }

/-- 'mosaiclaw20.PortsMemory': WHATEVER THE INPUT: true; the input reads as it did. -/
def portsMemorySpec : ChangeSpec := { name := "portsMemory", fn := fun _ => fun
  | [d1, d2] => { results := [.lit (.bool true)], args := [d1, d2] }
  | _ => none }
def portsMemoryRow : OpenClaim := { program := "ytgcafklieblldaa", sum := "cff2ec94c4fc0cfcdf7522f62bc4628f34fe4e76601e9749f7ff3c38d35388b8", func := "mosaic/mosaiclaw20.PortsMemory", spec := "portsMemory", unfollowed := true, recurses := true, apart := false }
def PortsMemorySaid : Prop := portsMemoryRow.holds Try.pinned (OpenSpec.ofChange portsMemorySpec)

/-- ITS FALSE NEIGHBOUR: 'it returns false'. Refute it at one input. -/
def portsMemoryWrong : ChangeSpec := { name := "portsMemory", fn := fun _ => fun
  | [d1, d2] => { results := [.lit (.bool false)], args := [d1, d2] }
  | _ => none }
def PortsMemoryWrongFalsely : Prop := portsMemoryRow.holds Try.pinned (OpenSpec.ofChange portsMemoryWrong)

/-- 'mosaiclaw20.PortsPlay': WHATEVER THE INPUT: true; the input reads as it did. -/
def portsPlaySpec : ChangeSpec := { name := "portsPlay", fn := fun _ => fun
  | [d1, d2, d3] => { results := [.lit (.bool true)], args := [d1, d2, d3] }
  | _ => none }
def portsPlayRow : OpenClaim := { program := "ytgcafklieblldaa", sum := "cff2ec94c4fc0cfcdf7522f62bc4628f34fe4e76601e9749f7ff3c38d35388b8", func := "mosaic/mosaiclaw20.PortsPlay", spec := "portsPlay", unfollowed := true, recurses := true, apart := false }
def PortsPlaySaid : Prop := portsPlayRow.holds Try.pinned (OpenSpec.ofChange portsPlaySpec)

/-- ITS FALSE NEIGHBOUR: 'it returns false'. Refute it at one input. -/
def portsPlayWrong : ChangeSpec := { name := "portsPlay", fn := fun _ => fun
  | [d1, d2, d3] => { results := [.lit (.bool false)], args := [d1, d2, d3] }
  | _ => none }
def PortsPlayWrongFalsely : Prop := portsPlayRow.holds Try.pinned (OpenSpec.ofChange portsPlayWrong)

/-- 'mosaiclaw20.PortsWhose': WHATEVER THE INPUT: true; the input reads as it did. -/
def portsWhoseSpec : ChangeSpec := { name := "portsWhose", fn := fun _ => fun
  | [d1, d2] => { results := [.lit (.bool true)], args := [d1, d2] }
  | _ => none }
def portsWhoseRow : OpenClaim := { program := "ytgcafklieblldaa", sum := "cff2ec94c4fc0cfcdf7522f62bc4628f34fe4e76601e9749f7ff3c38d35388b8", func := "mosaic/mosaiclaw20.PortsWhose", spec := "portsWhose", unfollowed := true, recurses := true, apart := false }
def PortsWhoseSaid : Prop := portsWhoseRow.holds Try.pinned (OpenSpec.ofChange portsWhoseSpec)

/-- ITS FALSE NEIGHBOUR: 'it returns false'. Refute it at one input. -/
def portsWhoseWrong : ChangeSpec := { name := "portsWhose", fn := fun _ => fun
  | [d1, d2] => { results := [.lit (.bool false)], args := [d1, d2] }
  | _ => none }
def PortsWhoseWrongFalsely : Prop := portsWhoseRow.holds Try.pinned (OpenSpec.ofChange portsWhoseWrong)

/-- 'mosaiclaw20.PortsClose': WHATEVER THE INPUT: true; the input reads as it did. -/
def portsCloseSpec : ChangeSpec := { name := "portsClose", fn := fun _ => fun
  | [d1, d2, d3, d4] => { results := [.lit (.bool true)], args := [d1, d2, d3, d4] }
  | _ => none }
def portsCloseRow : OpenClaim := { program := "ytgcafklieblldaa", sum := "cff2ec94c4fc0cfcdf7522f62bc4628f34fe4e76601e9749f7ff3c38d35388b8", func := "mosaic/mosaiclaw20.PortsClose", spec := "portsClose", unfollowed := true, recurses := true, apart := false }
def PortsCloseSaid : Prop := portsCloseRow.holds Try.pinned (OpenSpec.ofChange portsCloseSpec)

/-- ITS FALSE NEIGHBOUR: 'it returns false'. Refute it at one input. -/
def portsCloseWrong : ChangeSpec := { name := "portsClose", fn := fun _ => fun
  | [d1, d2, d3, d4] => { results := [.lit (.bool false)], args := [d1, d2, d3, d4] }
  | _ => none }
def PortsCloseWrongFalsely : Prop := portsCloseRow.holds Try.pinned (OpenSpec.ofChange portsCloseWrong)

/- THE SECOND FORM. 'bulk': how many values and letters a reading holds, each counted each time it is reached (what is shared counts as often as it is met; a slice's spare places count too). A statement '..UptoSaid' is the law's where the arguments, and the package variables that the reading takes, are together of bulk at most 1048576: NARROWER than '..Said'. Prove '..Said' where nothing that the law and all that it calls make is longer than what came in: it says more and counts as full. Else prove '..UptoSaid'. A law counts once. -/
mutual
def uptoBulk {H : Type} : DataW H → Nat
  | .lit (.string bytes) => bytes.length + 1
  | .lit _ => 1
  | .nil => 1
  | .ptr d => uptoBulk d + 1
  | .slice elems spare => uptoBulkAll elems + uptoBulkAll spare + 1
  | .agg parts => uptoBulkAll parts + 1
  | .iface _ d => uptoBulk d + 1
  | .map entries => uptoBulkEntries entries + 1
  | .held _ => 1
def uptoBulkAll {H : Type} : List (DataW H) → Nat
  | [] => 0
  | d :: r => uptoBulk d + uptoBulkAll r
def uptoBulkEntries {H : Type} : List (Lit × DataW H) → Nat
  | [] => 0
  | x :: r => uptoBulkEntry x + uptoBulkEntries r
def uptoBulkEntry {H : Type} : Lit × DataW H → Nat
  | (.string bytes, d) => bytes.length + uptoBulk d + 1
  | (_, d) => uptoBulk d + 1
 end
def uptoSmall : (H : Type) → List (DataW H) → Bool := fun _ ds => decide (uptoBulkAll ds ≤ 1048576)
def OpenSpec.upto (s : _root_.Go.ChangeSpec) : _root_.Go.OpenSpec := { _root_.Go.OpenSpec.ofChange s with cond := some uptoSmall }

/-- 'mosaiclaw20.PortsMemory', WHERE WHAT IT READS IS OF BULK AT MOST 1048576: true; the input reads as it did. -/
def portsMemoryUptoRow : OpenClaim := { program := "ytgcafklieblldaa", sum := "cff2ec94c4fc0cfcdf7522f62bc4628f34fe4e76601e9749f7ff3c38d35388b8", func := "mosaic/mosaiclaw20.PortsMemory", spec := "portsMemory", unfollowed := true, recurses := true, apart := false, narrowed := true }
def PortsMemoryUptoSaid : Prop := portsMemoryUptoRow.holds Try.pinned (OpenSpec.upto portsMemorySpec)

/-- 'mosaiclaw20.PortsPlay', WHERE WHAT IT READS IS OF BULK AT MOST 1048576: true; the input reads as it did. -/
def portsPlayUptoRow : OpenClaim := { program := "ytgcafklieblldaa", sum := "cff2ec94c4fc0cfcdf7522f62bc4628f34fe4e76601e9749f7ff3c38d35388b8", func := "mosaic/mosaiclaw20.PortsPlay", spec := "portsPlay", unfollowed := true, recurses := true, apart := false, narrowed := true }
def PortsPlayUptoSaid : Prop := portsPlayUptoRow.holds Try.pinned (OpenSpec.upto portsPlaySpec)

/-- 'mosaiclaw20.PortsWhose', WHERE WHAT IT READS IS OF BULK AT MOST 1048576: true; the input reads as it did. -/
def portsWhoseUptoRow : OpenClaim := { program := "ytgcafklieblldaa", sum := "cff2ec94c4fc0cfcdf7522f62bc4628f34fe4e76601e9749f7ff3c38d35388b8", func := "mosaic/mosaiclaw20.PortsWhose", spec := "portsWhose", unfollowed := true, recurses := true, apart := false, narrowed := true }
def PortsWhoseUptoSaid : Prop := portsWhoseUptoRow.holds Try.pinned (OpenSpec.upto portsWhoseSpec)

/-- 'mosaiclaw20.PortsClose', WHERE WHAT IT READS IS OF BULK AT MOST 1048576: true; the input reads as it did. -/
def portsCloseUptoRow : OpenClaim := { program := "ytgcafklieblldaa", sum := "cff2ec94c4fc0cfcdf7522f62bc4628f34fe4e76601e9749f7ff3c38d35388b8", func := "mosaic/mosaiclaw20.PortsClose", spec := "portsClose", unfollowed := true, recurses := true, apart := false, narrowed := true }
def PortsCloseUptoSaid : Prop := portsCloseUptoRow.holds Try.pinned (OpenSpec.upto portsCloseSpec)

end Rows
end Go.Proofs.Ytgcafklieblldaa
