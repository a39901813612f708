/-
  No cell of these rows narrows 'for every input' (looked for: loops, veiled, ifaces, maps, wideKeys, modest, calm, conditions, laid).
  DERIVED. THE GIVEN ROWS OF THIS SEAT. 6 by the template 'for every input the law returns true; each argument reads behind the call as it read before'; 0 by the template 'total and deterministic' (their statements: YtadhceoaoopcjaaTotals.lean).
  GIVEN WITH THE SEED: the statements are not yours to turn. If you find one false, say at which input.
  Laid BY PROGRAM, IN A SANDBOX (cutbox-rows.mjs): the forced cells as the released guide's own fill.sh prints them over the translation daddb191dc1ddc8b… (all of the seat's roots in one cut). By AI agents, Wed Nov 11 2026. No macro, syntax, notation, axiom, sorry.
-/
import Derived.Test.YtadhceoaoopcjaaChecked
import GoSem.Claim
import GoSem.ClaimJoined
import GoSem.ClaimMapViews
import Derived.JoinedTies
import Derived.KernelRfl
namespace Go.Proofs.Ytadhceoaoopcjaa
/- THE CELL 'sum', in the pinned program and in every row, IS THE sha256 OF THE DUMP (.gsa) THAT YtadhceoaoopcjaaProg.lean LOADS. Nothing in Lean hashes anything: it is a label: what it is worth is what the hold of that sum in a sandbox is worth. -/
noncomputable def Try.pinned : Pinned := { name := "ytadhceoaoopcjaa", sum := "daddb191dc1ddc8b7283600e0ec8b12f3f0d1bd1d584f0f539a61e29037104a0", checked := Try.checked }
namespace Rows
def none {H : Type} : Left H := { results := [], args := [] }

/-- 'mosaiclaw27.WheelFar': WHATEVER THE INPUT: true; the input reads as it did. -/
def wheelFarSpec : ChangeSpec := { name := "wheelFar", fn := fun _ => fun
  | [d1, d2] => { results := [.lit (.bool true)], args := [d1, d2] }
  | _ => none }
def wheelFarRow : OpenClaim := { program := "ytadhceoaoopcjaa", sum := "daddb191dc1ddc8b7283600e0ec8b12f3f0d1bd1d584f0f539a61e29037104a0", func := "mosaic/mosaiclaw27.WheelFar", spec := "wheelFar", unfollowed := true, recurses := true, apart := false }
def WheelFarSaid : Prop := wheelFarRow.holds Try.pinned (OpenSpec.ofChange wheelFarSpec)

/-- ITS FALSE NEIGHBOUR: 'it returns false'. Refute it at one input. -/
def wheelFarWrong : ChangeSpec := { name := "wheelFar", fn := fun _ => fun
  | [d1, d2] => { results := [.lit (.bool false)], args := [d1, d2] }
  | _ => none }
def WheelFarWrongFalsely : Prop := wheelFarRow.holds Try.pinned (OpenSpec.ofChange wheelFarWrong)

/-- 'mosaiclaw27.WheelFull': WHATEVER THE INPUT: true; the input reads as it did. -/
def wheelFullSpec : ChangeSpec := { name := "wheelFull", fn := fun _ => fun
  | [d1, d2, d3] => { results := [.lit (.bool true)], args := [d1, d2, d3] }
  | _ => none }
def wheelFullRow : OpenClaim := { program := "ytadhceoaoopcjaa", sum := "daddb191dc1ddc8b7283600e0ec8b12f3f0d1bd1d584f0f539a61e29037104a0", func := "mosaic/mosaiclaw27.WheelFull", spec := "wheelFull", unfollowed := true, recurses := true, apart := false }
def WheelFullSaid : Prop := wheelFullRow.holds Try.pinned (OpenSpec.ofChange wheelFullSpec)

/-- ITS FALSE NEIGHBOUR: 'it returns false'. Refute it at one input. -/
def wheelFullWrong : ChangeSpec := { name := "wheelFull", fn := fun _ => fun
  | [d1, d2, d3] => { results := [.lit (.bool false)], args := [d1, d2, d3] }
  | _ => none }
def WheelFullWrongFalsely : Prop := wheelFullRow.holds Try.pinned (OpenSpec.ofChange wheelFullWrong)

/-- 'mosaiclaw27.WheelLeaps': WHATEVER THE INPUT: true; the input reads as it did. -/
def wheelLeapsSpec : ChangeSpec := { name := "wheelLeaps", fn := fun _ => fun
  | [d1, d2, d3] => { results := [.lit (.bool true)], args := [d1, d2, d3] }
  | _ => none }
def wheelLeapsRow : OpenClaim := { program := "ytadhceoaoopcjaa", sum := "daddb191dc1ddc8b7283600e0ec8b12f3f0d1bd1d584f0f539a61e29037104a0", func := "mosaic/mosaiclaw27.WheelLeaps", spec := "wheelLeaps", unfollowed := true, recurses := true, apart := false }
def WheelLeapsSaid : Prop := wheelLeapsRow.holds Try.pinned (OpenSpec.ofChange wheelLeapsSpec)

/-- ITS FALSE NEIGHBOUR: 'it returns false'. Refute it at one input. -/
def wheelLeapsWrong : ChangeSpec := { name := "wheelLeaps", fn := fun _ => fun
  | [d1, d2, d3] => { results := [.lit (.bool false)], args := [d1, d2, d3] }
  | _ => none }
def WheelLeapsWrongFalsely : Prop := wheelLeapsRow.holds Try.pinned (OpenSpec.ofChange wheelLeapsWrong)

/-- 'mosaiclaw27.WheelMemory': WHATEVER THE INPUT: true; the input reads as it did. -/
def wheelMemorySpec : ChangeSpec := { name := "wheelMemory", fn := fun _ => fun
  | [d1, d2, d3] => { results := [.lit (.bool true)], args := [d1, d2, d3] }
  | _ => none }
def wheelMemoryRow : OpenClaim := { program := "ytadhceoaoopcjaa", sum := "daddb191dc1ddc8b7283600e0ec8b12f3f0d1bd1d584f0f539a61e29037104a0", func := "mosaic/mosaiclaw27.WheelMemory", spec := "wheelMemory", unfollowed := true, recurses := true, apart := false }
def WheelMemorySaid : Prop := wheelMemoryRow.holds Try.pinned (OpenSpec.ofChange wheelMemorySpec)

/-- ITS FALSE NEIGHBOUR: 'it returns false'. Refute it at one input. -/
def wheelMemoryWrong : ChangeSpec := { name := "wheelMemory", fn := fun _ => fun
  | [d1, d2, d3] => { results := [.lit (.bool false)], args := [d1, d2, d3] }
  | _ => none }
def WheelMemoryWrongFalsely : Prop := wheelMemoryRow.holds Try.pinned (OpenSpec.ofChange wheelMemoryWrong)

/-- 'mosaiclaw27.WheelWaits': WHATEVER THE INPUT: true; the input reads as it did. -/
def wheelWaitsSpec : ChangeSpec := { name := "wheelWaits", fn := fun _ => fun
  | [d1, d2, d3] => { results := [.lit (.bool true)], args := [d1, d2, d3] }
  | _ => none }
def wheelWaitsRow : OpenClaim := { program := "ytadhceoaoopcjaa", sum := "daddb191dc1ddc8b7283600e0ec8b12f3f0d1bd1d584f0f539a61e29037104a0", func := "mosaic/mosaiclaw27.WheelWaits", spec := "wheelWaits", unfollowed := true, recurses := true, apart := false }
def WheelWaitsSaid : Prop := wheelWaitsRow.holds Try.pinned (OpenSpec.ofChange wheelWaitsSpec)

/-- ITS FALSE NEIGHBOUR: 'it returns false'. Refute it at one input. -/
def wheelWaitsWrong : ChangeSpec := { name := "wheelWaits", fn := fun _ => fun
  | [d1, d2, d3] => { results := [.lit (.bool false)], args := [d1, d2, d3] }
  | _ => none }
def WheelWaitsWrongFalsely : Prop := wheelWaitsRow.holds Try.pinned (OpenSpec.ofChange wheelWaitsWrong)

/-- 'mosaiclaw27.WheelPlays': WHATEVER THE INPUT: true; the input reads as it did. -/
def wheelPlaysSpec : ChangeSpec := { name := "wheelPlays", fn := fun _ => fun
  | [d1, d2, d3] => { results := [.lit (.bool true)], args := [d1, d2, d3] }
  | _ => none }
def wheelPlaysRow : OpenClaim := { program := "ytadhceoaoopcjaa", sum := "daddb191dc1ddc8b7283600e0ec8b12f3f0d1bd1d584f0f539a61e29037104a0", func := "mosaic/mosaiclaw27.WheelPlays", spec := "wheelPlays", unfollowed := true, recurses := true, apart := false }
def WheelPlaysSaid : Prop := wheelPlaysRow.holds Try.pinned (OpenSpec.ofChange wheelPlaysSpec)

/-- ITS FALSE NEIGHBOUR: 'it returns false'. Refute it at one input. -/
def wheelPlaysWrong : ChangeSpec := { name := "wheelPlays", fn := fun _ => fun
  | [d1, d2, d3] => { results := [.lit (.bool false)], args := [d1, d2, d3] }
  | _ => none }
def WheelPlaysWrongFalsely : Prop := wheelPlaysRow.holds Try.pinned (OpenSpec.ofChange wheelPlaysWrong)

/- THE SECOND FORM. 'bulk': how many values and letters a reading holds, each counted each time it is reached (what is shared counts as often as it is met; a slice's spare places count too). A statement '..UptoSaid' is the law's where the arguments, and the package variables that the reading takes, are together of bulk at most 1048576: NARROWER than '..Said'. Prove '..Said' where nothing that the law and all that it calls make is longer than what came in: it says more and counts as full. Else prove '..UptoSaid'. A law counts once. -/
mutual
def uptoBulk {H : Type} : DataW H → Nat
  | .lit (.string bytes) => bytes.length + 1
  | .lit _ => 1
  | .nil => 1
  | .ptr d => uptoBulk d + 1
  | .slice elems spare => uptoBulkAll elems + uptoBulkAll spare + 1
  | .agg parts => uptoBulkAll parts + 1
  | .iface _ d => uptoBulk d + 1
  | .map entries => uptoBulkEntries entries + 1
  | .held _ => 1
def uptoBulkAll {H : Type} : List (DataW H) → Nat
  | [] => 0
  | d :: r => uptoBulk d + uptoBulkAll r
def uptoBulkEntries {H : Type} : List (Lit × DataW H) → Nat
  | [] => 0
  | x :: r => uptoBulkEntry x + uptoBulkEntries r
def uptoBulkEntry {H : Type} : Lit × DataW H → Nat
  | (.string bytes, d) => bytes.length + uptoBulk d + 1
  | (_, d) => uptoBulk d + 1
 end
def uptoSmall : (H : Type) → List (DataW H) → Bool := fun _ ds => decide (uptoBulkAll ds ≤ 1048576)
def OpenSpec.upto (s : _root_.Go.ChangeSpec) : _root_.Go.OpenSpec := { _root_.Go.OpenSpec.ofChange s with cond := some uptoSmall }

/-- 'mosaiclaw27.WheelFar', WHERE WHAT IT READS IS OF BULK AT MOST 1048576: true; the input reads as it did. -/
def wheelFarUptoRow : OpenClaim := { program := "ytadhceoaoopcjaa", sum := "daddb191dc1ddc8b7283600e0ec8b12f3f0d1bd1d584f0f539a61e29037104a0", func := "mosaic/mosaiclaw27.WheelFar", spec := "wheelFar", unfollowed := true, recurses := true, apart := false, narrowed := true }
def WheelFarUptoSaid : Prop := wheelFarUptoRow.holds Try.pinned (OpenSpec.upto wheelFarSpec)

/-- 'mosaiclaw27.WheelFull', WHERE WHAT IT READS IS OF BULK AT MOST 1048576: true; the input reads as it did. -/
def wheelFullUptoRow : OpenClaim := { program := "ytadhceoaoopcjaa", sum := "daddb191dc1ddc8b7283600e0ec8b12f3f0d1bd1d584f0f539a61e29037104a0", func := "mosaic/mosaiclaw27.WheelFull", spec := "wheelFull", unfollowed := true, recurses := true, apart := false, narrowed := true }
def WheelFullUptoSaid : Prop := wheelFullUptoRow.holds Try.pinned (OpenSpec.upto wheelFullSpec)

/-- 'mosaiclaw27.WheelLeaps', WHERE WHAT IT READS IS OF BULK AT MOST 1048576: true; the input reads as it did. -/
def wheelLeapsUptoRow : OpenClaim := { program := "ytadhceoaoopcjaa", sum := "daddb191dc1ddc8b7283600e0ec8b12f3f0d1bd1d584f0f539a61e29037104a0", func := "mosaic/mosaiclaw27.WheelLeaps", spec := "wheelLeaps", unfollowed := true, recurses := true, apart := false, narrowed := true }
def WheelLeapsUptoSaid : Prop := wheelLeapsUptoRow.holds Try.pinned (OpenSpec.upto wheelLeapsSpec)

/-- 'mosaiclaw27.WheelMemory', WHERE WHAT IT READS IS OF BULK AT MOST 1048576: true; the input reads as it did. -/
def wheelMemoryUptoRow : OpenClaim := { program := "ytadhceoaoopcjaa", sum := "daddb191dc1ddc8b7283600e0ec8b12f3f0d1bd1d584f0f539a61e29037104a0", func := "mosaic/mosaiclaw27.WheelMemory", spec := "wheelMemory", unfollowed := true, recurses := true, apart := false, narrowed := true }
def WheelMemoryUptoSaid : Prop := wheelMemoryUptoRow.holds Try.pinned (OpenSpec.upto wheelMemorySpec)

/-- 'mosaiclaw27.WheelWaits', WHERE WHAT IT READS IS OF BULK AT MOST 1048576: true; the input reads as it did. -/
def wheelWaitsUptoRow : OpenClaim := { program := "ytadhceoaoopcjaa", sum := "daddb191dc1ddc8b7283600e0ec8b12f3f0d1bd1d584f0f539a61e29037104a0", func := "mosaic/mosaiclaw27.WheelWaits", spec := "wheelWaits", unfollowed := true, recurses := true, apart := false, narrowed := true }
def WheelWaitsUptoSaid : Prop := wheelWaitsUptoRow.holds Try.pinned (OpenSpec.upto wheelWaitsSpec)

/-- 'mosaiclaw27.WheelPlays', WHERE WHAT IT READS IS OF BULK AT MOST 1048576: true; the input reads as it did. -/
def wheelPlaysUptoRow : OpenClaim := { program := "ytadhceoaoopcjaa", sum := "daddb191dc1ddc8b7283600e0ec8b12f3f0d1bd1d584f0f539a61e29037104a0", func := "mosaic/mosaiclaw27.WheelPlays", spec := "wheelPlays", unfollowed := true, recurses := true, apart := false, narrowed := true }
def WheelPlaysUptoSaid : Prop := wheelPlaysUptoRow.holds Try.pinned (OpenSpec.upto wheelPlaysSpec)

end Rows
end Go.Proofs.Ytadhceoaoopcjaa
