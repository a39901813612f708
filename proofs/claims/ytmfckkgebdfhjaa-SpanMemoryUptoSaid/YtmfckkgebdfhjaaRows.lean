/-
  No cell of these rows narrows 'for every input' (looked for: loops, veiled, ifaces, maps, wideKeys, modest, calm, conditions, laid).
  DERIVED. THE GIVEN ROWS OF THIS SEAT. 5 by the template 'for every input the law returns true; each argument reads behind the call as it read before'; 0 by the template 'total and deterministic' (their statements: YtmfckkgebdfhjaaTotals.lean).
  GIVEN WITH THE SEED: the statements are not yours to turn. If you find one false, say at which input.
  Laid BY PROGRAM, IN A SANDBOX (cutbox-rows.mjs): the forced cells as the released guide's own fill.sh prints them over the translation 9532f37ca91f70dc… (all of the seat's roots in one cut). By AI agents, Wed Nov 11 2026. No macro, syntax, notation, axiom, sorry.
-/
import Derived.Test.YtmfckkgebdfhjaaChecked
import GoSem.Claim
import GoSem.ClaimJoined
import GoSem.ClaimMapViews
import Derived.JoinedTies
import Derived.KernelRfl
namespace Go.Proofs.Ytmfckkgebdfhjaa
/- THE CELL 'sum', in the pinned program and in every row, IS THE sha256 OF THE DUMP (.gsa) THAT YtmfckkgebdfhjaaProg.lean LOADS. Nothing in Lean hashes anything: it is a label: what it is worth is what the hold of that sum in a sandbox is worth. -/
noncomputable def Try.pinned : Pinned := { name := "ytmfckkgebdfhjaa", sum := "9532f37ca91f70dcc2cd8b1a7a2a209e9b498fb66c6b07b0fcf0c0192f8a2193", checked := Try.checked }
namespace Rows
def none {H : Type} : Left H := { results := [], args := [] }

/-- 'mosaiclaw09.SpanAsks': WHATEVER THE INPUT: true; the input reads as it did. -/
def spanAsksSpec : ChangeSpec := { name := "spanAsks", fn := fun _ => fun
  | [d1, d2, d3] => { results := [.lit (.bool true)], args := [d1, d2, d3] }
  | _ => none }
def spanAsksRow : OpenClaim := { program := "ytmfckkgebdfhjaa", sum := "9532f37ca91f70dcc2cd8b1a7a2a209e9b498fb66c6b07b0fcf0c0192f8a2193", func := "mosaic/mosaiclaw09.SpanAsks", spec := "spanAsks", unfollowed := true, recurses := true, apart := false }
def SpanAsksSaid : Prop := spanAsksRow.holds Try.pinned (OpenSpec.ofChange spanAsksSpec)

/-- ITS FALSE NEIGHBOUR: 'it returns false'. Refute it at one input. -/
def spanAsksWrong : ChangeSpec := { name := "spanAsks", fn := fun _ => fun
  | [d1, d2, d3] => { results := [.lit (.bool false)], args := [d1, d2, d3] }
  | _ => none }
def SpanAsksWrongFalsely : Prop := spanAsksRow.holds Try.pinned (OpenSpec.ofChange spanAsksWrong)

/-- 'mosaiclaw09.SpanSets': WHATEVER THE INPUT: true; the input reads as it did. -/
def spanSetsSpec : ChangeSpec := { name := "spanSets", fn := fun _ => fun
  | [d1, d2, d3] => { results := [.lit (.bool true)], args := [d1, d2, d3] }
  | _ => none }
def spanSetsRow : OpenClaim := { program := "ytmfckkgebdfhjaa", sum := "9532f37ca91f70dcc2cd8b1a7a2a209e9b498fb66c6b07b0fcf0c0192f8a2193", func := "mosaic/mosaiclaw09.SpanSets", spec := "spanSets", unfollowed := true, recurses := true, apart := false }
def SpanSetsSaid : Prop := spanSetsRow.holds Try.pinned (OpenSpec.ofChange spanSetsSpec)

/-- ITS FALSE NEIGHBOUR: 'it returns false'. Refute it at one input. -/
def spanSetsWrong : ChangeSpec := { name := "spanSets", fn := fun _ => fun
  | [d1, d2, d3] => { results := [.lit (.bool false)], args := [d1, d2, d3] }
  | _ => none }
def SpanSetsWrongFalsely : Prop := spanSetsRow.holds Try.pinned (OpenSpec.ofChange spanSetsWrong)

/-- 'mosaiclaw09.SpanNorms': WHATEVER THE INPUT: true; the input reads as it did. -/
def spanNormsSpec : ChangeSpec := { name := "spanNorms", fn := fun _ => fun
  | [d1, d2] => { results := [.lit (.bool true)], args := [d1, d2] }
  | _ => none }
def spanNormsRow : OpenClaim := { program := "ytmfckkgebdfhjaa", sum := "9532f37ca91f70dcc2cd8b1a7a2a209e9b498fb66c6b07b0fcf0c0192f8a2193", func := "mosaic/mosaiclaw09.SpanNorms", spec := "spanNorms", unfollowed := true, recurses := true, apart := false }
def SpanNormsSaid : Prop := spanNormsRow.holds Try.pinned (OpenSpec.ofChange spanNormsSpec)

/-- ITS FALSE NEIGHBOUR: 'it returns false'. Refute it at one input. -/
def spanNormsWrong : ChangeSpec := { name := "spanNorms", fn := fun _ => fun
  | [d1, d2] => { results := [.lit (.bool false)], args := [d1, d2] }
  | _ => none }
def SpanNormsWrongFalsely : Prop := spanNormsRow.holds Try.pinned (OpenSpec.ofChange spanNormsWrong)

/-- 'mosaiclaw09.SpanHoles': WHATEVER THE INPUT: true; the input reads as it did. -/
def spanHolesSpec : ChangeSpec := { name := "spanHoles", fn := fun _ => fun
  | [d1, d2, d3] => { results := [.lit (.bool true)], args := [d1, d2, d3] }
  | _ => none }
def spanHolesRow : OpenClaim := { program := "ytmfckkgebdfhjaa", sum := "9532f37ca91f70dcc2cd8b1a7a2a209e9b498fb66c6b07b0fcf0c0192f8a2193", func := "mosaic/mosaiclaw09.SpanHoles", spec := "spanHoles", unfollowed := true, recurses := true, apart := false }
def SpanHolesSaid : Prop := spanHolesRow.holds Try.pinned (OpenSpec.ofChange spanHolesSpec)

/-- ITS FALSE NEIGHBOUR: 'it returns false'. Refute it at one input. -/
def spanHolesWrong : ChangeSpec := { name := "spanHoles", fn := fun _ => fun
  | [d1, d2, d3] => { results := [.lit (.bool false)], args := [d1, d2, d3] }
  | _ => none }
def SpanHolesWrongFalsely : Prop := spanHolesRow.holds Try.pinned (OpenSpec.ofChange spanHolesWrong)

/-- 'mosaiclaw09.SpanMemory': WHATEVER THE INPUT: true; the input reads as it did. -/
def spanMemorySpec : ChangeSpec := { name := "spanMemory", fn := fun _ => fun
  | [d1, d2, d3] => { results := [.lit (.bool true)], args := [d1, d2, d3] }
  | _ => none }
def spanMemoryRow : OpenClaim := { program := "ytmfckkgebdfhjaa", sum := "9532f37ca91f70dcc2cd8b1a7a2a209e9b498fb66c6b07b0fcf0c0192f8a2193", func := "mosaic/mosaiclaw09.SpanMemory", spec := "spanMemory", unfollowed := true, recurses := true, apart := false }
def SpanMemorySaid : Prop := spanMemoryRow.holds Try.pinned (OpenSpec.ofChange spanMemorySpec)

/-- ITS FALSE NEIGHBOUR: 'it returns false'. Refute it at one input. -/
def spanMemoryWrong : ChangeSpec := { name := "spanMemory", fn := fun _ => fun
  | [d1, d2, d3] => { results := [.lit (.bool false)], args := [d1, d2, d3] }
  | _ => none }
def SpanMemoryWrongFalsely : Prop := spanMemoryRow.holds Try.pinned (OpenSpec.ofChange spanMemoryWrong)

/- THE SECOND FORM. 'bulk': how many values and letters a reading holds, each counted each time it is reached (what is shared counts as often as it is met; a slice's spare places count too). A statement '..UptoSaid' is the law's where the arguments, and the package variables that the reading takes, are together of bulk at most 1048576: NARROWER than '..Said'. Prove '..Said' where nothing that the law and all that it calls make is longer than what came in: it says more and counts as full. Else prove '..UptoSaid'. A law counts once. -/
mutual
def uptoBulk {H : Type} : DataW H → Nat
  | .lit (.string bytes) => bytes.length + 1
  | .lit _ => 1
  | .nil => 1
  | .ptr d => uptoBulk d + 1
  | .slice elems spare => uptoBulkAll elems + uptoBulkAll spare + 1
  | .agg parts => uptoBulkAll parts + 1
  | .iface _ d => uptoBulk d + 1
  | .map entries => uptoBulkEntries entries + 1
  | .held _ => 1
def uptoBulkAll {H : Type} : List (DataW H) → Nat
  | [] => 0
  | d :: r => uptoBulk d + uptoBulkAll r
def uptoBulkEntries {H : Type} : List (Lit × DataW H) → Nat
  | [] => 0
  | x :: r => uptoBulkEntry x + uptoBulkEntries r
def uptoBulkEntry {H : Type} : Lit × DataW H → Nat
  | (.string bytes, d) => bytes.length + uptoBulk d + 1
  | (_, d) => uptoBulk d + 1
 end
def uptoSmall : (H : Type) → List (DataW H) → Bool := fun _ ds => decide (uptoBulkAll ds ≤ 1048576)
def OpenSpec.upto (s : _root_.Go.ChangeSpec) : _root_.Go.OpenSpec := { _root_.Go.OpenSpec.ofChange s with cond := some uptoSmall }

/-- 'mosaiclaw09.SpanAsks', WHERE WHAT IT READS IS OF BULK AT MOST 1048576: true; the input reads as it did. -/
def spanAsksUptoRow : OpenClaim := { program := "ytmfckkgebdfhjaa", sum := "9532f37ca91f70dcc2cd8b1a7a2a209e9b498fb66c6b07b0fcf0c0192f8a2193", func := "mosaic/mosaiclaw09.SpanAsks", spec := "spanAsks", unfollowed := true, recurses := true, apart := false, narrowed := true }
def SpanAsksUptoSaid : Prop := spanAsksUptoRow.holds Try.pinned (OpenSpec.upto spanAsksSpec)

/-- 'mosaiclaw09.SpanSets', WHERE WHAT IT READS IS OF BULK AT MOST 1048576: true; the input reads as it did. -/
def spanSetsUptoRow : OpenClaim := { program := "ytmfckkgebdfhjaa", sum := "9532f37ca91f70dcc2cd8b1a7a2a209e9b498fb66c6b07b0fcf0c0192f8a2193", func := "mosaic/mosaiclaw09.SpanSets", spec := "spanSets", unfollowed := true, recurses := true, apart := false, narrowed := true }
def SpanSetsUptoSaid : Prop := spanSetsUptoRow.holds Try.pinned (OpenSpec.upto spanSetsSpec)

/-- 'mosaiclaw09.SpanNorms', WHERE WHAT IT READS IS OF BULK AT MOST 1048576: true; the input reads as it did. -/
def spanNormsUptoRow : OpenClaim := { program := "ytmfckkgebdfhjaa", sum := "9532f37ca91f70dcc2cd8b1a7a2a209e9b498fb66c6b07b0fcf0c0192f8a2193", func := "mosaic/mosaiclaw09.SpanNorms", spec := "spanNorms", unfollowed := true, recurses := true, apart := false, narrowed := true }
def SpanNormsUptoSaid : Prop := spanNormsUptoRow.holds Try.pinned (OpenSpec.upto spanNormsSpec)

/-- 'mosaiclaw09.SpanHoles', WHERE WHAT IT READS IS OF BULK AT MOST 1048576: true; the input reads as it did. -/
def spanHolesUptoRow : OpenClaim := { program := "ytmfckkgebdfhjaa", sum := "9532f37ca91f70dcc2cd8b1a7a2a209e9b498fb66c6b07b0fcf0c0192f8a2193", func := "mosaic/mosaiclaw09.SpanHoles", spec := "spanHoles", unfollowed := true, recurses := true, apart := false, narrowed := true }
def SpanHolesUptoSaid : Prop := spanHolesUptoRow.holds Try.pinned (OpenSpec.upto spanHolesSpec)

/-- 'mosaiclaw09.SpanMemory', WHERE WHAT IT READS IS OF BULK AT MOST 1048576: true; the input reads as it did. -/
def spanMemoryUptoRow : OpenClaim := { program := "ytmfckkgebdfhjaa", sum := "9532f37ca91f70dcc2cd8b1a7a2a209e9b498fb66c6b07b0fcf0c0192f8a2193", func := "mosaic/mosaiclaw09.SpanMemory", spec := "spanMemory", unfollowed := true, recurses := true, apart := false, narrowed := true }
def SpanMemoryUptoSaid : Prop := spanMemoryUptoRow.holds Try.pinned (OpenSpec.upto spanMemorySpec)

end Rows
end Go.Proofs.Ytmfckkgebdfhjaa
