/-
  No cell of these rows narrows 'for every input' (looked for: loops, veiled, ifaces, maps, wideKeys, modest, calm, conditions, laid).
  DERIVED. THE GIVEN ROWS OF THIS SEAT. 5 by the template 'for every input the law returns true; each argument reads behind the call as it read before'; 0 by the template 'total and deterministic' (their statements: YtdlgocieecfpbaaTotals.lean).
  GIVEN WITH THE SEED: the statements are not yours to turn. If you find one false, say at which input.
  Laid BY PROGRAM, IN A SANDBOX (cutbox-rows.mjs): the forced cells as the released guide's own fill.sh prints them over the translation c1cb724052d256f6… (all of the seat's roots in one cut). By AI agents, Wed Nov 11 2026. No macro, syntax, notation, axiom, sorry.
-/
import Derived.Test.YtdlgocieecfpbaaChecked
import GoSem.Claim
import GoSem.ClaimJoined
import GoSem.ClaimMapViews
import Derived.JoinedTies
import Derived.KernelRfl
namespace Go.Proofs.Ytdlgocieecfpbaa
/- THE CELL 'sum', in the pinned program and in every row, IS THE sha256 OF THE DUMP (.gsa) THAT YtdlgocieecfpbaaProg.lean LOADS. Nothing in Lean hashes anything: it is a label: what it is worth is what the hold of that sum in a sandbox is worth. -/
noncomputable def Try.pinned : Pinned := { name := "ytdlgocieecfpbaa", sum := "c1cb724052d256f6fea9b390f43838a5493dcea70642ca91fb28fce1e7bbd08b", checked := Try.checked }
namespace Rows
def none {H : Type} : Left H := { results := [], args := [] }

/-- 'mosaiclaw13.HolesPlays': WHATEVER THE INPUT: true; the input reads as it did. -/
def holesPlaysSpec : ChangeSpec := { name := "holesPlays", fn := fun _ => fun
  | [d1, d2] => { results := [.lit (.bool true)], args := [d1, d2] }
  | _ => none }
def holesPlaysRow : OpenClaim := { program := "ytdlgocieecfpbaa", sum := "c1cb724052d256f6fea9b390f43838a5493dcea70642ca91fb28fce1e7bbd08b", func := "mosaic/mosaiclaw13.HolesPlays", spec := "holesPlays", unfollowed := true, recurses := true, apart := false }
def HolesPlaysSaid : Prop := holesPlaysRow.holds Try.pinned (OpenSpec.ofChange holesPlaysSpec)

/-- ITS FALSE NEIGHBOUR: 'it returns false'. Refute it at one input. -/
def holesPlaysWrong : ChangeSpec := { name := "holesPlays", fn := fun _ => fun
  | [d1, d2] => { results := [.lit (.bool false)], args := [d1, d2] }
  | _ => none }
def HolesPlaysWrongFalsely : Prop := holesPlaysRow.holds Try.pinned (OpenSpec.ofChange holesPlaysWrong)

/-- 'mosaiclaw13.HolesOnce': WHATEVER THE INPUT: true; the input reads as it did. -/
def holesOnceSpec : ChangeSpec := { name := "holesOnce", fn := fun _ => fun
  | [d] => { results := [.lit (.bool true)], args := [d] }
  | _ => none }
def holesOnceRow : OpenClaim := { program := "ytdlgocieecfpbaa", sum := "c1cb724052d256f6fea9b390f43838a5493dcea70642ca91fb28fce1e7bbd08b", func := "mosaic/mosaiclaw13.HolesOnce", spec := "holesOnce", unfollowed := true, recurses := true, apart := false }
def HolesOnceSaid : Prop := holesOnceRow.holds Try.pinned (OpenSpec.ofChange holesOnceSpec)

/-- ITS FALSE NEIGHBOUR: 'it returns false'. Refute it at one input. -/
def holesOnceWrong : ChangeSpec := { name := "holesOnce", fn := fun _ => fun
  | [d] => { results := [.lit (.bool false)], args := [d] }
  | _ => none }
def HolesOnceWrongFalsely : Prop := holesOnceRow.holds Try.pinned (OpenSpec.ofChange holesOnceWrong)

/-- 'mosaiclaw13.HolesOrders': WHATEVER THE INPUT: true; the input reads as it did. -/
def holesOrdersSpec : ChangeSpec := { name := "holesOrders", fn := fun _ => fun
  | [d1, d2] => { results := [.lit (.bool true)], args := [d1, d2] }
  | _ => none }
def holesOrdersRow : OpenClaim := { program := "ytdlgocieecfpbaa", sum := "c1cb724052d256f6fea9b390f43838a5493dcea70642ca91fb28fce1e7bbd08b", func := "mosaic/mosaiclaw13.HolesOrders", spec := "holesOrders", unfollowed := true, recurses := true, apart := false }
def HolesOrdersSaid : Prop := holesOrdersRow.holds Try.pinned (OpenSpec.ofChange holesOrdersSpec)

/-- ITS FALSE NEIGHBOUR: 'it returns false'. Refute it at one input. -/
def holesOrdersWrong : ChangeSpec := { name := "holesOrders", fn := fun _ => fun
  | [d1, d2] => { results := [.lit (.bool false)], args := [d1, d2] }
  | _ => none }
def HolesOrdersWrongFalsely : Prop := holesOrdersRow.holds Try.pinned (OpenSpec.ofChange holesOrdersWrong)

/-- 'mosaiclaw13.HolesCuts': WHATEVER THE INPUT: true; the input reads as it did. -/
def holesCutsSpec : ChangeSpec := { name := "holesCuts", fn := fun _ => fun
  | [d1, d2, d3, d4] => { results := [.lit (.bool true)], args := [d1, d2, d3, d4] }
  | _ => none }
def holesCutsRow : OpenClaim := { program := "ytdlgocieecfpbaa", sum := "c1cb724052d256f6fea9b390f43838a5493dcea70642ca91fb28fce1e7bbd08b", func := "mosaic/mosaiclaw13.HolesCuts", spec := "holesCuts", unfollowed := true, recurses := true, apart := false }
def HolesCutsSaid : Prop := holesCutsRow.holds Try.pinned (OpenSpec.ofChange holesCutsSpec)

/-- ITS FALSE NEIGHBOUR: 'it returns false'. Refute it at one input. -/
def holesCutsWrong : ChangeSpec := { name := "holesCuts", fn := fun _ => fun
  | [d1, d2, d3, d4] => { results := [.lit (.bool false)], args := [d1, d2, d3, d4] }
  | _ => none }
def HolesCutsWrongFalsely : Prop := holesCutsRow.holds Try.pinned (OpenSpec.ofChange holesCutsWrong)

/-- 'mosaiclaw13.HolesKeeps': WHATEVER THE INPUT: true; the input reads as it did. -/
def holesKeepsSpec : ChangeSpec := { name := "holesKeeps", fn := fun _ => fun
  | [d1, d2] => { results := [.lit (.bool true)], args := [d1, d2] }
  | _ => none }
def holesKeepsRow : OpenClaim := { program := "ytdlgocieecfpbaa", sum := "c1cb724052d256f6fea9b390f43838a5493dcea70642ca91fb28fce1e7bbd08b", func := "mosaic/mosaiclaw13.HolesKeeps", spec := "holesKeeps", unfollowed := true, recurses := true, apart := false }
def HolesKeepsSaid : Prop := holesKeepsRow.holds Try.pinned (OpenSpec.ofChange holesKeepsSpec)

/-- ITS FALSE NEIGHBOUR: 'it returns false'. Refute it at one input. -/
def holesKeepsWrong : ChangeSpec := { name := "holesKeeps", fn := fun _ => fun
  | [d1, d2] => { results := [.lit (.bool false)], args := [d1, d2] }
  | _ => none }
def HolesKeepsWrongFalsely : Prop := holesKeepsRow.holds Try.pinned (OpenSpec.ofChange holesKeepsWrong)

/- THE SECOND FORM. 'bulk': how many values and letters a reading holds, each counted each time it is reached (what is shared counts as often as it is met; a slice's spare places count too). A statement '..UptoSaid' is the law's where the arguments, and the package variables that the reading takes, are together of bulk at most 1048576: NARROWER than '..Said'. Prove '..Said' where nothing that the law and all that it calls make is longer than what came in: it says more and counts as full. Else prove '..UptoSaid'. A law counts once. -/
mutual
def uptoBulk {H : Type} : DataW H → Nat
  | .lit (.string bytes) => bytes.length + 1
  | .lit _ => 1
  | .nil => 1
  | .ptr d => uptoBulk d + 1
  | .slice elems spare => uptoBulkAll elems + uptoBulkAll spare + 1
  | .agg parts => uptoBulkAll parts + 1
  | .iface _ d => uptoBulk d + 1
  | .map entries => uptoBulkEntries entries + 1
  | .held _ => 1
def uptoBulkAll {H : Type} : List (DataW H) → Nat
  | [] => 0
  | d :: r => uptoBulk d + uptoBulkAll r
def uptoBulkEntries {H : Type} : List (Lit × DataW H) → Nat
  | [] => 0
  | x :: r => uptoBulkEntry x + uptoBulkEntries r
def uptoBulkEntry {H : Type} : Lit × DataW H → Nat
  | (.string bytes, d) => bytes.length + uptoBulk d + 1
  | (_, d) => uptoBulk d + 1
 end
def uptoSmall : (H : Type) → List (DataW H) → Bool := fun _ ds => decide (uptoBulkAll ds ≤ 1048576)
def OpenSpec.upto (s : _root_.Go.ChangeSpec) : _root_.Go.OpenSpec := { _root_.Go.OpenSpec.ofChange s with cond := some uptoSmall }

/-- 'mosaiclaw13.HolesPlays', WHERE WHAT IT READS IS OF BULK AT MOST 1048576: true; the input reads as it did. -/
def holesPlaysUptoRow : OpenClaim := { program := "ytdlgocieecfpbaa", sum := "c1cb724052d256f6fea9b390f43838a5493dcea70642ca91fb28fce1e7bbd08b", func := "mosaic/mosaiclaw13.HolesPlays", spec := "holesPlays", unfollowed := true, recurses := true, apart := false, narrowed := true }
def HolesPlaysUptoSaid : Prop := holesPlaysUptoRow.holds Try.pinned (OpenSpec.upto holesPlaysSpec)

/-- 'mosaiclaw13.HolesOnce', WHERE WHAT IT READS IS OF BULK AT MOST 1048576: true; the input reads as it did. -/
def holesOnceUptoRow : OpenClaim := { program := "ytdlgocieecfpbaa", sum := "c1cb724052d256f6fea9b390f43838a5493dcea70642ca91fb28fce1e7bbd08b", func := "mosaic/mosaiclaw13.HolesOnce", spec := "holesOnce", unfollowed := true, recurses := true, apart := false, narrowed := true }
def HolesOnceUptoSaid : Prop := holesOnceUptoRow.holds Try.pinned (OpenSpec.upto holesOnceSpec)

/-- 'mosaiclaw13.HolesOrders', WHERE WHAT IT READS IS OF BULK AT MOST 1048576: true; the input reads as it did. -/
def holesOrdersUptoRow : OpenClaim := { program := "ytdlgocieecfpbaa", sum := "c1cb724052d256f6fea9b390f43838a5493dcea70642ca91fb28fce1e7bbd08b", func := "mosaic/mosaiclaw13.HolesOrders", spec := "holesOrders", unfollowed := true, recurses := true, apart := false, narrowed := true }
def HolesOrdersUptoSaid : Prop := holesOrdersUptoRow.holds Try.pinned (OpenSpec.upto holesOrdersSpec)

/-- 'mosaiclaw13.HolesCuts', WHERE WHAT IT READS IS OF BULK AT MOST 1048576: true; the input reads as it did. -/
def holesCutsUptoRow : OpenClaim := { program := "ytdlgocieecfpbaa", sum := "c1cb724052d256f6fea9b390f43838a5493dcea70642ca91fb28fce1e7bbd08b", func := "mosaic/mosaiclaw13.HolesCuts", spec := "holesCuts", unfollowed := true, recurses := true, apart := false, narrowed := true }
def HolesCutsUptoSaid : Prop := holesCutsUptoRow.holds Try.pinned (OpenSpec.upto holesCutsSpec)

/-- 'mosaiclaw13.HolesKeeps', WHERE WHAT IT READS IS OF BULK AT MOST 1048576: true; the input reads as it did. -/
def holesKeepsUptoRow : OpenClaim := { program := "ytdlgocieecfpbaa", sum := "c1cb724052d256f6fea9b390f43838a5493dcea70642ca91fb28fce1e7bbd08b", func := "mosaic/mosaiclaw13.HolesKeeps", spec := "holesKeeps", unfollowed := true, recurses := true, apart := false, narrowed := true }
def HolesKeepsUptoSaid : Prop := holesKeepsUptoRow.holds Try.pinned (OpenSpec.upto holesKeepsSpec)

end Rows
end Go.Proofs.Ytdlgocieecfpbaa
