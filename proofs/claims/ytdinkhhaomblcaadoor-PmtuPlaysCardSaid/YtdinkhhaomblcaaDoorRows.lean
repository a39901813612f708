/-
  NARROWER THAN 'FOR EVERY INPUT', by the rows' own cells (each row's printed sentence says how): PmtuPlays: laid · PmtuFalls: laid · PmtuRoom: laid · PmtuRises: laid · PmtuBounds: laid · PmtuMemory: laid.
  DERIVED. THE GIVEN ROWS OF THIS SEAT. 6 by the template 'for every input the law returns true; each argument reads behind the call as it read before'; 0 by the template 'total and deterministic' (their statements: YtdinkhhaomblcaaDoorTotals.lean).
  GIVEN WITH THE SEED: the statements are not yours to turn. If you find one false, say at which input.
  Laid BY PROGRAM, IN A SANDBOX (cutbox-rows.mjs): the forced cells as the released guide's own fill.sh prints them over the translation e5026d6a30c3fcb4… (all of the seat's roots in one cut). By AI agents, Wed Nov 11 2026. No macro, syntax, notation, axiom, sorry.
-/
import Derived.Test.YtdinkhhaomblcaaDoorChecked
import GoSem.Claim
import GoSem.ClaimJoined
import GoSem.ClaimMapViews
import Derived.JoinedTies
import Derived.KernelRfl
namespace Go.Proofs.YtdinkhhaomblcaaDoor
/- THE CELL 'sum', in the pinned program and in every row, IS THE sha256 OF THE DUMP (.gsa) THAT YtdinkhhaomblcaaDoorProg.lean LOADS. Nothing in Lean hashes anything: it is a label: what it is worth is what the hold of that sum in a sandbox is worth. -/
noncomputable def Tryd.pinned : Pinned := { name := "ytdinkhhaomblcaadoor", sum := "e5026d6a30c3fcb4abf3e9350f6426d368424ede56423f361b3a93dbe9d53947", checked := Tryd.checked }
namespace Rows
def none {H : Type} : Left H := { results := [], args := [] }

/- WHAT THE LISTED PACKAGE-LEVEL VARIABLES READ AS WHEN THE CALL BEGINS. Each datum BY PROGRAM (the guide's laid-datum.mjs) off the statement by which the dump's own 'gosem.cut.vars' lays the variable. In a bare row this is a premise. The card (YtdinkhhaomblcaaDoorCards.lean) ties it to the program's text. -/
def laid_mosaic_plateau_plateaus {H : Type} : DataW H := .agg [.lit (.int .i64 65535), .lit (.int .i64 32000), .lit (.int .i64 17914), .lit (.int .i64 8166), .lit (.int .i64 4352), .lit (.int .i64 2002), .lit (.int .i64 1492), .lit (.int .i64 1280), .lit (.int .i64 1006), .lit (.int .i64 508), .lit (.int .i64 296), .lit (.int .i64 68)]

/-- 'mosaiclaw18.PmtuPlays': WHATEVER THE INPUT: true; the input reads as it did. -/
def pmtuPlaysSpec : ChangeSpec := { name := "pmtuPlays", fn := fun _ => fun
  | [d] => { results := [.lit (.bool true)], args := [d] }
  | _ => none }
def pmtuPlaysRow : OpenClaim := { program := "ytdinkhhaomblcaadoor", sum := "e5026d6a30c3fcb4abf3e9350f6426d368424ede56423f361b3a93dbe9d53947", func := "mosaic/mosaiclaw18.PmtuPlays", spec := "pmtuPlays", inPlace := ["internal/bytealg.Compare"], unfollowed := true, recurses := true, named := ["mosaic/plateau.plateaus"], plainKeys := false, apart := false, laid := [("mosaic/plateau.plateaus", laid_mosaic_plateau_plateaus)] }
def PmtuPlaysSaid : Prop := pmtuPlaysRow.holds Tryd.pinned (OpenSpec.ofChange pmtuPlaysSpec)

/-- ITS FALSE NEIGHBOUR: 'it returns false'. Refute it at one input. -/
def pmtuPlaysWrong : ChangeSpec := { name := "pmtuPlays", fn := fun _ => fun
  | [d] => { results := [.lit (.bool false)], args := [d] }
  | _ => none }
def PmtuPlaysWrongFalsely : Prop := pmtuPlaysRow.holds Tryd.pinned (OpenSpec.ofChange pmtuPlaysWrong)

/-- 'mosaiclaw18.PmtuFalls': WHATEVER THE INPUT: true; the input reads as it did. -/
def pmtuFallsSpec : ChangeSpec := { name := "pmtuFalls", fn := fun _ => fun
  | [d1, d2, d3, d4] => { results := [.lit (.bool true)], args := [d1, d2, d3, d4] }
  | _ => none }
def pmtuFallsRow : OpenClaim := { program := "ytdinkhhaomblcaadoor", sum := "e5026d6a30c3fcb4abf3e9350f6426d368424ede56423f361b3a93dbe9d53947", func := "mosaic/mosaiclaw18.PmtuFalls", spec := "pmtuFalls", inPlace := ["internal/bytealg.Compare"], unfollowed := true, recurses := true, named := ["mosaic/plateau.plateaus"], plainKeys := false, apart := false, laid := [("mosaic/plateau.plateaus", laid_mosaic_plateau_plateaus)] }
def PmtuFallsSaid : Prop := pmtuFallsRow.holds Tryd.pinned (OpenSpec.ofChange pmtuFallsSpec)

/-- ITS FALSE NEIGHBOUR: 'it returns false'. Refute it at one input. -/
def pmtuFallsWrong : ChangeSpec := { name := "pmtuFalls", fn := fun _ => fun
  | [d1, d2, d3, d4] => { results := [.lit (.bool false)], args := [d1, d2, d3, d4] }
  | _ => none }
def PmtuFallsWrongFalsely : Prop := pmtuFallsRow.holds Tryd.pinned (OpenSpec.ofChange pmtuFallsWrong)

/-- 'mosaiclaw18.PmtuRoom': WHATEVER THE INPUT: true; the input reads as it did. -/
def pmtuRoomSpec : ChangeSpec := { name := "pmtuRoom", fn := fun _ => fun
  | [d1, d2] => { results := [.lit (.bool true)], args := [d1, d2] }
  | _ => none }
def pmtuRoomRow : OpenClaim := { program := "ytdinkhhaomblcaadoor", sum := "e5026d6a30c3fcb4abf3e9350f6426d368424ede56423f361b3a93dbe9d53947", func := "mosaic/mosaiclaw18.PmtuRoom", spec := "pmtuRoom", inPlace := ["internal/bytealg.Compare"], unfollowed := true, recurses := true, named := ["mosaic/plateau.plateaus"], plainKeys := false, apart := false, laid := [("mosaic/plateau.plateaus", laid_mosaic_plateau_plateaus)] }
def PmtuRoomSaid : Prop := pmtuRoomRow.holds Tryd.pinned (OpenSpec.ofChange pmtuRoomSpec)

/-- ITS FALSE NEIGHBOUR: 'it returns false'. Refute it at one input. -/
def pmtuRoomWrong : ChangeSpec := { name := "pmtuRoom", fn := fun _ => fun
  | [d1, d2] => { results := [.lit (.bool false)], args := [d1, d2] }
  | _ => none }
def PmtuRoomWrongFalsely : Prop := pmtuRoomRow.holds Tryd.pinned (OpenSpec.ofChange pmtuRoomWrong)

/-- 'mosaiclaw18.PmtuRises': WHATEVER THE INPUT: true; the input reads as it did. -/
def pmtuRisesSpec : ChangeSpec := { name := "pmtuRises", fn := fun _ => fun
  | [d1, d2, d3, d4, d5] => { results := [.lit (.bool true)], args := [d1, d2, d3, d4, d5] }
  | _ => none }
def pmtuRisesRow : OpenClaim := { program := "ytdinkhhaomblcaadoor", sum := "e5026d6a30c3fcb4abf3e9350f6426d368424ede56423f361b3a93dbe9d53947", func := "mosaic/mosaiclaw18.PmtuRises", spec := "pmtuRises", inPlace := ["internal/bytealg.Compare"], unfollowed := true, recurses := true, named := ["mosaic/plateau.plateaus"], plainKeys := false, apart := false, laid := [("mosaic/plateau.plateaus", laid_mosaic_plateau_plateaus)] }
def PmtuRisesSaid : Prop := pmtuRisesRow.holds Tryd.pinned (OpenSpec.ofChange pmtuRisesSpec)

/-- ITS FALSE NEIGHBOUR: 'it returns false'. Refute it at one input. -/
def pmtuRisesWrong : ChangeSpec := { name := "pmtuRises", fn := fun _ => fun
  | [d1, d2, d3, d4, d5] => { results := [.lit (.bool false)], args := [d1, d2, d3, d4, d5] }
  | _ => none }
def PmtuRisesWrongFalsely : Prop := pmtuRisesRow.holds Tryd.pinned (OpenSpec.ofChange pmtuRisesWrong)

/-- 'mosaiclaw18.PmtuBounds': WHATEVER THE INPUT: true; the input reads as it did. -/
def pmtuBoundsSpec : ChangeSpec := { name := "pmtuBounds", fn := fun _ => fun
  | [d1, d2, d3, d4, d5] => { results := [.lit (.bool true)], args := [d1, d2, d3, d4, d5] }
  | _ => none }
def pmtuBoundsRow : OpenClaim := { program := "ytdinkhhaomblcaadoor", sum := "e5026d6a30c3fcb4abf3e9350f6426d368424ede56423f361b3a93dbe9d53947", func := "mosaic/mosaiclaw18.PmtuBounds", spec := "pmtuBounds", inPlace := ["internal/bytealg.Compare"], unfollowed := true, recurses := true, named := ["mosaic/plateau.plateaus"], plainKeys := false, apart := false, laid := [("mosaic/plateau.plateaus", laid_mosaic_plateau_plateaus)] }
def PmtuBoundsSaid : Prop := pmtuBoundsRow.holds Tryd.pinned (OpenSpec.ofChange pmtuBoundsSpec)

/-- ITS FALSE NEIGHBOUR: 'it returns false'. Refute it at one input. -/
def pmtuBoundsWrong : ChangeSpec := { name := "pmtuBounds", fn := fun _ => fun
  | [d1, d2, d3, d4, d5] => { results := [.lit (.bool false)], args := [d1, d2, d3, d4, d5] }
  | _ => none }
def PmtuBoundsWrongFalsely : Prop := pmtuBoundsRow.holds Tryd.pinned (OpenSpec.ofChange pmtuBoundsWrong)

/-- 'mosaiclaw18.PmtuMemory': WHATEVER THE INPUT: true; the input reads as it did. -/
def pmtuMemorySpec : ChangeSpec := { name := "pmtuMemory", fn := fun _ => fun
  | [d] => { results := [.lit (.bool true)], args := [d] }
  | _ => none }
def pmtuMemoryRow : OpenClaim := { program := "ytdinkhhaomblcaadoor", sum := "e5026d6a30c3fcb4abf3e9350f6426d368424ede56423f361b3a93dbe9d53947", func := "mosaic/mosaiclaw18.PmtuMemory", spec := "pmtuMemory", inPlace := ["internal/bytealg.Compare"], unfollowed := true, recurses := true, named := ["mosaic/plateau.plateaus"], plainKeys := false, apart := false, laid := [("mosaic/plateau.plateaus", laid_mosaic_plateau_plateaus)] }
def PmtuMemorySaid : Prop := pmtuMemoryRow.holds Tryd.pinned (OpenSpec.ofChange pmtuMemorySpec)

/-- ITS FALSE NEIGHBOUR: 'it returns false'. Refute it at one input. -/
def pmtuMemoryWrong : ChangeSpec := { name := "pmtuMemory", fn := fun _ => fun
  | [d] => { results := [.lit (.bool false)], args := [d] }
  | _ => none }
def PmtuMemoryWrongFalsely : Prop := pmtuMemoryRow.holds Tryd.pinned (OpenSpec.ofChange pmtuMemoryWrong)

/- THE SECOND FORM. 'bulk': how many values and letters a reading holds, each counted each time it is reached (what is shared counts as often as it is met; a slice's spare places count too). A statement '..UptoSaid' is the law's where the arguments, and the package variables that the reading takes, are together of bulk at most 1048576: NARROWER than '..Said'. Prove '..Said' where nothing that the law and all that it calls make is longer than what came in: it says more and counts as full. Else prove '..UptoSaid'. A law counts once. -/
mutual
def uptoBulk {H : Type} : DataW H → Nat
  | .lit (.string bytes) => bytes.length + 1
  | .lit _ => 1
  | .nil => 1
  | .ptr d => uptoBulk d + 1
  | .slice elems spare => uptoBulkAll elems + uptoBulkAll spare + 1
  | .agg parts => uptoBulkAll parts + 1
  | .iface _ d => uptoBulk d + 1
  | .map entries => uptoBulkEntries entries + 1
  | .held _ => 1
def uptoBulkAll {H : Type} : List (DataW H) → Nat
  | [] => 0
  | d :: r => uptoBulk d + uptoBulkAll r
def uptoBulkEntries {H : Type} : List (Lit × DataW H) → Nat
  | [] => 0
  | x :: r => uptoBulkEntry x + uptoBulkEntries r
def uptoBulkEntry {H : Type} : Lit × DataW H → Nat
  | (.string bytes, d) => bytes.length + uptoBulk d + 1
  | (_, d) => uptoBulk d + 1
 end
def uptoSmall : (H : Type) → List (DataW H) → Bool := fun _ ds => decide (uptoBulkAll ds ≤ 1048576)
def OpenSpec.upto (s : _root_.Go.ChangeSpec) : _root_.Go.OpenSpec := { _root_.Go.OpenSpec.ofChange s with cond := some uptoSmall }

/-- 'mosaiclaw18.PmtuPlays', WHERE WHAT IT READS IS OF BULK AT MOST 1048576: true; the input reads as it did. -/
def pmtuPlaysUptoRow : OpenClaim := { program := "ytdinkhhaomblcaadoor", sum := "e5026d6a30c3fcb4abf3e9350f6426d368424ede56423f361b3a93dbe9d53947", func := "mosaic/mosaiclaw18.PmtuPlays", spec := "pmtuPlays", inPlace := ["internal/bytealg.Compare"], unfollowed := true, recurses := true, named := ["mosaic/plateau.plateaus"], plainKeys := false, apart := false, laid := [("mosaic/plateau.plateaus", laid_mosaic_plateau_plateaus)], narrowed := true }
def PmtuPlaysUptoSaid : Prop := pmtuPlaysUptoRow.holds Tryd.pinned (OpenSpec.upto pmtuPlaysSpec)

/-- 'mosaiclaw18.PmtuFalls', WHERE WHAT IT READS IS OF BULK AT MOST 1048576: true; the input reads as it did. -/
def pmtuFallsUptoRow : OpenClaim := { program := "ytdinkhhaomblcaadoor", sum := "e5026d6a30c3fcb4abf3e9350f6426d368424ede56423f361b3a93dbe9d53947", func := "mosaic/mosaiclaw18.PmtuFalls", spec := "pmtuFalls", inPlace := ["internal/bytealg.Compare"], unfollowed := true, recurses := true, named := ["mosaic/plateau.plateaus"], plainKeys := false, apart := false, laid := [("mosaic/plateau.plateaus", laid_mosaic_plateau_plateaus)], narrowed := true }
def PmtuFallsUptoSaid : Prop := pmtuFallsUptoRow.holds Tryd.pinned (OpenSpec.upto pmtuFallsSpec)

/-- 'mosaiclaw18.PmtuRoom', WHERE WHAT IT READS IS OF BULK AT MOST 1048576: true; the input reads as it did. -/
def pmtuRoomUptoRow : OpenClaim := { program := "ytdinkhhaomblcaadoor", sum := "e5026d6a30c3fcb4abf3e9350f6426d368424ede56423f361b3a93dbe9d53947", func := "mosaic/mosaiclaw18.PmtuRoom", spec := "pmtuRoom", inPlace := ["internal/bytealg.Compare"], unfollowed := true, recurses := true, named := ["mosaic/plateau.plateaus"], plainKeys := false, apart := false, laid := [("mosaic/plateau.plateaus", laid_mosaic_plateau_plateaus)], narrowed := true }
def PmtuRoomUptoSaid : Prop := pmtuRoomUptoRow.holds Tryd.pinned (OpenSpec.upto pmtuRoomSpec)

/-- 'mosaiclaw18.PmtuRises', WHERE WHAT IT READS IS OF BULK AT MOST 1048576: true; the input reads as it did. -/
def pmtuRisesUptoRow : OpenClaim := { program := "ytdinkhhaomblcaadoor", sum := "e5026d6a30c3fcb4abf3e9350f6426d368424ede56423f361b3a93dbe9d53947", func := "mosaic/mosaiclaw18.PmtuRises", spec := "pmtuRises", inPlace := ["internal/bytealg.Compare"], unfollowed := true, recurses := true, named := ["mosaic/plateau.plateaus"], plainKeys := false, apart := false, laid := [("mosaic/plateau.plateaus", laid_mosaic_plateau_plateaus)], narrowed := true }
def PmtuRisesUptoSaid : Prop := pmtuRisesUptoRow.holds Tryd.pinned (OpenSpec.upto pmtuRisesSpec)

/-- 'mosaiclaw18.PmtuBounds', WHERE WHAT IT READS IS OF BULK AT MOST 1048576: true; the input reads as it did. -/
def pmtuBoundsUptoRow : OpenClaim := { program := "ytdinkhhaomblcaadoor", sum := "e5026d6a30c3fcb4abf3e9350f6426d368424ede56423f361b3a93dbe9d53947", func := "mosaic/mosaiclaw18.PmtuBounds", spec := "pmtuBounds", inPlace := ["internal/bytealg.Compare"], unfollowed := true, recurses := true, named := ["mosaic/plateau.plateaus"], plainKeys := false, apart := false, laid := [("mosaic/plateau.plateaus", laid_mosaic_plateau_plateaus)], narrowed := true }
def PmtuBoundsUptoSaid : Prop := pmtuBoundsUptoRow.holds Tryd.pinned (OpenSpec.upto pmtuBoundsSpec)

/-- 'mosaiclaw18.PmtuMemory', WHERE WHAT IT READS IS OF BULK AT MOST 1048576: true; the input reads as it did. -/
def pmtuMemoryUptoRow : OpenClaim := { program := "ytdinkhhaomblcaadoor", sum := "e5026d6a30c3fcb4abf3e9350f6426d368424ede56423f361b3a93dbe9d53947", func := "mosaic/mosaiclaw18.PmtuMemory", spec := "pmtuMemory", inPlace := ["internal/bytealg.Compare"], unfollowed := true, recurses := true, named := ["mosaic/plateau.plateaus"], plainKeys := false, apart := false, laid := [("mosaic/plateau.plateaus", laid_mosaic_plateau_plateaus)], narrowed := true }
def PmtuMemoryUptoSaid : Prop := pmtuMemoryUptoRow.holds Tryd.pinned (OpenSpec.upto pmtuMemorySpec)

end Rows
end Go.Proofs.YtdinkhhaomblcaaDoor
