/-
  NARROWER THAN 'FOR EVERY INPUT', by the rows' own cells (each row's printed sentence says how): PlateauAsks: laid · PlateauSteps: laid · PlateauEnds: laid · PlateauKeeps: laid.
  DERIVED. THE GIVEN ROWS OF THIS SEAT. 4 by the template 'for every input the law returns true; each argument reads behind the call as it read before'; 0 by the template 'total and deterministic' (their statements: YtffdjplhnbkgfaaDoorTotals.lean).
  GIVEN WITH THE SEED: the statements are not yours to turn. If you find one false, say at which input.
  Laid BY PROGRAM, IN A SANDBOX (cutbox-rows.mjs): the forced cells as the released guide's own fill.sh prints them over the translation 20d1b495a94bb46c… (all of the seat's roots in one cut). By AI agents, Wed Nov 11 2026. No macro, syntax, notation, axiom, sorry.
-/
import Derived.Test.YtffdjplhnbkgfaaDoorChecked
import GoSem.Claim
import GoSem.ClaimJoined
import GoSem.ClaimMapViews
import Derived.JoinedTies
import Derived.KernelRfl
namespace Go.Proofs.YtffdjplhnbkgfaaDoor
/- THE CELL 'sum', in the pinned program and in every row, IS THE sha256 OF THE DUMP (.gsa) THAT YtffdjplhnbkgfaaDoorProg.lean LOADS. Nothing in Lean hashes anything: it is a label: what it is worth is what the hold of that sum in a sandbox is worth. -/
noncomputable def Tryd.pinned : Pinned := { name := "ytffdjplhnbkgfaadoor", sum := "20d1b495a94bb46c8e28dcedccd87224c243f0b28ef91027cc8ca30e1a04ab28", checked := Tryd.checked }
namespace Rows
def none {H : Type} : Left H := { results := [], args := [] }

/- WHAT THE LISTED PACKAGE-LEVEL VARIABLES READ AS WHEN THE CALL BEGINS. Each datum BY PROGRAM (the guide's laid-datum.mjs) off the statement by which the dump's own 'gosem.cut.vars' lays the variable. In a bare row this is a premise. The card (YtffdjplhnbkgfaaDoorCards.lean) ties it to the program's text. -/
def laid_mosaic_plateau_plateaus {H : Type} : DataW H := .agg [.lit (.int .i64 65535), .lit (.int .i64 32000), .lit (.int .i64 17914), .lit (.int .i64 8166), .lit (.int .i64 4352), .lit (.int .i64 2002), .lit (.int .i64 1492), .lit (.int .i64 1280), .lit (.int .i64 1006), .lit (.int .i64 508), .lit (.int .i64 296), .lit (.int .i64 68)]

/-- 'mosaiclaw16.PlateauAsks': WHATEVER THE INPUT: true; the input reads as it did. -/
def plateauAsksSpec : ChangeSpec := { name := "plateauAsks", fn := fun _ => fun
  | [d] => { results := [.lit (.bool true)], args := [d] }
  | _ => none }
def plateauAsksRow : OpenClaim := { program := "ytffdjplhnbkgfaadoor", sum := "20d1b495a94bb46c8e28dcedccd87224c243f0b28ef91027cc8ca30e1a04ab28", func := "mosaic/mosaiclaw16.PlateauAsks", spec := "plateauAsks", named := ["mosaic/plateau.plateaus"], apart := false, laid := [("mosaic/plateau.plateaus", laid_mosaic_plateau_plateaus)] }
def PlateauAsksSaid : Prop := plateauAsksRow.holds Tryd.pinned (OpenSpec.ofChange plateauAsksSpec)

/-- ITS FALSE NEIGHBOUR: 'it returns false'. Refute it at one input. -/
def plateauAsksWrong : ChangeSpec := { name := "plateauAsks", fn := fun _ => fun
  | [d] => { results := [.lit (.bool false)], args := [d] }
  | _ => none }
def PlateauAsksWrongFalsely : Prop := plateauAsksRow.holds Tryd.pinned (OpenSpec.ofChange plateauAsksWrong)

/-- 'mosaiclaw16.PlateauSteps': WHATEVER THE INPUT: true; the input reads as it did. -/
def plateauStepsSpec : ChangeSpec := { name := "plateauSteps", fn := fun _ => fun
  | [d1, d2, d3] => { results := [.lit (.bool true)], args := [d1, d2, d3] }
  | _ => none }
def plateauStepsRow : OpenClaim := { program := "ytffdjplhnbkgfaadoor", sum := "20d1b495a94bb46c8e28dcedccd87224c243f0b28ef91027cc8ca30e1a04ab28", func := "mosaic/mosaiclaw16.PlateauSteps", spec := "plateauSteps", named := ["mosaic/plateau.plateaus"], apart := false, laid := [("mosaic/plateau.plateaus", laid_mosaic_plateau_plateaus)] }
def PlateauStepsSaid : Prop := plateauStepsRow.holds Tryd.pinned (OpenSpec.ofChange plateauStepsSpec)

/-- ITS FALSE NEIGHBOUR: 'it returns false'. Refute it at one input. -/
def plateauStepsWrong : ChangeSpec := { name := "plateauSteps", fn := fun _ => fun
  | [d1, d2, d3] => { results := [.lit (.bool false)], args := [d1, d2, d3] }
  | _ => none }
def PlateauStepsWrongFalsely : Prop := plateauStepsRow.holds Tryd.pinned (OpenSpec.ofChange plateauStepsWrong)

/-- 'mosaiclaw16.PlateauEnds': WHATEVER THE INPUT: true; the input reads as it did. -/
def plateauEndsSpec : ChangeSpec := { name := "plateauEnds", fn := fun _ => fun
  | [d] => { results := [.lit (.bool true)], args := [d] }
  | _ => none }
def plateauEndsRow : OpenClaim := { program := "ytffdjplhnbkgfaadoor", sum := "20d1b495a94bb46c8e28dcedccd87224c243f0b28ef91027cc8ca30e1a04ab28", func := "mosaic/mosaiclaw16.PlateauEnds", spec := "plateauEnds", named := ["mosaic/plateau.plateaus"], apart := false, laid := [("mosaic/plateau.plateaus", laid_mosaic_plateau_plateaus)] }
def PlateauEndsSaid : Prop := plateauEndsRow.holds Tryd.pinned (OpenSpec.ofChange plateauEndsSpec)

/-- ITS FALSE NEIGHBOUR: 'it returns false'. Refute it at one input. -/
def plateauEndsWrong : ChangeSpec := { name := "plateauEnds", fn := fun _ => fun
  | [d] => { results := [.lit (.bool false)], args := [d] }
  | _ => none }
def PlateauEndsWrongFalsely : Prop := plateauEndsRow.holds Tryd.pinned (OpenSpec.ofChange plateauEndsWrong)

/-- 'mosaiclaw16.PlateauKeeps': WHATEVER THE INPUT: true; the input reads as it did. -/
def plateauKeepsSpec : ChangeSpec := { name := "plateauKeeps", fn := fun _ => fun
  | [d] => { results := [.lit (.bool true)], args := [d] }
  | _ => none }
def plateauKeepsRow : OpenClaim := { program := "ytffdjplhnbkgfaadoor", sum := "20d1b495a94bb46c8e28dcedccd87224c243f0b28ef91027cc8ca30e1a04ab28", func := "mosaic/mosaiclaw16.PlateauKeeps", spec := "plateauKeeps", named := ["mosaic/plateau.plateaus"], apart := false, laid := [("mosaic/plateau.plateaus", laid_mosaic_plateau_plateaus)] }
def PlateauKeepsSaid : Prop := plateauKeepsRow.holds Tryd.pinned (OpenSpec.ofChange plateauKeepsSpec)

/-- ITS FALSE NEIGHBOUR: 'it returns false'. Refute it at one input. -/
def plateauKeepsWrong : ChangeSpec := { name := "plateauKeeps", fn := fun _ => fun
  | [d] => { results := [.lit (.bool false)], args := [d] }
  | _ => none }
def PlateauKeepsWrongFalsely : Prop := plateauKeepsRow.holds Tryd.pinned (OpenSpec.ofChange plateauKeepsWrong)

/- THE SECOND FORM. 'bulk': how many values and letters a reading holds, each counted each time it is reached (what is shared counts as often as it is met; a slice's spare places count too). A statement '..UptoSaid' is the law's where the arguments, and the package variables that the reading takes, are together of bulk at most 1048576: NARROWER than '..Said'. Prove '..Said' where nothing that the law and all that it calls make is longer than what came in: it says more and counts as full. Else prove '..UptoSaid'. A law counts once. -/
mutual
def uptoBulk {H : Type} : DataW H → Nat
  | .lit (.string bytes) => bytes.length + 1
  | .lit _ => 1
  | .nil => 1
  | .ptr d => uptoBulk d + 1
  | .slice elems spare => uptoBulkAll elems + uptoBulkAll spare + 1
  | .agg parts => uptoBulkAll parts + 1
  | .iface _ d => uptoBulk d + 1
  | .map entries => uptoBulkEntries entries + 1
  | .held _ => 1
def uptoBulkAll {H : Type} : List (DataW H) → Nat
  | [] => 0
  | d :: r => uptoBulk d + uptoBulkAll r
def uptoBulkEntries {H : Type} : List (Lit × DataW H) → Nat
  | [] => 0
  | x :: r => uptoBulkEntry x + uptoBulkEntries r
def uptoBulkEntry {H : Type} : Lit × DataW H → Nat
  | (.string bytes, d) => bytes.length + uptoBulk d + 1
  | (_, d) => uptoBulk d + 1
 end
def uptoSmall : (H : Type) → List (DataW H) → Bool := fun _ ds => decide (uptoBulkAll ds ≤ 1048576)
def OpenSpec.upto (s : _root_.Go.ChangeSpec) : _root_.Go.OpenSpec := { _root_.Go.OpenSpec.ofChange s with cond := some uptoSmall }

/-- 'mosaiclaw16.PlateauAsks', WHERE WHAT IT READS IS OF BULK AT MOST 1048576: true; the input reads as it did. -/
def plateauAsksUptoRow : OpenClaim := { program := "ytffdjplhnbkgfaadoor", sum := "20d1b495a94bb46c8e28dcedccd87224c243f0b28ef91027cc8ca30e1a04ab28", func := "mosaic/mosaiclaw16.PlateauAsks", spec := "plateauAsks", named := ["mosaic/plateau.plateaus"], apart := false, laid := [("mosaic/plateau.plateaus", laid_mosaic_plateau_plateaus)], narrowed := true }
def PlateauAsksUptoSaid : Prop := plateauAsksUptoRow.holds Tryd.pinned (OpenSpec.upto plateauAsksSpec)

/-- 'mosaiclaw16.PlateauSteps', WHERE WHAT IT READS IS OF BULK AT MOST 1048576: true; the input reads as it did. -/
def plateauStepsUptoRow : OpenClaim := { program := "ytffdjplhnbkgfaadoor", sum := "20d1b495a94bb46c8e28dcedccd87224c243f0b28ef91027cc8ca30e1a04ab28", func := "mosaic/mosaiclaw16.PlateauSteps", spec := "plateauSteps", named := ["mosaic/plateau.plateaus"], apart := false, laid := [("mosaic/plateau.plateaus", laid_mosaic_plateau_plateaus)], narrowed := true }
def PlateauStepsUptoSaid : Prop := plateauStepsUptoRow.holds Tryd.pinned (OpenSpec.upto plateauStepsSpec)

/-- 'mosaiclaw16.PlateauEnds', WHERE WHAT IT READS IS OF BULK AT MOST 1048576: true; the input reads as it did. -/
def plateauEndsUptoRow : OpenClaim := { program := "ytffdjplhnbkgfaadoor", sum := "20d1b495a94bb46c8e28dcedccd87224c243f0b28ef91027cc8ca30e1a04ab28", func := "mosaic/mosaiclaw16.PlateauEnds", spec := "plateauEnds", named := ["mosaic/plateau.plateaus"], apart := false, laid := [("mosaic/plateau.plateaus", laid_mosaic_plateau_plateaus)], narrowed := true }
def PlateauEndsUptoSaid : Prop := plateauEndsUptoRow.holds Tryd.pinned (OpenSpec.upto plateauEndsSpec)

/-- 'mosaiclaw16.PlateauKeeps', WHERE WHAT IT READS IS OF BULK AT MOST 1048576: true; the input reads as it did. -/
def plateauKeepsUptoRow : OpenClaim := { program := "ytffdjplhnbkgfaadoor", sum := "20d1b495a94bb46c8e28dcedccd87224c243f0b28ef91027cc8ca30e1a04ab28", func := "mosaic/mosaiclaw16.PlateauKeeps", spec := "plateauKeeps", named := ["mosaic/plateau.plateaus"], apart := false, laid := [("mosaic/plateau.plateaus", laid_mosaic_plateau_plateaus)], narrowed := true }
def PlateauKeepsUptoSaid : Prop := plateauKeepsUptoRow.holds Tryd.pinned (OpenSpec.upto plateauKeepsSpec)

end Rows
end Go.Proofs.YtffdjplhnbkgfaaDoor
