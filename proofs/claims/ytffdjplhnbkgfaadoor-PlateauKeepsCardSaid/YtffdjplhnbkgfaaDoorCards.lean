/-
  DERIVED. GIVEN WITH THE SEED: THE CARDS: each row of YtffdjplhnbkgfaaDoorRows.lean that lists a variable, with what it lists TIED to the program's text (the seventh form; the later family's looks); each row that meets fmt, with fmt's text TOLD by the authors' own Lean function (tested against real Go, not proved from fmt's source: count such statements apart). THE CARD IS WHAT COUNTS. Prove the row's statement (the work); the ties are given (YtffdjplhnbkgfaaDoorTie.lean); close each card by the builder's one call (the guide's Derived/Test/ToyasCard.lean, 'card_holds'). Laid BY PROGRAM, IN A SANDBOX (cutbox-door.mjs). By AI agents, Wed Nov 11 2026. No macro, syntax, notation, axiom, sorry.
-/
import Derived.Test.YtffdjplhnbkgfaaDoorRows
import GoSem.ClaimSeven
namespace Go.Proofs.YtffdjplhnbkgfaaDoor
namespace Rows

/-- THE TIED CARD OF 'mosaiclaw16.PlateauAsks'. -/
def plateauAsksCard : Claim7 := { stood := { row := plateauAsksRow, standIns := [], harness := (true, "314be4e6fc4492a2126cea346de29b70161cb97f4a16af10602ae3b90c5379e4"), looks := false }, kinds := [], alts := [], laidByText := true, laidKinds := [.data], laidTests := true, laidLooks := .later }
def PlateauAsksCardSaid : Prop := Claim7.holds Tryd.pinned (.plain (OpenSpec.ofChange plateauAsksSpec)) plateauAsksCard

/-- THE TIED CARD OF 'mosaiclaw16.PlateauSteps'. -/
def plateauStepsCard : Claim7 := { stood := { row := plateauStepsRow, standIns := [], harness := (true, "314be4e6fc4492a2126cea346de29b70161cb97f4a16af10602ae3b90c5379e4"), looks := false }, kinds := [], alts := [], laidByText := true, laidKinds := [.data], laidTests := true, laidLooks := .later }
def PlateauStepsCardSaid : Prop := Claim7.holds Tryd.pinned (.plain (OpenSpec.ofChange plateauStepsSpec)) plateauStepsCard

/-- THE TIED CARD OF 'mosaiclaw16.PlateauEnds'. -/
def plateauEndsCard : Claim7 := { stood := { row := plateauEndsRow, standIns := [], harness := (true, "314be4e6fc4492a2126cea346de29b70161cb97f4a16af10602ae3b90c5379e4"), looks := false }, kinds := [], alts := [], laidByText := true, laidKinds := [.data], laidTests := true, laidLooks := .later }
def PlateauEndsCardSaid : Prop := Claim7.holds Tryd.pinned (.plain (OpenSpec.ofChange plateauEndsSpec)) plateauEndsCard

/-- THE TIED CARD OF 'mosaiclaw16.PlateauKeeps'. -/
def plateauKeepsCard : Claim7 := { stood := { row := plateauKeepsRow, standIns := [], harness := (true, "314be4e6fc4492a2126cea346de29b70161cb97f4a16af10602ae3b90c5379e4"), looks := false }, kinds := [], alts := [], laidByText := true, laidKinds := [.data], laidTests := true, laidLooks := .later }
def PlateauKeepsCardSaid : Prop := Claim7.holds Tryd.pinned (.plain (OpenSpec.ofChange plateauKeepsSpec)) plateauKeepsCard

/-- THE SECOND FORM's CARD OF 'mosaiclaw16.PlateauAsks'. -/
def plateauAsksUptoCard : Claim7 := { stood := { row := plateauAsksUptoRow, standIns := [], harness := (true, "314be4e6fc4492a2126cea346de29b70161cb97f4a16af10602ae3b90c5379e4"), looks := false }, kinds := [], alts := [], laidByText := true, laidKinds := [.data], laidTests := true, laidLooks := .later }
def PlateauAsksUptoCardSaid : Prop := Claim7.holds Tryd.pinned (.plain (OpenSpec.upto plateauAsksSpec)) plateauAsksUptoCard

/-- THE SECOND FORM's CARD OF 'mosaiclaw16.PlateauSteps'. -/
def plateauStepsUptoCard : Claim7 := { stood := { row := plateauStepsUptoRow, standIns := [], harness := (true, "314be4e6fc4492a2126cea346de29b70161cb97f4a16af10602ae3b90c5379e4"), looks := false }, kinds := [], alts := [], laidByText := true, laidKinds := [.data], laidTests := true, laidLooks := .later }
def PlateauStepsUptoCardSaid : Prop := Claim7.holds Tryd.pinned (.plain (OpenSpec.upto plateauStepsSpec)) plateauStepsUptoCard

/-- THE SECOND FORM's CARD OF 'mosaiclaw16.PlateauEnds'. -/
def plateauEndsUptoCard : Claim7 := { stood := { row := plateauEndsUptoRow, standIns := [], harness := (true, "314be4e6fc4492a2126cea346de29b70161cb97f4a16af10602ae3b90c5379e4"), looks := false }, kinds := [], alts := [], laidByText := true, laidKinds := [.data], laidTests := true, laidLooks := .later }
def PlateauEndsUptoCardSaid : Prop := Claim7.holds Tryd.pinned (.plain (OpenSpec.upto plateauEndsSpec)) plateauEndsUptoCard

/-- THE SECOND FORM's CARD OF 'mosaiclaw16.PlateauKeeps'. -/
def plateauKeepsUptoCard : Claim7 := { stood := { row := plateauKeepsUptoRow, standIns := [], harness := (true, "314be4e6fc4492a2126cea346de29b70161cb97f4a16af10602ae3b90c5379e4"), looks := false }, kinds := [], alts := [], laidByText := true, laidKinds := [.data], laidTests := true, laidLooks := .later }
def PlateauKeepsUptoCardSaid : Prop := Claim7.holds Tryd.pinned (.plain (OpenSpec.upto plateauKeepsSpec)) plateauKeepsUptoCard
end Rows
end Go.Proofs.YtffdjplhnbkgfaaDoor
