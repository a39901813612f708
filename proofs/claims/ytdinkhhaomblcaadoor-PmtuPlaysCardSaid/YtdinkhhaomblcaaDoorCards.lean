/-
  DERIVED. GIVEN WITH THE SEED: THE CARDS: each row of YtdinkhhaomblcaaDoorRows.lean that lists a variable, with what it lists TIED to the program's text (the seventh form; the later family's looks); each row that meets fmt, with fmt's text TOLD by the authors' own Lean function (tested against real Go, not proved from fmt's source: count such statements apart). THE CARD IS WHAT COUNTS. Prove the row's statement (the work); the ties are given (YtdinkhhaomblcaaDoorTie.lean); close each card by the builder's one call (the guide's Derived/Test/ToyasCard.lean, 'card_holds'). Laid BY PROGRAM, IN A SANDBOX (cutbox-door.mjs). By AI agents, Wed Nov 11 2026. No macro, syntax, notation, axiom, sorry.
-/
import Derived.Test.YtdinkhhaomblcaaDoorRows
import GoSem.ClaimSeven
namespace Go.Proofs.YtdinkhhaomblcaaDoor
namespace Rows

/-- THE TIED CARD OF 'mosaiclaw18.PmtuPlays'. -/
def pmtuPlaysCard : Claim7 := { stood := { row := pmtuPlaysRow, standIns := [], harness := (true, "77c8d9cb15cad47e15868afca6b1f45e4d8d6e359ae909563b8970a5f8a474de"), looks := false }, kinds := [], alts := [], laidByText := true, laidKinds := [.data], laidTests := true, laidLooks := .later }
def PmtuPlaysCardSaid : Prop := Claim7.holds Tryd.pinned (.plain (OpenSpec.ofChange pmtuPlaysSpec)) pmtuPlaysCard

/-- THE TIED CARD OF 'mosaiclaw18.PmtuFalls'. -/
def pmtuFallsCard : Claim7 := { stood := { row := pmtuFallsRow, standIns := [], harness := (true, "77c8d9cb15cad47e15868afca6b1f45e4d8d6e359ae909563b8970a5f8a474de"), looks := false }, kinds := [], alts := [], laidByText := true, laidKinds := [.data], laidTests := true, laidLooks := .later }
def PmtuFallsCardSaid : Prop := Claim7.holds Tryd.pinned (.plain (OpenSpec.ofChange pmtuFallsSpec)) pmtuFallsCard

/-- THE TIED CARD OF 'mosaiclaw18.PmtuRoom'. -/
def pmtuRoomCard : Claim7 := { stood := { row := pmtuRoomRow, standIns := [], harness := (true, "77c8d9cb15cad47e15868afca6b1f45e4d8d6e359ae909563b8970a5f8a474de"), looks := false }, kinds := [], alts := [], laidByText := true, laidKinds := [.data], laidTests := true, laidLooks := .later }
def PmtuRoomCardSaid : Prop := Claim7.holds Tryd.pinned (.plain (OpenSpec.ofChange pmtuRoomSpec)) pmtuRoomCard

/-- THE TIED CARD OF 'mosaiclaw18.PmtuRises'. -/
def pmtuRisesCard : Claim7 := { stood := { row := pmtuRisesRow, standIns := [], harness := (true, "77c8d9cb15cad47e15868afca6b1f45e4d8d6e359ae909563b8970a5f8a474de"), looks := false }, kinds := [], alts := [], laidByText := true, laidKinds := [.data], laidTests := true, laidLooks := .later }
def PmtuRisesCardSaid : Prop := Claim7.holds Tryd.pinned (.plain (OpenSpec.ofChange pmtuRisesSpec)) pmtuRisesCard

/-- THE TIED CARD OF 'mosaiclaw18.PmtuBounds'. -/
def pmtuBoundsCard : Claim7 := { stood := { row := pmtuBoundsRow, standIns := [], harness := (true, "77c8d9cb15cad47e15868afca6b1f45e4d8d6e359ae909563b8970a5f8a474de"), looks := false }, kinds := [], alts := [], laidByText := true, laidKinds := [.data], laidTests := true, laidLooks := .later }
def PmtuBoundsCardSaid : Prop := Claim7.holds Tryd.pinned (.plain (OpenSpec.ofChange pmtuBoundsSpec)) pmtuBoundsCard

/-- THE TIED CARD OF 'mosaiclaw18.PmtuMemory'. -/
def pmtuMemoryCard : Claim7 := { stood := { row := pmtuMemoryRow, standIns := [], harness := (true, "77c8d9cb15cad47e15868afca6b1f45e4d8d6e359ae909563b8970a5f8a474de"), looks := false }, kinds := [], alts := [], laidByText := true, laidKinds := [.data], laidTests := true, laidLooks := .later }
def PmtuMemoryCardSaid : Prop := Claim7.holds Tryd.pinned (.plain (OpenSpec.ofChange pmtuMemorySpec)) pmtuMemoryCard

/-- THE SECOND FORM's CARD OF 'mosaiclaw18.PmtuPlays'. -/
def pmtuPlaysUptoCard : Claim7 := { stood := { row := pmtuPlaysUptoRow, standIns := [], harness := (true, "77c8d9cb15cad47e15868afca6b1f45e4d8d6e359ae909563b8970a5f8a474de"), looks := false }, kinds := [], alts := [], laidByText := true, laidKinds := [.data], laidTests := true, laidLooks := .later }
def PmtuPlaysUptoCardSaid : Prop := Claim7.holds Tryd.pinned (.plain (OpenSpec.upto pmtuPlaysSpec)) pmtuPlaysUptoCard

/-- THE SECOND FORM's CARD OF 'mosaiclaw18.PmtuFalls'. -/
def pmtuFallsUptoCard : Claim7 := { stood := { row := pmtuFallsUptoRow, standIns := [], harness := (true, "77c8d9cb15cad47e15868afca6b1f45e4d8d6e359ae909563b8970a5f8a474de"), looks := false }, kinds := [], alts := [], laidByText := true, laidKinds := [.data], laidTests := true, laidLooks := .later }
def PmtuFallsUptoCardSaid : Prop := Claim7.holds Tryd.pinned (.plain (OpenSpec.upto pmtuFallsSpec)) pmtuFallsUptoCard

/-- THE SECOND FORM's CARD OF 'mosaiclaw18.PmtuRoom'. -/
def pmtuRoomUptoCard : Claim7 := { stood := { row := pmtuRoomUptoRow, standIns := [], harness := (true, "77c8d9cb15cad47e15868afca6b1f45e4d8d6e359ae909563b8970a5f8a474de"), looks := false }, kinds := [], alts := [], laidByText := true, laidKinds := [.data], laidTests := true, laidLooks := .later }
def PmtuRoomUptoCardSaid : Prop := Claim7.holds Tryd.pinned (.plain (OpenSpec.upto pmtuRoomSpec)) pmtuRoomUptoCard

/-- THE SECOND FORM's CARD OF 'mosaiclaw18.PmtuRises'. -/
def pmtuRisesUptoCard : Claim7 := { stood := { row := pmtuRisesUptoRow, standIns := [], harness := (true, "77c8d9cb15cad47e15868afca6b1f45e4d8d6e359ae909563b8970a5f8a474de"), looks := false }, kinds := [], alts := [], laidByText := true, laidKinds := [.data], laidTests := true, laidLooks := .later }
def PmtuRisesUptoCardSaid : Prop := Claim7.holds Tryd.pinned (.plain (OpenSpec.upto pmtuRisesSpec)) pmtuRisesUptoCard

/-- THE SECOND FORM's CARD OF 'mosaiclaw18.PmtuBounds'. -/
def pmtuBoundsUptoCard : Claim7 := { stood := { row := pmtuBoundsUptoRow, standIns := [], harness := (true, "77c8d9cb15cad47e15868afca6b1f45e4d8d6e359ae909563b8970a5f8a474de"), looks := false }, kinds := [], alts := [], laidByText := true, laidKinds := [.data], laidTests := true, laidLooks := .later }
def PmtuBoundsUptoCardSaid : Prop := Claim7.holds Tryd.pinned (.plain (OpenSpec.upto pmtuBoundsSpec)) pmtuBoundsUptoCard

/-- THE SECOND FORM's CARD OF 'mosaiclaw18.PmtuMemory'. -/
def pmtuMemoryUptoCard : Claim7 := { stood := { row := pmtuMemoryUptoRow, standIns := [], harness := (true, "77c8d9cb15cad47e15868afca6b1f45e4d8d6e359ae909563b8970a5f8a474de"), looks := false }, kinds := [], alts := [], laidByText := true, laidKinds := [.data], laidTests := true, laidLooks := .later }
def PmtuMemoryUptoCardSaid : Prop := Claim7.holds Tryd.pinned (.plain (OpenSpec.upto pmtuMemorySpec)) pmtuMemoryUptoCard
end Rows
end Go.Proofs.YtdinkhhaomblcaaDoor
