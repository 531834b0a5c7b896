/-
  DERIVED. GIVEN WITH THE SEED: THE CARDS: each row of YtdgejnakakjgfaaGreatDoorRows.lean that lists a variable, with what it lists TIED to the program's text (the seventh form; the later family's looks); each row that meets fmt, with fmt's text TOLD by the authors' own Lean function (tested against real Go, not proved from fmt's source: count such statements apart). THE CARD IS WHAT COUNTS. Prove the row's statement (the work); the ties are given (YtdgejnakakjgfaaGreatDoorTie.lean); close each card by the builder's one call (the guide's Derived/Test/ToyasCard.lean, 'card_holds'). Laid BY PROGRAM, IN A SANDBOX (cutbox-door.mjs). By AI agents, Wed Nov 11 2026. No macro, syntax, notation, axiom, sorry.
-/
import Derived.Test.YtdgejnakakjgfaaGreatDoorRows
import GoSem.ClaimSeven
namespace Go.Proofs.YtdgejnakakjgfaaGreatDoor
namespace Rows

/-- THE TIED CARD OF 'sidesticktop.TopBounds'. -/
def topBoundsCard : Claim7 := { stood := { row := topBoundsRow, standIns := [], harness := (true, "a8435d4c2c497007801753e623cf0b0855c379a5fb7c055216e9243b75e95cdc"), looks := true }, kinds := [], alts := [], laidByText := true, laidKinds := [.data, .data], laidTests := true, laidLooks := .later }
def TopBoundsCardSaid : Prop := Claim7.holds Tryz.pinned (.plain (OpenSpec.ofChange topBoundsSpec)) topBoundsCard

/-- THE TIED CARD OF 'sidesticktop.TopRoom'. -/
def topRoomCard : Claim7 := { stood := { row := topRoomRow, standIns := [], harness := (true, "a8435d4c2c497007801753e623cf0b0855c379a5fb7c055216e9243b75e95cdc"), looks := true }, kinds := [], alts := [], laidByText := true, laidKinds := [.data, .data], laidTests := true, laidLooks := .later }
def TopRoomCardSaid : Prop := Claim7.holds Tryz.pinned (.plain (OpenSpec.ofChange topRoomSpec)) topRoomCard

/-- THE TIED CARD OF 'sidesticktop.TopThere'. -/
def topThereCard : Claim7 := { stood := { row := topThereRow, standIns := [], harness := (true, "a8435d4c2c497007801753e623cf0b0855c379a5fb7c055216e9243b75e95cdc"), looks := true }, kinds := [], alts := [], laidByText := true, laidKinds := [.data, .data], laidTests := true, laidLooks := .later }
def TopThereCardSaid : Prop := Claim7.holds Tryz.pinned (.plain (OpenSpec.ofChange topThereSpec)) topThereCard

/-- THE TIED CARD OF 'sidesticktop.TopWaits'. -/
def topWaitsCard : Claim7 := { stood := { row := topWaitsRow, standIns := [], harness := (true, "a8435d4c2c497007801753e623cf0b0855c379a5fb7c055216e9243b75e95cdc"), looks := true }, kinds := [], alts := [], laidByText := true, laidKinds := [.data, .data], laidTests := true, laidLooks := .later }
def TopWaitsCardSaid : Prop := Claim7.holds Tryz.pinned (.plain (OpenSpec.ofChange topWaitsSpec)) topWaitsCard

/-- THE SECOND FORM's CARD OF 'sidesticktop.TopBounds'. -/
def topBoundsUptoCard : Claim7 := { stood := { row := topBoundsUptoRow, standIns := [], harness := (true, "a8435d4c2c497007801753e623cf0b0855c379a5fb7c055216e9243b75e95cdc"), looks := true }, kinds := [], alts := [], laidByText := true, laidKinds := [.data, .data], laidTests := true, laidLooks := .later }
def TopBoundsUptoCardSaid : Prop := Claim7.holds Tryz.pinned (.plain (OpenSpec.upto topBoundsSpec)) topBoundsUptoCard

/-- THE SECOND FORM's CARD OF 'sidesticktop.TopRoom'. -/
def topRoomUptoCard : Claim7 := { stood := { row := topRoomUptoRow, standIns := [], harness := (true, "a8435d4c2c497007801753e623cf0b0855c379a5fb7c055216e9243b75e95cdc"), looks := true }, kinds := [], alts := [], laidByText := true, laidKinds := [.data, .data], laidTests := true, laidLooks := .later }
def TopRoomUptoCardSaid : Prop := Claim7.holds Tryz.pinned (.plain (OpenSpec.upto topRoomSpec)) topRoomUptoCard

/-- THE SECOND FORM's CARD OF 'sidesticktop.TopThere'. -/
def topThereUptoCard : Claim7 := { stood := { row := topThereUptoRow, standIns := [], harness := (true, "a8435d4c2c497007801753e623cf0b0855c379a5fb7c055216e9243b75e95cdc"), looks := true }, kinds := [], alts := [], laidByText := true, laidKinds := [.data, .data], laidTests := true, laidLooks := .later }
def TopThereUptoCardSaid : Prop := Claim7.holds Tryz.pinned (.plain (OpenSpec.upto topThereSpec)) topThereUptoCard

/-- THE SECOND FORM's CARD OF 'sidesticktop.TopWaits'. -/
def topWaitsUptoCard : Claim7 := { stood := { row := topWaitsUptoRow, standIns := [], harness := (true, "a8435d4c2c497007801753e623cf0b0855c379a5fb7c055216e9243b75e95cdc"), looks := true }, kinds := [], alts := [], laidByText := true, laidKinds := [.data, .data], laidTests := true, laidLooks := .later }
def TopWaitsUptoCardSaid : Prop := Claim7.holds Tryz.pinned (.plain (OpenSpec.upto topWaitsSpec)) topWaitsUptoCard
end Rows
end Go.Proofs.YtdgejnakakjgfaaGreatDoor
