/-
  DERIVED. GIVEN WITH THE SEED: THE CARDS: each row of YtnbpoeiipgcogaaGreatDoorRows.lean that lists a variable, with what it lists TIED to the program's text (the seventh form; the later family's looks); each row that meets fmt, with fmt's text TOLD by the authors' own Lean function (tested against real Go, not proved from fmt's source: count such statements apart). THE CARD IS WHAT COUNTS. Prove the row's statement (the work); the ties are given (YtnbpoeiipgcogaaGreatDoorTie.lean); close each card by the builder's one call (the guide's Derived/Test/ToyasCard.lean, 'card_holds'). Laid BY PROGRAM, IN A SANDBOX (cutbox-door.mjs). By AI agents, Wed Nov 11 2026. No macro, syntax, notation, axiom, sorry.
-/
import Derived.Test.YtnbpoeiipgcogaaGreatDoorRows
import GoSem.ClaimSeven
namespace Go.Proofs.YtnbpoeiipgcogaaGreatDoor
namespace Rows

/-- THE TIED CARD OF 'vinerylaw10.UpdateWrites'. -/
def updateWritesCard : Claim7 := { stood := { row := updateWritesRow, standIns := [], harness := (true, "3ab601e8f2423a8f5f0149dda9ec373cfda23c2a518188ab6dae878c154a8f34"), looks := true }, kinds := [], alts := [], laidByText := true, laidKinds := [.data, .data, .data, .data, .pinned], laidTests := true, laidLooks := .later }
def UpdateWritesCardSaid : Prop := Claim7.holds Tryz.pinned (.plain (OpenSpec.ofChange updateWritesSpec)) updateWritesCard

/-- THE TIED CARD OF 'vinerylaw10.UpdateBack'. -/
def updateBackCard : Claim7 := { stood := { row := updateBackRow, standIns := [], harness := (true, "3ab601e8f2423a8f5f0149dda9ec373cfda23c2a518188ab6dae878c154a8f34"), looks := true }, kinds := [], alts := [], laidByText := true, laidKinds := [.data, .data, .data, .data, .pinned], laidTests := true, laidLooks := .later }
def UpdateBackCardSaid : Prop := Claim7.holds Tryz.pinned (.plain (OpenSpec.ofChange updateBackSpec)) updateBackCard

/-- THE TIED CARD OF 'vinerylaw10.UpdateSafe'. -/
def updateSafeCard : Claim7 := { stood := { row := updateSafeRow, standIns := [], harness := (true, "3ab601e8f2423a8f5f0149dda9ec373cfda23c2a518188ab6dae878c154a8f34"), looks := true }, kinds := [], alts := [], laidByText := true, laidKinds := [.data, .data, .data, .data, .pinned], laidTests := true, laidLooks := .later }
def UpdateSafeCardSaid : Prop := Claim7.holds Tryz.pinned (.plain (OpenSpec.ofChange updateSafeSpec)) updateSafeCard

/-- THE TIED CARD OF 'vinerylaw10.UpdateHeld'. -/
def updateHeldCard : Claim7 := { stood := { row := updateHeldRow, standIns := [], harness := (true, "3ab601e8f2423a8f5f0149dda9ec373cfda23c2a518188ab6dae878c154a8f34"), looks := true }, kinds := [], alts := [], laidByText := true, laidKinds := [.data, .data, .data, .data, .pinned], laidTests := true, laidLooks := .later }
def UpdateHeldCardSaid : Prop := Claim7.holds Tryz.pinned (.plain (OpenSpec.ofChange updateHeldSpec)) updateHeldCard

/-- THE TIED CARD OF 'vinerylaw10.UpdateEnds'. -/
def updateEndsCard : Claim7 := { stood := { row := updateEndsRow, standIns := [], harness := (true, "3ab601e8f2423a8f5f0149dda9ec373cfda23c2a518188ab6dae878c154a8f34"), looks := true }, kinds := [], alts := [], laidByText := true, laidKinds := [.data, .data, .data, .data, .pinned], laidTests := true, laidLooks := .later }
def UpdateEndsCardSaid : Prop := Claim7.holds Tryz.pinned (.plain (OpenSpec.ofChange updateEndsSpec)) updateEndsCard

/-- THE SECOND FORM's CARD OF 'vinerylaw10.UpdateWrites'. -/
def updateWritesUptoCard : Claim7 := { stood := { row := updateWritesUptoRow, standIns := [], harness := (true, "3ab601e8f2423a8f5f0149dda9ec373cfda23c2a518188ab6dae878c154a8f34"), looks := true }, kinds := [], alts := [], laidByText := true, laidKinds := [.data, .data, .data, .data, .pinned], laidTests := true, laidLooks := .later }
def UpdateWritesUptoCardSaid : Prop := Claim7.holds Tryz.pinned (.plain (OpenSpec.upto updateWritesSpec)) updateWritesUptoCard

/-- THE SECOND FORM's CARD OF 'vinerylaw10.UpdateBack'. -/
def updateBackUptoCard : Claim7 := { stood := { row := updateBackUptoRow, standIns := [], harness := (true, "3ab601e8f2423a8f5f0149dda9ec373cfda23c2a518188ab6dae878c154a8f34"), looks := true }, kinds := [], alts := [], laidByText := true, laidKinds := [.data, .data, .data, .data, .pinned], laidTests := true, laidLooks := .later }
def UpdateBackUptoCardSaid : Prop := Claim7.holds Tryz.pinned (.plain (OpenSpec.upto updateBackSpec)) updateBackUptoCard

/-- THE SECOND FORM's CARD OF 'vinerylaw10.UpdateSafe'. -/
def updateSafeUptoCard : Claim7 := { stood := { row := updateSafeUptoRow, standIns := [], harness := (true, "3ab601e8f2423a8f5f0149dda9ec373cfda23c2a518188ab6dae878c154a8f34"), looks := true }, kinds := [], alts := [], laidByText := true, laidKinds := [.data, .data, .data, .data, .pinned], laidTests := true, laidLooks := .later }
def UpdateSafeUptoCardSaid : Prop := Claim7.holds Tryz.pinned (.plain (OpenSpec.upto updateSafeSpec)) updateSafeUptoCard

/-- THE SECOND FORM's CARD OF 'vinerylaw10.UpdateHeld'. -/
def updateHeldUptoCard : Claim7 := { stood := { row := updateHeldUptoRow, standIns := [], harness := (true, "3ab601e8f2423a8f5f0149dda9ec373cfda23c2a518188ab6dae878c154a8f34"), looks := true }, kinds := [], alts := [], laidByText := true, laidKinds := [.data, .data, .data, .data, .pinned], laidTests := true, laidLooks := .later }
def UpdateHeldUptoCardSaid : Prop := Claim7.holds Tryz.pinned (.plain (OpenSpec.upto updateHeldSpec)) updateHeldUptoCard

/-- THE SECOND FORM's CARD OF 'vinerylaw10.UpdateEnds'. -/
def updateEndsUptoCard : Claim7 := { stood := { row := updateEndsUptoRow, standIns := [], harness := (true, "3ab601e8f2423a8f5f0149dda9ec373cfda23c2a518188ab6dae878c154a8f34"), looks := true }, kinds := [], alts := [], laidByText := true, laidKinds := [.data, .data, .data, .data, .pinned], laidTests := true, laidLooks := .later }
def UpdateEndsUptoCardSaid : Prop := Claim7.holds Tryz.pinned (.plain (OpenSpec.upto updateEndsSpec)) updateEndsUptoCard
end Rows
end Go.Proofs.YtnbpoeiipgcogaaGreatDoor
