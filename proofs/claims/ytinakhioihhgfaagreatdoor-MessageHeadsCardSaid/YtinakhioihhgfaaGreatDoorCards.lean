/-
  DERIVED. GIVEN WITH THE SEED: THE CARDS: each row of YtinakhioihhgfaaGreatDoorRows.lean that lists a variable, with what it lists TIED to the program's text (the seventh form; the later family's looks); each row that meets fmt, with fmt's text TOLD by the authors' own Lean function (tested against real Go, not proved from fmt's source: count such statements apart). THE CARD IS WHAT COUNTS. Prove the row's statement (the work); the ties are given (YtinakhioihhgfaaGreatDoorTie.lean); close each card by the builder's one call (the guide's Derived/Test/ToyasCard.lean, 'card_holds'). Laid BY PROGRAM, IN A SANDBOX (cutbox-door.mjs). By AI agents, Wed Nov 11 2026. No macro, syntax, notation, axiom, sorry.
-/
import Derived.Test.YtinakhioihhgfaaGreatDoorRows
import GoSem.ClaimSeven
namespace Go.Proofs.YtinakhioihhgfaaGreatDoor
namespace Rows

/-- THE TIED CARD OF 'vinerylaw11.MessageHeads'. -/
def messageHeadsCard : Claim7 := { stood := { row := messageHeadsRow, standIns := [], harness := (true, "7f4c415b08b50005801df4e0f277022e17a2914d2fc886a7479514f00e072a11"), looks := true }, kinds := [], alts := [], laidByText := true, laidKinds := [.data, .data, .data, .data, .pinned], laidTests := true, laidLooks := .later }
def MessageHeadsCardSaid : Prop := Claim7.holds Tryz.pinned (.plain (OpenSpec.ofChange messageHeadsSpec)) messageHeadsCard

/-- THE SECOND FORM's CARD OF 'vinerylaw11.MessageHeads'. -/
def messageHeadsUptoCard : Claim7 := { stood := { row := messageHeadsUptoRow, standIns := [], harness := (true, "7f4c415b08b50005801df4e0f277022e17a2914d2fc886a7479514f00e072a11"), looks := true }, kinds := [], alts := [], laidByText := true, laidKinds := [.data, .data, .data, .data, .pinned], laidTests := true, laidLooks := .later }
def MessageHeadsUptoCardSaid : Prop := Claim7.holds Tryz.pinned (.plain (OpenSpec.upto messageHeadsSpec)) messageHeadsUptoCard
end Rows
end Go.Proofs.YtinakhioihhgfaaGreatDoor
