/-
  DERIVED. GIVEN WITH THE SEED: THE CARDS: each row of YtoeenagdbjppgaaGreatDoorRows.lean that lists a variable, with what it lists TIED to the program's text (the seventh form; the later family's looks); each row that meets fmt, with fmt's text TOLD by the authors' own Lean function (tested against real Go, not proved from fmt's source: count such statements apart). THE CARD IS WHAT COUNTS. Prove the row's statement (the work); the ties are given (YtoeenagdbjppgaaGreatDoorTie.lean); close each card by the builder's one call (the guide's Derived/Test/ToyasCard.lean, 'card_holds'). Laid BY PROGRAM, IN A SANDBOX (cutbox-door.mjs). By AI agents, Wed Nov 11 2026. No macro, syntax, notation, axiom, sorry.
-/
import Derived.Test.YtoeenagdbjppgaaGreatDoorRows
import GoSem.ClaimSeven
namespace Go.Proofs.YtoeenagdbjppgaaGreatDoor
namespace Rows

/-- THE TIED CARD OF 'vinerylaw09.AttrWrites'. -/
def attrWritesCard : Claim7 := { stood := { row := attrWritesRow, standIns := [], harness := (true, "14326d9040f005f5948a521431f42cb52cd270d9065128d8ee4598e954fcdfd2"), looks := true }, kinds := [], alts := [], laidByText := true, laidKinds := [.data, .pinned], laidTests := true, laidLooks := .later }
def AttrWritesCardSaid : Prop := Claim7.holds Tryz.pinned (.plain (OpenSpec.ofChange attrWritesSpec)) attrWritesCard

/-- THE SECOND FORM's CARD OF 'vinerylaw09.AttrWrites'. -/
def attrWritesUptoCard : Claim7 := { stood := { row := attrWritesUptoRow, standIns := [], harness := (true, "14326d9040f005f5948a521431f42cb52cd270d9065128d8ee4598e954fcdfd2"), looks := true }, kinds := [], alts := [], laidByText := true, laidKinds := [.data, .pinned], laidTests := true, laidLooks := .later }
def AttrWritesUptoCardSaid : Prop := Claim7.holds Tryz.pinned (.plain (OpenSpec.upto attrWritesSpec)) attrWritesUptoCard
end Rows
end Go.Proofs.YtoeenagdbjppgaaGreatDoor
