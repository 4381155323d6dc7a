/-
  DERIVED. GIVEN WITH THE SEED: THE CARDS: each row of YtoeenagdbjppgaaDoorRows.lean that lists a variable, with what it lists TIED to the program's text (the seventh form; the later family's looks); each row that meets fmt, with fmt's text TOLD by the authors' own Lean function (tested against real Go, not proved from fmt's source: count such statements apart). THE CARD IS WHAT COUNTS. Prove the row's statement (the work); the ties are given (YtoeenagdbjppgaaDoorTie.lean); close each card by the builder's one call (the guide's Derived/Test/ToyasCard.lean, 'card_holds'). Laid BY PROGRAM, IN A SANDBOX (cutbox-door.mjs). By AI agents, Wed Nov 11 2026. No macro, syntax, notation, axiom, sorry.
-/
import Derived.Test.YtoeenagdbjppgaaDoorRows
import GoSem.ClaimSeven
namespace Go.Proofs.YtoeenagdbjppgaaDoor
namespace Rows

/-- THE TIED CARD OF 'vinerylaw06.PmsiCodes'. -/
def pmsiCodesCard : Claim7 := { stood := { row := pmsiCodesRow, standIns := [], harness := (true, "010f159d3c9d15f1f4ffb49405e4b1da56e2b59129afda1c73cbc307dac4d4b7"), looks := true }, kinds := [], alts := [], laidByText := true, laidKinds := [.data, .pinned], laidTests := true, laidLooks := .later }
def PmsiCodesCardSaid : Prop := Claim7.holds Tryd.pinned (.plain (OpenSpec.ofChange pmsiCodesSpec)) pmsiCodesCard

/-- THE TIED CARD OF 'vinerylaw06.PmsiSames'. -/
def pmsiSamesCard : Claim7 := { stood := { row := pmsiSamesRow, standIns := [], harness := (true, "010f159d3c9d15f1f4ffb49405e4b1da56e2b59129afda1c73cbc307dac4d4b7"), looks := true }, kinds := [], alts := [], laidByText := true, laidKinds := [.data, .pinned], laidTests := true, laidLooks := .later }
def PmsiSamesCardSaid : Prop := Claim7.holds Tryd.pinned (.plain (OpenSpec.ofChange pmsiSamesSpec)) pmsiSamesCard

/-- THE TIED CARD OF 'vinerylaw06.PmsiBack'. -/
def pmsiBackCard : Claim7 := { stood := { row := pmsiBackRow, standIns := [], harness := (true, "010f159d3c9d15f1f4ffb49405e4b1da56e2b59129afda1c73cbc307dac4d4b7"), looks := true }, kinds := [], alts := [], laidByText := true, laidKinds := [.data, .pinned], laidTests := true, laidLooks := .later }
def PmsiBackCardSaid : Prop := Claim7.holds Tryd.pinned (.plain (OpenSpec.ofChange pmsiBackSpec)) pmsiBackCard

/-- THE TIED CARD OF 'vinerylaw06.PmsiApart'. -/
def pmsiApartCard : Claim7 := { stood := { row := pmsiApartRow, standIns := [], harness := (true, "010f159d3c9d15f1f4ffb49405e4b1da56e2b59129afda1c73cbc307dac4d4b7"), looks := true }, kinds := [], alts := [], laidByText := true, laidKinds := [.data, .pinned], laidTests := true, laidLooks := .later }
def PmsiApartCardSaid : Prop := Claim7.holds Tryd.pinned (.plain (OpenSpec.ofChange pmsiApartSpec)) pmsiApartCard

/-- THE TIED CARD OF 'vinerylaw06.PmsiHeads'. -/
def pmsiHeadsCard : Claim7 := { stood := { row := pmsiHeadsRow, standIns := [], harness := (true, "010f159d3c9d15f1f4ffb49405e4b1da56e2b59129afda1c73cbc307dac4d4b7"), looks := true }, kinds := [], alts := [], laidByText := true, laidKinds := [.data, .pinned], laidTests := true, laidLooks := .later }
def PmsiHeadsCardSaid : Prop := Claim7.holds Tryd.pinned (.plain (OpenSpec.ofChange pmsiHeadsSpec)) pmsiHeadsCard

/-- THE TIED CARD OF 'vinerylaw09.AttrSplits'. -/
def attrSplitsCard : Claim7 := { stood := { row := attrSplitsRow, standIns := [], harness := (true, "010f159d3c9d15f1f4ffb49405e4b1da56e2b59129afda1c73cbc307dac4d4b7"), looks := true }, kinds := [], alts := [], laidByText := true, laidKinds := [.data, .pinned], laidTests := true, laidLooks := .later }
def AttrSplitsCardSaid : Prop := Claim7.holds Tryd.pinned (.plain (OpenSpec.ofChange attrSplitsSpec)) attrSplitsCard

/-- THE TIED CARD OF 'vinerylaw09.AttrJoins'. -/
def attrJoinsCard : Claim7 := { stood := { row := attrJoinsRow, standIns := [], harness := (true, "010f159d3c9d15f1f4ffb49405e4b1da56e2b59129afda1c73cbc307dac4d4b7"), looks := true }, kinds := [], alts := [], laidByText := true, laidKinds := [.data, .pinned], laidTests := true, laidLooks := .later }
def AttrJoinsCardSaid : Prop := Claim7.holds Tryd.pinned (.plain (OpenSpec.ofChange attrJoinsSpec)) attrJoinsCard

/-- THE TIED CARD OF 'vinerylaw09.AttrOrders'. -/
def attrOrdersCard : Claim7 := { stood := { row := attrOrdersRow, standIns := [], harness := (true, "010f159d3c9d15f1f4ffb49405e4b1da56e2b59129afda1c73cbc307dac4d4b7"), looks := true }, kinds := [], alts := [], laidByText := true, laidKinds := [.data, .pinned], laidTests := true, laidLooks := .later }
def AttrOrdersCardSaid : Prop := Claim7.holds Tryd.pinned (.plain (OpenSpec.ofChange attrOrdersSpec)) attrOrdersCard

/-- THE TIED CARD OF 'vinerylaw09.AttrBack'. -/
def attrBackCard : Claim7 := { stood := { row := attrBackRow, standIns := [], harness := (true, "010f159d3c9d15f1f4ffb49405e4b1da56e2b59129afda1c73cbc307dac4d4b7"), looks := true }, kinds := [], alts := [], laidByText := true, laidKinds := [.data, .pinned], laidTests := true, laidLooks := .later }
def AttrBackCardSaid : Prop := Claim7.holds Tryd.pinned (.plain (OpenSpec.ofChange attrBackSpec)) attrBackCard

/-- THE SECOND FORM's CARD OF 'vinerylaw06.PmsiCodes'. -/
def pmsiCodesUptoCard : Claim7 := { stood := { row := pmsiCodesUptoRow, standIns := [], harness := (true, "010f159d3c9d15f1f4ffb49405e4b1da56e2b59129afda1c73cbc307dac4d4b7"), looks := true }, kinds := [], alts := [], laidByText := true, laidKinds := [.data, .pinned], laidTests := true, laidLooks := .later }
def PmsiCodesUptoCardSaid : Prop := Claim7.holds Tryd.pinned (.plain (OpenSpec.upto pmsiCodesSpec)) pmsiCodesUptoCard

/-- THE SECOND FORM's CARD OF 'vinerylaw06.PmsiSames'. -/
def pmsiSamesUptoCard : Claim7 := { stood := { row := pmsiSamesUptoRow, standIns := [], harness := (true, "010f159d3c9d15f1f4ffb49405e4b1da56e2b59129afda1c73cbc307dac4d4b7"), looks := true }, kinds := [], alts := [], laidByText := true, laidKinds := [.data, .pinned], laidTests := true, laidLooks := .later }
def PmsiSamesUptoCardSaid : Prop := Claim7.holds Tryd.pinned (.plain (OpenSpec.upto pmsiSamesSpec)) pmsiSamesUptoCard

/-- THE SECOND FORM's CARD OF 'vinerylaw06.PmsiBack'. -/
def pmsiBackUptoCard : Claim7 := { stood := { row := pmsiBackUptoRow, standIns := [], harness := (true, "010f159d3c9d15f1f4ffb49405e4b1da56e2b59129afda1c73cbc307dac4d4b7"), looks := true }, kinds := [], alts := [], laidByText := true, laidKinds := [.data, .pinned], laidTests := true, laidLooks := .later }
def PmsiBackUptoCardSaid : Prop := Claim7.holds Tryd.pinned (.plain (OpenSpec.upto pmsiBackSpec)) pmsiBackUptoCard

/-- THE SECOND FORM's CARD OF 'vinerylaw06.PmsiApart'. -/
def pmsiApartUptoCard : Claim7 := { stood := { row := pmsiApartUptoRow, standIns := [], harness := (true, "010f159d3c9d15f1f4ffb49405e4b1da56e2b59129afda1c73cbc307dac4d4b7"), looks := true }, kinds := [], alts := [], laidByText := true, laidKinds := [.data, .pinned], laidTests := true, laidLooks := .later }
def PmsiApartUptoCardSaid : Prop := Claim7.holds Tryd.pinned (.plain (OpenSpec.upto pmsiApartSpec)) pmsiApartUptoCard

/-- THE SECOND FORM's CARD OF 'vinerylaw06.PmsiHeads'. -/
def pmsiHeadsUptoCard : Claim7 := { stood := { row := pmsiHeadsUptoRow, standIns := [], harness := (true, "010f159d3c9d15f1f4ffb49405e4b1da56e2b59129afda1c73cbc307dac4d4b7"), looks := true }, kinds := [], alts := [], laidByText := true, laidKinds := [.data, .pinned], laidTests := true, laidLooks := .later }
def PmsiHeadsUptoCardSaid : Prop := Claim7.holds Tryd.pinned (.plain (OpenSpec.upto pmsiHeadsSpec)) pmsiHeadsUptoCard

/-- THE SECOND FORM's CARD OF 'vinerylaw09.AttrSplits'. -/
def attrSplitsUptoCard : Claim7 := { stood := { row := attrSplitsUptoRow, standIns := [], harness := (true, "010f159d3c9d15f1f4ffb49405e4b1da56e2b59129afda1c73cbc307dac4d4b7"), looks := true }, kinds := [], alts := [], laidByText := true, laidKinds := [.data, .pinned], laidTests := true, laidLooks := .later }
def AttrSplitsUptoCardSaid : Prop := Claim7.holds Tryd.pinned (.plain (OpenSpec.upto attrSplitsSpec)) attrSplitsUptoCard

/-- THE SECOND FORM's CARD OF 'vinerylaw09.AttrJoins'. -/
def attrJoinsUptoCard : Claim7 := { stood := { row := attrJoinsUptoRow, standIns := [], harness := (true, "010f159d3c9d15f1f4ffb49405e4b1da56e2b59129afda1c73cbc307dac4d4b7"), looks := true }, kinds := [], alts := [], laidByText := true, laidKinds := [.data, .pinned], laidTests := true, laidLooks := .later }
def AttrJoinsUptoCardSaid : Prop := Claim7.holds Tryd.pinned (.plain (OpenSpec.upto attrJoinsSpec)) attrJoinsUptoCard

/-- THE SECOND FORM's CARD OF 'vinerylaw09.AttrOrders'. -/
def attrOrdersUptoCard : Claim7 := { stood := { row := attrOrdersUptoRow, standIns := [], harness := (true, "010f159d3c9d15f1f4ffb49405e4b1da56e2b59129afda1c73cbc307dac4d4b7"), looks := true }, kinds := [], alts := [], laidByText := true, laidKinds := [.data, .pinned], laidTests := true, laidLooks := .later }
def AttrOrdersUptoCardSaid : Prop := Claim7.holds Tryd.pinned (.plain (OpenSpec.upto attrOrdersSpec)) attrOrdersUptoCard

/-- THE SECOND FORM's CARD OF 'vinerylaw09.AttrBack'. -/
def attrBackUptoCard : Claim7 := { stood := { row := attrBackUptoRow, standIns := [], harness := (true, "010f159d3c9d15f1f4ffb49405e4b1da56e2b59129afda1c73cbc307dac4d4b7"), looks := true }, kinds := [], alts := [], laidByText := true, laidKinds := [.data, .pinned], laidTests := true, laidLooks := .later }
def AttrBackUptoCardSaid : Prop := Claim7.holds Tryd.pinned (.plain (OpenSpec.upto attrBackSpec)) attrBackUptoCard
end Rows
end Go.Proofs.YtoeenagdbjppgaaDoor
