/-
  DERIVED. GIVEN WITH THE SEED: THE CARDS: each row of YtilmdjjeakileaaDoorRows.lean that lists a variable, with what it lists TIED to the program's text (the seventh form; the later family's looks); each row that meets fmt, with fmt's text TOLD by the authors' own Lean function (tested against real Go, not proved from fmt's source: count such statements apart). THE CARD IS WHAT COUNTS. Prove the row's statement (the work); the ties are given (YtilmdjjeakileaaDoorTie.lean); close each card by the builder's one call (the guide's Derived/Test/ToyasCard.lean, 'card_holds'). Laid BY PROGRAM, IN A SANDBOX (cutbox-door.mjs). By AI agents, Wed Nov 11 2026. No macro, syntax, notation, axiom, sorry.
-/
import Derived.Test.YtilmdjjeakileaaDoorRows
import GoSem.ClaimSeven
namespace Go.Proofs.YtilmdjjeakileaaDoor
namespace Rows

/-- THE TIED CARD OF 'vinerylaw03.RdBack'. -/
def rdBackCard : Claim7 := { stood := { row := rdBackRow, standIns := [], harness := (true, "4509b25c7d1b89076d1da5409a66c7ce7027366c047bcf639bf00b610aa81ab8"), looks := false }, kinds := [], alts := [], laidByText := true, laidKinds := [.data, .data, .data, .data, .pinned], laidTests := true, laidLooks := .later }
def RdBackCardSaid : Prop := Claim7.holds Tryd.pinned (.plain (OpenSpec.ofChange rdBackSpec)) rdBackCard

/-- THE TIED CARD OF 'vinerylaw03.RdKinds'. -/
def rdKindsCard : Claim7 := { stood := { row := rdKindsRow, standIns := [], harness := (true, "4509b25c7d1b89076d1da5409a66c7ce7027366c047bcf639bf00b610aa81ab8"), looks := false }, kinds := [], alts := [], laidByText := true, laidKinds := [.data, .data, .data, .data, .pinned], laidTests := true, laidLooks := .later }
def RdKindsCardSaid : Prop := Claim7.holds Tryd.pinned (.plain (OpenSpec.ofChange rdKindsSpec)) rdKindsCard

/-- THE TIED CARD OF 'vinerylaw03.RdMakes'. -/
def rdMakesCard : Claim7 := { stood := { row := rdMakesRow, standIns := [], harness := (true, "4509b25c7d1b89076d1da5409a66c7ce7027366c047bcf639bf00b610aa81ab8"), looks := false }, kinds := [], alts := [], laidByText := true, laidKinds := [.data, .data, .data, .data, .pinned], laidTests := true, laidLooks := .later }
def RdMakesCardSaid : Prop := Claim7.holds Tryd.pinned (.plain (OpenSpec.ofChange rdMakesSpec)) rdMakesCard

/-- THE TIED CARD OF 'vinerylaw03.RdSorts'. -/
def rdSortsCard : Claim7 := { stood := { row := rdSortsRow, standIns := [], harness := (true, "4509b25c7d1b89076d1da5409a66c7ce7027366c047bcf639bf00b610aa81ab8"), looks := false }, kinds := [], alts := [], laidByText := true, laidKinds := [.data, .data, .data, .data, .pinned], laidTests := true, laidLooks := .later }
def RdSortsCardSaid : Prop := Claim7.holds Tryd.pinned (.plain (OpenSpec.ofChange rdSortsSpec)) rdSortsCard

/-- THE SECOND FORM's CARD OF 'vinerylaw03.RdBack'. -/
def rdBackUptoCard : Claim7 := { stood := { row := rdBackUptoRow, standIns := [], harness := (true, "4509b25c7d1b89076d1da5409a66c7ce7027366c047bcf639bf00b610aa81ab8"), looks := false }, kinds := [], alts := [], laidByText := true, laidKinds := [.data, .data, .data, .data, .pinned], laidTests := true, laidLooks := .later }
def RdBackUptoCardSaid : Prop := Claim7.holds Tryd.pinned (.plain (OpenSpec.upto rdBackSpec)) rdBackUptoCard

/-- THE SECOND FORM's CARD OF 'vinerylaw03.RdKinds'. -/
def rdKindsUptoCard : Claim7 := { stood := { row := rdKindsUptoRow, standIns := [], harness := (true, "4509b25c7d1b89076d1da5409a66c7ce7027366c047bcf639bf00b610aa81ab8"), looks := false }, kinds := [], alts := [], laidByText := true, laidKinds := [.data, .data, .data, .data, .pinned], laidTests := true, laidLooks := .later }
def RdKindsUptoCardSaid : Prop := Claim7.holds Tryd.pinned (.plain (OpenSpec.upto rdKindsSpec)) rdKindsUptoCard

/-- THE SECOND FORM's CARD OF 'vinerylaw03.RdMakes'. -/
def rdMakesUptoCard : Claim7 := { stood := { row := rdMakesUptoRow, standIns := [], harness := (true, "4509b25c7d1b89076d1da5409a66c7ce7027366c047bcf639bf00b610aa81ab8"), looks := false }, kinds := [], alts := [], laidByText := true, laidKinds := [.data, .data, .data, .data, .pinned], laidTests := true, laidLooks := .later }
def RdMakesUptoCardSaid : Prop := Claim7.holds Tryd.pinned (.plain (OpenSpec.upto rdMakesSpec)) rdMakesUptoCard

/-- THE SECOND FORM's CARD OF 'vinerylaw03.RdSorts'. -/
def rdSortsUptoCard : Claim7 := { stood := { row := rdSortsUptoRow, standIns := [], harness := (true, "4509b25c7d1b89076d1da5409a66c7ce7027366c047bcf639bf00b610aa81ab8"), looks := false }, kinds := [], alts := [], laidByText := true, laidKinds := [.data, .data, .data, .data, .pinned], laidTests := true, laidLooks := .later }
def RdSortsUptoCardSaid : Prop := Claim7.holds Tryd.pinned (.plain (OpenSpec.upto rdSortsSpec)) rdSortsUptoCard
end Rows
end Go.Proofs.YtilmdjjeakileaaDoor
