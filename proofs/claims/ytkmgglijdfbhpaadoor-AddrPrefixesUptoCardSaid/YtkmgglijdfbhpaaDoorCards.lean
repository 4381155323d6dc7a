/-
  DERIVED. GIVEN WITH THE SEED: THE CARDS: each row of YtkmgglijdfbhpaaDoorRows.lean that lists a variable, with what it lists TIED to the program's text (the seventh form; the later family's looks); each row that meets fmt, with fmt's text TOLD by the authors' own Lean function (tested against real Go, not proved from fmt's source: count such statements apart). THE CARD IS WHAT COUNTS. Prove the row's statement (the work); the ties are given (YtkmgglijdfbhpaaDoorTie.lean); close each card by the builder's one call (the guide's Derived/Test/ToyasCard.lean, 'card_holds'). Laid BY PROGRAM, IN A SANDBOX (cutbox-door.mjs). By AI agents, Wed Nov 11 2026. No macro, syntax, notation, axiom, sorry.
-/
import Derived.Test.YtkmgglijdfbhpaaDoorRows
import GoSem.ClaimSeven
namespace Go.Proofs.YtkmgglijdfbhpaaDoor
namespace Rows

/-- THE TIED CARD OF 'vinerylaw02.AddrTexts'. -/
def addrTextsCard : Claim7 := { stood := { row := addrTextsRow, standIns := [], harness := (true, "538579f5968837a8801c7bb0dd355ce0721c92c66f8a7e00bd58b8bc28b30536"), looks := false }, kinds := [], alts := [], laidByText := true, laidKinds := [.data, .data, .data, .data, .pinned], laidTests := true, laidLooks := .later }
def AddrTextsCardSaid : Prop := Claim7.holds Tryd.pinned (.plain (OpenSpec.ofChange addrTextsSpec)) addrTextsCard

/-- THE TIED CARD OF 'vinerylaw02.AddrNests'. -/
def addrNestsCard : Claim7 := { stood := { row := addrNestsRow, standIns := [], harness := (true, "538579f5968837a8801c7bb0dd355ce0721c92c66f8a7e00bd58b8bc28b30536"), looks := false }, kinds := [], alts := [], laidByText := true, laidKinds := [.data, .data, .data, .data, .pinned], laidTests := true, laidLooks := .later }
def AddrNestsCardSaid : Prop := Claim7.holds Tryd.pinned (.plain (OpenSpec.ofChange addrNestsSpec)) addrNestsCard

/-- THE TIED CARD OF 'vinerylaw02.AddrCuts'. -/
def addrCutsCard : Claim7 := { stood := { row := addrCutsRow, standIns := [], harness := (true, "538579f5968837a8801c7bb0dd355ce0721c92c66f8a7e00bd58b8bc28b30536"), looks := false }, kinds := [], alts := [], laidByText := true, laidKinds := [.data, .data, .data, .data, .pinned], laidTests := true, laidLooks := .later }
def AddrCutsCardSaid : Prop := Claim7.holds Tryd.pinned (.plain (OpenSpec.ofChange addrCutsSpec)) addrCutsCard

/-- THE TIED CARD OF 'vinerylaw02.AddrPrefixes'. -/
def addrPrefixesCard : Claim7 := { stood := { row := addrPrefixesRow, standIns := [], harness := (true, "538579f5968837a8801c7bb0dd355ce0721c92c66f8a7e00bd58b8bc28b30536"), looks := false }, kinds := [], alts := [], laidByText := true, laidKinds := [.data, .data, .data, .data, .pinned], laidTests := true, laidLooks := .later }
def AddrPrefixesCardSaid : Prop := Claim7.holds Tryd.pinned (.plain (OpenSpec.ofChange addrPrefixesSpec)) addrPrefixesCard

/-- THE TIED CARD OF 'vinerylaw02.AddrBack'. -/
def addrBackCard : Claim7 := { stood := { row := addrBackRow, standIns := [], harness := (true, "538579f5968837a8801c7bb0dd355ce0721c92c66f8a7e00bd58b8bc28b30536"), looks := false }, kinds := [], alts := [], laidByText := true, laidKinds := [.data, .data, .data, .data, .pinned], laidTests := true, laidLooks := .later }
def AddrBackCardSaid : Prop := Claim7.holds Tryd.pinned (.plain (OpenSpec.ofChange addrBackSpec)) addrBackCard

/-- THE TIED CARD OF 'vinerylaw02.AddrBytes'. -/
def addrBytesCard : Claim7 := { stood := { row := addrBytesRow, standIns := [], harness := (true, "538579f5968837a8801c7bb0dd355ce0721c92c66f8a7e00bd58b8bc28b30536"), looks := false }, kinds := [], alts := [], laidByText := true, laidKinds := [.data, .data, .data, .data, .pinned], laidTests := true, laidLooks := .later }
def AddrBytesCardSaid : Prop := Claim7.holds Tryd.pinned (.plain (OpenSpec.ofChange addrBytesSpec)) addrBytesCard

/-- THE TIED CARD OF 'vinerylaw02.AddrSorts'. -/
def addrSortsCard : Claim7 := { stood := { row := addrSortsRow, standIns := [], harness := (true, "538579f5968837a8801c7bb0dd355ce0721c92c66f8a7e00bd58b8bc28b30536"), looks := false }, kinds := [], alts := [], laidByText := true, laidKinds := [.data, .data, .data, .data, .pinned], laidTests := true, laidLooks := .later }
def AddrSortsCardSaid : Prop := Claim7.holds Tryd.pinned (.plain (OpenSpec.ofChange addrSortsSpec)) addrSortsCard

/-- THE TIED CARD OF 'vinerylaw02.AddrTells'. -/
def addrTellsCard : Claim7 := { stood := { row := addrTellsRow, standIns := [], harness := (true, "538579f5968837a8801c7bb0dd355ce0721c92c66f8a7e00bd58b8bc28b30536"), looks := false }, kinds := [], alts := [], laidByText := true, laidKinds := [.data, .data, .data, .data, .pinned], laidTests := true, laidLooks := .later }
def AddrTellsCardSaid : Prop := Claim7.holds Tryd.pinned (.plain (OpenSpec.ofChange addrTellsSpec)) addrTellsCard

/-- THE SECOND FORM's CARD OF 'vinerylaw02.AddrTexts'. -/
def addrTextsUptoCard : Claim7 := { stood := { row := addrTextsUptoRow, standIns := [], harness := (true, "538579f5968837a8801c7bb0dd355ce0721c92c66f8a7e00bd58b8bc28b30536"), looks := false }, kinds := [], alts := [], laidByText := true, laidKinds := [.data, .data, .data, .data, .pinned], laidTests := true, laidLooks := .later }
def AddrTextsUptoCardSaid : Prop := Claim7.holds Tryd.pinned (.plain (OpenSpec.upto addrTextsSpec)) addrTextsUptoCard

/-- THE SECOND FORM's CARD OF 'vinerylaw02.AddrNests'. -/
def addrNestsUptoCard : Claim7 := { stood := { row := addrNestsUptoRow, standIns := [], harness := (true, "538579f5968837a8801c7bb0dd355ce0721c92c66f8a7e00bd58b8bc28b30536"), looks := false }, kinds := [], alts := [], laidByText := true, laidKinds := [.data, .data, .data, .data, .pinned], laidTests := true, laidLooks := .later }
def AddrNestsUptoCardSaid : Prop := Claim7.holds Tryd.pinned (.plain (OpenSpec.upto addrNestsSpec)) addrNestsUptoCard

/-- THE SECOND FORM's CARD OF 'vinerylaw02.AddrCuts'. -/
def addrCutsUptoCard : Claim7 := { stood := { row := addrCutsUptoRow, standIns := [], harness := (true, "538579f5968837a8801c7bb0dd355ce0721c92c66f8a7e00bd58b8bc28b30536"), looks := false }, kinds := [], alts := [], laidByText := true, laidKinds := [.data, .data, .data, .data, .pinned], laidTests := true, laidLooks := .later }
def AddrCutsUptoCardSaid : Prop := Claim7.holds Tryd.pinned (.plain (OpenSpec.upto addrCutsSpec)) addrCutsUptoCard

/-- THE SECOND FORM's CARD OF 'vinerylaw02.AddrPrefixes'. -/
def addrPrefixesUptoCard : Claim7 := { stood := { row := addrPrefixesUptoRow, standIns := [], harness := (true, "538579f5968837a8801c7bb0dd355ce0721c92c66f8a7e00bd58b8bc28b30536"), looks := false }, kinds := [], alts := [], laidByText := true, laidKinds := [.data, .data, .data, .data, .pinned], laidTests := true, laidLooks := .later }
def AddrPrefixesUptoCardSaid : Prop := Claim7.holds Tryd.pinned (.plain (OpenSpec.upto addrPrefixesSpec)) addrPrefixesUptoCard

/-- THE SECOND FORM's CARD OF 'vinerylaw02.AddrBack'. -/
def addrBackUptoCard : Claim7 := { stood := { row := addrBackUptoRow, standIns := [], harness := (true, "538579f5968837a8801c7bb0dd355ce0721c92c66f8a7e00bd58b8bc28b30536"), looks := false }, kinds := [], alts := [], laidByText := true, laidKinds := [.data, .data, .data, .data, .pinned], laidTests := true, laidLooks := .later }
def AddrBackUptoCardSaid : Prop := Claim7.holds Tryd.pinned (.plain (OpenSpec.upto addrBackSpec)) addrBackUptoCard

/-- THE SECOND FORM's CARD OF 'vinerylaw02.AddrBytes'. -/
def addrBytesUptoCard : Claim7 := { stood := { row := addrBytesUptoRow, standIns := [], harness := (true, "538579f5968837a8801c7bb0dd355ce0721c92c66f8a7e00bd58b8bc28b30536"), looks := false }, kinds := [], alts := [], laidByText := true, laidKinds := [.data, .data, .data, .data, .pinned], laidTests := true, laidLooks := .later }
def AddrBytesUptoCardSaid : Prop := Claim7.holds Tryd.pinned (.plain (OpenSpec.upto addrBytesSpec)) addrBytesUptoCard

/-- THE SECOND FORM's CARD OF 'vinerylaw02.AddrSorts'. -/
def addrSortsUptoCard : Claim7 := { stood := { row := addrSortsUptoRow, standIns := [], harness := (true, "538579f5968837a8801c7bb0dd355ce0721c92c66f8a7e00bd58b8bc28b30536"), looks := false }, kinds := [], alts := [], laidByText := true, laidKinds := [.data, .data, .data, .data, .pinned], laidTests := true, laidLooks := .later }
def AddrSortsUptoCardSaid : Prop := Claim7.holds Tryd.pinned (.plain (OpenSpec.upto addrSortsSpec)) addrSortsUptoCard

/-- THE SECOND FORM's CARD OF 'vinerylaw02.AddrTells'. -/
def addrTellsUptoCard : Claim7 := { stood := { row := addrTellsUptoRow, standIns := [], harness := (true, "538579f5968837a8801c7bb0dd355ce0721c92c66f8a7e00bd58b8bc28b30536"), looks := false }, kinds := [], alts := [], laidByText := true, laidKinds := [.data, .data, .data, .data, .pinned], laidTests := true, laidLooks := .later }
def AddrTellsUptoCardSaid : Prop := Claim7.holds Tryd.pinned (.plain (OpenSpec.upto addrTellsSpec)) addrTellsUptoCard
end Rows
end Go.Proofs.YtkmgglijdfbhpaaDoor
