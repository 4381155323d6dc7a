/-
  DERIVED. GIVEN WITH THE SEED: THE CARDS: each row of YtcejhnpncodkjaaGreatDoorRows.lean that lists a variable, with what it lists TIED to the program's text (the seventh form; the later family's looks); each row that meets fmt, with fmt's text TOLD by the authors' own Lean function (tested against real Go, not proved from fmt's source: count such statements apart). THE CARD IS WHAT COUNTS. Prove the row's statement (the work); the ties are given (YtcejhnpncodkjaaGreatDoorTie.lean); close each card by the builder's one call (the guide's Derived/Test/ToyasCard.lean, 'card_holds'). Laid BY PROGRAM, IN A SANDBOX (cutbox-door.mjs). By AI agents, Wed Nov 11 2026. No macro, syntax, notation, axiom, sorry.
-/
import Derived.Test.YtcejhnpncodkjaaGreatDoorRows
import GoSem.ClaimSeven
namespace Go.Proofs.YtcejhnpncodkjaaGreatDoor
namespace Rows

/-- THE TIED CARD OF 'vinerylaw04.CommunityMakes'. -/
def communityMakesCard : Claim7 := { stood := { row := communityMakesRow, standIns := [], harness := (true, "e112c264b226efb69c5e2aad770e94a9ea8cd56d281c82f6454c32295f9e8806"), looks := false }, kinds := [], alts := [], laidByText := true, laidKinds := [.data, .data, .data, .data, .pinned], laidTests := true, laidLooks := .later }
def CommunityMakesCardSaid : Prop := Claim7.holds Tryz.pinned (.plain (OpenSpec.ofChange communityMakesSpec)) communityMakesCard

/-- THE TIED CARD OF 'vinerylaw04.CommunitySets'. -/
def communitySetsCard : Claim7 := { stood := { row := communitySetsRow, standIns := [], harness := (true, "e112c264b226efb69c5e2aad770e94a9ea8cd56d281c82f6454c32295f9e8806"), looks := false }, kinds := [], alts := [], laidByText := true, laidKinds := [.data, .data, .data, .data, .pinned], laidTests := true, laidLooks := .later }
def CommunitySetsCardSaid : Prop := Claim7.holds Tryz.pinned (.plain (OpenSpec.ofChange communitySetsSpec)) communitySetsCard

/-- THE TIED CARD OF 'vinerylaw04.CommunityRows'. -/
def communityRowsCard : Claim7 := { stood := { row := communityRowsRow, standIns := [], harness := (true, "e112c264b226efb69c5e2aad770e94a9ea8cd56d281c82f6454c32295f9e8806"), looks := false }, kinds := [], alts := [], laidByText := true, laidKinds := [.data, .data, .data, .data, .pinned], laidTests := true, laidLooks := .later }
def CommunityRowsCardSaid : Prop := Claim7.holds Tryz.pinned (.plain (OpenSpec.ofChange communityRowsSpec)) communityRowsCard

/-- THE TIED CARD OF 'vinerylaw04.CommunityTells'. -/
def communityTellsCard : Claim7 := { stood := { row := communityTellsRow, standIns := [], harness := (true, "e112c264b226efb69c5e2aad770e94a9ea8cd56d281c82f6454c32295f9e8806"), looks := false }, kinds := [], alts := [], laidByText := true, laidKinds := [.data, .data, .data, .data, .pinned], laidTests := true, laidLooks := .later }
def CommunityTellsCardSaid : Prop := Claim7.holds Tryz.pinned (.plain (OpenSpec.ofChange communityTellsSpec)) communityTellsCard

/-- THE TIED CARD OF 'vinerylaw04.CommunityBack'. -/
def communityBackCard : Claim7 := { stood := { row := communityBackRow, standIns := [], harness := (true, "e112c264b226efb69c5e2aad770e94a9ea8cd56d281c82f6454c32295f9e8806"), looks := false }, kinds := [], alts := [], laidByText := true, laidKinds := [.data, .data, .data, .data, .pinned], laidTests := true, laidLooks := .later }
def CommunityBackCardSaid : Prop := Claim7.holds Tryz.pinned (.plain (OpenSpec.ofChange communityBackSpec)) communityBackCard

/-- THE SECOND FORM's CARD OF 'vinerylaw04.CommunityMakes'. -/
def communityMakesUptoCard : Claim7 := { stood := { row := communityMakesUptoRow, standIns := [], harness := (true, "e112c264b226efb69c5e2aad770e94a9ea8cd56d281c82f6454c32295f9e8806"), looks := false }, kinds := [], alts := [], laidByText := true, laidKinds := [.data, .data, .data, .data, .pinned], laidTests := true, laidLooks := .later }
def CommunityMakesUptoCardSaid : Prop := Claim7.holds Tryz.pinned (.plain (OpenSpec.upto communityMakesSpec)) communityMakesUptoCard

/-- THE SECOND FORM's CARD OF 'vinerylaw04.CommunitySets'. -/
def communitySetsUptoCard : Claim7 := { stood := { row := communitySetsUptoRow, standIns := [], harness := (true, "e112c264b226efb69c5e2aad770e94a9ea8cd56d281c82f6454c32295f9e8806"), looks := false }, kinds := [], alts := [], laidByText := true, laidKinds := [.data, .data, .data, .data, .pinned], laidTests := true, laidLooks := .later }
def CommunitySetsUptoCardSaid : Prop := Claim7.holds Tryz.pinned (.plain (OpenSpec.upto communitySetsSpec)) communitySetsUptoCard

/-- THE SECOND FORM's CARD OF 'vinerylaw04.CommunityRows'. -/
def communityRowsUptoCard : Claim7 := { stood := { row := communityRowsUptoRow, standIns := [], harness := (true, "e112c264b226efb69c5e2aad770e94a9ea8cd56d281c82f6454c32295f9e8806"), looks := false }, kinds := [], alts := [], laidByText := true, laidKinds := [.data, .data, .data, .data, .pinned], laidTests := true, laidLooks := .later }
def CommunityRowsUptoCardSaid : Prop := Claim7.holds Tryz.pinned (.plain (OpenSpec.upto communityRowsSpec)) communityRowsUptoCard

/-- THE SECOND FORM's CARD OF 'vinerylaw04.CommunityTells'. -/
def communityTellsUptoCard : Claim7 := { stood := { row := communityTellsUptoRow, standIns := [], harness := (true, "e112c264b226efb69c5e2aad770e94a9ea8cd56d281c82f6454c32295f9e8806"), looks := false }, kinds := [], alts := [], laidByText := true, laidKinds := [.data, .data, .data, .data, .pinned], laidTests := true, laidLooks := .later }
def CommunityTellsUptoCardSaid : Prop := Claim7.holds Tryz.pinned (.plain (OpenSpec.upto communityTellsSpec)) communityTellsUptoCard

/-- THE SECOND FORM's CARD OF 'vinerylaw04.CommunityBack'. -/
def communityBackUptoCard : Claim7 := { stood := { row := communityBackUptoRow, standIns := [], harness := (true, "e112c264b226efb69c5e2aad770e94a9ea8cd56d281c82f6454c32295f9e8806"), looks := false }, kinds := [], alts := [], laidByText := true, laidKinds := [.data, .data, .data, .data, .pinned], laidTests := true, laidLooks := .later }
def CommunityBackUptoCardSaid : Prop := Claim7.holds Tryz.pinned (.plain (OpenSpec.upto communityBackSpec)) communityBackUptoCard
end Rows
end Go.Proofs.YtcejhnpncodkjaaGreatDoor
