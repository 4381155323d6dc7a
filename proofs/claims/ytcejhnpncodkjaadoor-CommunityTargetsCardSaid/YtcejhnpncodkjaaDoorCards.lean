/-
  DERIVED. GIVEN WITH THE SEED: THE CARDS: each row of YtcejhnpncodkjaaDoorRows.lean that lists a variable, with what it lists TIED to the program's text (the seventh form; the later family's looks); each row that meets fmt, with fmt's text TOLD by the authors' own Lean function (tested against real Go, not proved from fmt's source: count such statements apart). THE CARD IS WHAT COUNTS. Prove the row's statement (the work); the ties are given (YtcejhnpncodkjaaDoorTie.lean); close each card by the builder's one call (the guide's Derived/Test/ToyasCard.lean, 'card_holds'). Laid BY PROGRAM, IN A SANDBOX (cutbox-door.mjs). By AI agents, Wed Nov 11 2026. No macro, syntax, notation, axiom, sorry.
-/
import Derived.Test.YtcejhnpncodkjaaDoorRows
import GoSem.ClaimSeven
namespace Go.Proofs.YtcejhnpncodkjaaDoor
namespace Rows

/-- THE TIED CARD OF 'vinerylaw04.CommunityTargets'. -/
def communityTargetsCard : Claim7 := { stood := { row := communityTargetsRow, standIns := [], harness := (true, "a740c4eb5468f0d750613b073bbff43f6207a36ed5daa35abd692d8687671b69"), looks := false }, kinds := [], alts := [], laidByText := true, laidKinds := [.data, .data, .data, .data, .pinned], laidTests := true, laidLooks := .later }
def CommunityTargetsCardSaid : Prop := Claim7.holds Tryd.pinned (.plain (OpenSpec.ofChange communityTargetsSpec)) communityTargetsCard

/-- THE SECOND FORM's CARD OF 'vinerylaw04.CommunityTargets'. -/
def communityTargetsUptoCard : Claim7 := { stood := { row := communityTargetsUptoRow, standIns := [], harness := (true, "a740c4eb5468f0d750613b073bbff43f6207a36ed5daa35abd692d8687671b69"), looks := false }, kinds := [], alts := [], laidByText := true, laidKinds := [.data, .data, .data, .data, .pinned], laidTests := true, laidLooks := .later }
def CommunityTargetsUptoCardSaid : Prop := Claim7.holds Tryd.pinned (.plain (OpenSpec.upto communityTargetsSpec)) communityTargetsUptoCard
end Rows
end Go.Proofs.YtcejhnpncodkjaaDoor
