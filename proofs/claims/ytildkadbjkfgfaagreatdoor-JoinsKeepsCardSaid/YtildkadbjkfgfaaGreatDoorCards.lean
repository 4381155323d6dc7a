/-
  DERIVED. GIVEN WITH THE SEED: THE CARDS: each row of YtildkadbjkfgfaaGreatDoorRows.lean that lists a variable, with what it lists TIED to the program's text (the seventh form; the later family's looks); each row that meets fmt, with fmt's text TOLD by the authors' own Lean function (tested against real Go, not proved from fmt's source: count such statements apart). THE CARD IS WHAT COUNTS. Prove the row's statement (the work); the ties are given (YtildkadbjkfgfaaGreatDoorTie.lean); close each card by the builder's one call (the guide's Derived/Test/ToyasCard.lean, 'card_holds'). Laid BY PROGRAM, IN A SANDBOX (cutbox-door.mjs). By AI agents, Wed Nov 11 2026. No macro, syntax, notation, axiom, sorry.
-/
import Derived.Test.YtildkadbjkfgfaaGreatDoorRows
import GoSem.ClaimSeven
namespace Go.Proofs.YtildkadbjkfgfaaGreatDoor
namespace Rows

/-- THE TIED CARD OF 'vinerylaw20.JoinsTells'. -/
def joinsTellsCard : Claim7 := { stood := { row := joinsTellsRow, standIns := [], harness := (true, "b690424abd3ddb3d80afa36be7e6de4daff483bc7a72a067f2f74c7c5223e80d"), looks := false }, kinds := [], alts := [], laidByText := true, laidKinds := [.data, .pinned], laidTests := true, laidLooks := .later }
def JoinsTellsCardSaid : Prop := Claim7.holds Tryz.pinned (.plain (OpenSpec.ofChange joinsTellsSpec)) joinsTellsCard

/-- THE TIED CARD OF 'vinerylaw20.JoinsAsks'. -/
def joinsAsksCard : Claim7 := { stood := { row := joinsAsksRow, standIns := [], harness := (true, "b690424abd3ddb3d80afa36be7e6de4daff483bc7a72a067f2f74c7c5223e80d"), looks := false }, kinds := [], alts := [], laidByText := true, laidKinds := [.data, .pinned], laidTests := true, laidLooks := .later }
def JoinsAsksCardSaid : Prop := Claim7.holds Tryz.pinned (.plain (OpenSpec.ofChange joinsAsksSpec)) joinsAsksCard

/-- THE TIED CARD OF 'vinerylaw20.JoinsRises'. -/
def joinsRisesCard : Claim7 := { stood := { row := joinsRisesRow, standIns := [], harness := (true, "b690424abd3ddb3d80afa36be7e6de4daff483bc7a72a067f2f74c7c5223e80d"), looks := false }, kinds := [], alts := [], laidByText := true, laidKinds := [.data, .pinned], laidTests := true, laidLooks := .later }
def JoinsRisesCardSaid : Prop := Claim7.holds Tryz.pinned (.plain (OpenSpec.ofChange joinsRisesSpec)) joinsRisesCard

/-- THE TIED CARD OF 'vinerylaw20.JoinsKeeps'. -/
def joinsKeepsCard : Claim7 := { stood := { row := joinsKeepsRow, standIns := [], harness := (true, "b690424abd3ddb3d80afa36be7e6de4daff483bc7a72a067f2f74c7c5223e80d"), looks := false }, kinds := [], alts := [], laidByText := true, laidKinds := [.data, .pinned], laidTests := true, laidLooks := .later }
def JoinsKeepsCardSaid : Prop := Claim7.holds Tryz.pinned (.plain (OpenSpec.ofChange joinsKeepsSpec)) joinsKeepsCard

/-- THE SECOND FORM's CARD OF 'vinerylaw20.JoinsTells'. -/
def joinsTellsUptoCard : Claim7 := { stood := { row := joinsTellsUptoRow, standIns := [], harness := (true, "b690424abd3ddb3d80afa36be7e6de4daff483bc7a72a067f2f74c7c5223e80d"), looks := false }, kinds := [], alts := [], laidByText := true, laidKinds := [.data, .pinned], laidTests := true, laidLooks := .later }
def JoinsTellsUptoCardSaid : Prop := Claim7.holds Tryz.pinned (.plain (OpenSpec.upto joinsTellsSpec)) joinsTellsUptoCard

/-- THE SECOND FORM's CARD OF 'vinerylaw20.JoinsAsks'. -/
def joinsAsksUptoCard : Claim7 := { stood := { row := joinsAsksUptoRow, standIns := [], harness := (true, "b690424abd3ddb3d80afa36be7e6de4daff483bc7a72a067f2f74c7c5223e80d"), looks := false }, kinds := [], alts := [], laidByText := true, laidKinds := [.data, .pinned], laidTests := true, laidLooks := .later }
def JoinsAsksUptoCardSaid : Prop := Claim7.holds Tryz.pinned (.plain (OpenSpec.upto joinsAsksSpec)) joinsAsksUptoCard

/-- THE SECOND FORM's CARD OF 'vinerylaw20.JoinsRises'. -/
def joinsRisesUptoCard : Claim7 := { stood := { row := joinsRisesUptoRow, standIns := [], harness := (true, "b690424abd3ddb3d80afa36be7e6de4daff483bc7a72a067f2f74c7c5223e80d"), looks := false }, kinds := [], alts := [], laidByText := true, laidKinds := [.data, .pinned], laidTests := true, laidLooks := .later }
def JoinsRisesUptoCardSaid : Prop := Claim7.holds Tryz.pinned (.plain (OpenSpec.upto joinsRisesSpec)) joinsRisesUptoCard

/-- THE SECOND FORM's CARD OF 'vinerylaw20.JoinsKeeps'. -/
def joinsKeepsUptoCard : Claim7 := { stood := { row := joinsKeepsUptoRow, standIns := [], harness := (true, "b690424abd3ddb3d80afa36be7e6de4daff483bc7a72a067f2f74c7c5223e80d"), looks := false }, kinds := [], alts := [], laidByText := true, laidKinds := [.data, .pinned], laidTests := true, laidLooks := .later }
def JoinsKeepsUptoCardSaid : Prop := Claim7.holds Tryz.pinned (.plain (OpenSpec.upto joinsKeepsSpec)) joinsKeepsUptoCard
end Rows
end Go.Proofs.YtildkadbjkfgfaaGreatDoor
