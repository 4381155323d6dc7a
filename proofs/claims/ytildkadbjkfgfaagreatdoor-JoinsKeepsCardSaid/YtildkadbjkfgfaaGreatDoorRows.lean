/-
  NARROWER THAN 'FOR EVERY INPUT', by the rows' own cells (each row's printed sentence says how): JoinsTells: laid · JoinsAsks: laid · JoinsRises: laid · JoinsKeeps: laid.
  DERIVED. THE GIVEN ROWS OF THIS SEAT. 4 by the template 'for every input the law returns true; each argument reads behind the call as it read before'; 0 by the template 'total and deterministic' (their statements: YtildkadbjkfgfaaGreatDoorTotals.lean).
  GIVEN WITH THE SEED: the statements are not yours to turn. If you find one false, say at which input.
  Laid BY PROGRAM, IN A SANDBOX (cutbox-rows.mjs): the forced cells as the released guide's own fill.sh prints them over the translation b283644d7d44f86a… (all of the seat's roots in one cut). By AI agents, Wed Nov 11 2026. No macro, syntax, notation, axiom, sorry.
-/
import Derived.Test.YtildkadbjkfgfaaGreatDoorChecked
import GoSem.PinnedTables
import GoSem.Claim
import GoSem.ClaimJoined
import GoSem.ClaimMapViews
import Derived.JoinedTies
import Derived.KernelRfl
namespace Go.Proofs.YtildkadbjkfgfaaGreatDoor
/- THE CELL 'sum', in the pinned program and in every row, IS THE sha256 OF THE DUMP (.gsa) THAT YtildkadbjkfgfaaGreatDoorProg.lean LOADS. Nothing in Lean hashes anything: it is a label: what it is worth is what the hold of that sum in a sandbox is worth. -/
noncomputable def Tryz.pinned : Pinned := { name := "ytildkadbjkfgfaagreatdoor", sum := "b283644d7d44f86af7e59eaa6ff0509d9b2e3548c031ad2bc5a8a95389db6258", checked := Tryz.checked }
namespace Rows
def none {H : Type} : Left H := { results := [], args := [] }

/- WHAT THE LISTED PACKAGE-LEVEL VARIABLES READ AS WHEN THE CALL BEGINS. Each datum BY PROGRAM (the guide's laid-datum.mjs) off the statement by which the dump's own 'gosem.cut.vars' lays the variable. In a bare row this is a premise. The card (YtildkadbjkfgfaaGreatDoorCards.lean) ties it to the program's text. -/
def laid_unicode_utf8_acceptRanges {H : Type} : DataW H := .agg [.agg [.lit (.int .u8 128), .lit (.int .u8 191)], .agg [.lit (.int .u8 160), .lit (.int .u8 191)], .agg [.lit (.int .u8 128), .lit (.int .u8 159)], .agg [.lit (.int .u8 144), .lit (.int .u8 191)], .agg [.lit (.int .u8 128), .lit (.int .u8 143)], .agg [.lit (.int .u8 0), .lit (.int .u8 0)], .agg [.lit (.int .u8 0), .lit (.int .u8 0)], .agg [.lit (.int .u8 0), .lit (.int .u8 0)], .agg [.lit (.int .u8 0), .lit (.int .u8 0)], .agg [.lit (.int .u8 0), .lit (.int .u8 0)], .agg [.lit (.int .u8 0), .lit (.int .u8 0)], .agg [.lit (.int .u8 0), .lit (.int .u8 0)], .agg [.lit (.int .u8 0), .lit (.int .u8 0)], .agg [.lit (.int .u8 0), .lit (.int .u8 0)], .agg [.lit (.int .u8 0), .lit (.int .u8 0)], .agg [.lit (.int .u8 0), .lit (.int .u8 0)]]
/-- One of Go's own tables, pinned by name: the form's constant. -/
def laid_unicode_utf8_first : DataW Unit := Go.Pinned.utf8First

/-- 'vinerylaw20.JoinsTells': WHATEVER THE INPUT: true; the input reads as it did. -/
def joinsTellsSpec : ChangeSpec := { name := "joinsTells", fn := fun _ => fun
  | [d1, d2] => { results := [.lit (.bool true)], args := [d1, d2] }
  | _ => none }
def joinsTellsRow : OpenClaim := { program := "ytildkadbjkfgfaagreatdoor", sum := "b283644d7d44f86af7e59eaa6ff0509d9b2e3548c031ad2bc5a8a95389db6258", func := "vinery/vinerylaw20.JoinsTells", spec := "joinsTells", inPlace := ["internal/bytealg.IndexByteString", "internal/bytealg.IndexString", "internal/bytealg.Compare", "slices.overlaps[vinery/api.Join]"], unfollowed := true, recurses := true, named := ["unicode/utf8.first", "unicode/utf8.acceptRanges", "internal/bytealg.MaxLen"], apart := false, laid := [("unicode/utf8.acceptRanges", laid_unicode_utf8_acceptRanges), ("unicode/utf8.first", laid_unicode_utf8_first)] }
def JoinsTellsSaid : Prop := joinsTellsRow.holds Tryz.pinned (OpenSpec.ofChange joinsTellsSpec)

/-- ITS FALSE NEIGHBOUR: 'it returns false'. Refute it at one input. -/
def joinsTellsWrong : ChangeSpec := { name := "joinsTells", fn := fun _ => fun
  | [d1, d2] => { results := [.lit (.bool false)], args := [d1, d2] }
  | _ => none }
def JoinsTellsWrongFalsely : Prop := joinsTellsRow.holds Tryz.pinned (OpenSpec.ofChange joinsTellsWrong)

/-- 'vinerylaw20.JoinsAsks': WHATEVER THE INPUT: true; the input reads as it did. -/
def joinsAsksSpec : ChangeSpec := { name := "joinsAsks", fn := fun _ => fun
  | [d1, d2, d3] => { results := [.lit (.bool true)], args := [d1, d2, d3] }
  | _ => none }
def joinsAsksRow : OpenClaim := { program := "ytildkadbjkfgfaagreatdoor", sum := "b283644d7d44f86af7e59eaa6ff0509d9b2e3548c031ad2bc5a8a95389db6258", func := "vinery/vinerylaw20.JoinsAsks", spec := "joinsAsks", inPlace := ["internal/bytealg.IndexByteString", "internal/bytealg.IndexString", "internal/bytealg.Compare", "slices.overlaps[vinery/api.Join]"], unfollowed := true, recurses := true, named := ["unicode/utf8.first", "unicode/utf8.acceptRanges", "internal/bytealg.MaxLen"], apart := false, laid := [("unicode/utf8.acceptRanges", laid_unicode_utf8_acceptRanges), ("unicode/utf8.first", laid_unicode_utf8_first)] }
def JoinsAsksSaid : Prop := joinsAsksRow.holds Tryz.pinned (OpenSpec.ofChange joinsAsksSpec)

/-- ITS FALSE NEIGHBOUR: 'it returns false'. Refute it at one input. -/
def joinsAsksWrong : ChangeSpec := { name := "joinsAsks", fn := fun _ => fun
  | [d1, d2, d3] => { results := [.lit (.bool false)], args := [d1, d2, d3] }
  | _ => none }
def JoinsAsksWrongFalsely : Prop := joinsAsksRow.holds Tryz.pinned (OpenSpec.ofChange joinsAsksWrong)

/-- 'vinerylaw20.JoinsRises': WHATEVER THE INPUT: true; the input reads as it did. -/
def joinsRisesSpec : ChangeSpec := { name := "joinsRises", fn := fun _ => fun
  | [d1, d2, d3, d4] => { results := [.lit (.bool true)], args := [d1, d2, d3, d4] }
  | _ => none }
def joinsRisesRow : OpenClaim := { program := "ytildkadbjkfgfaagreatdoor", sum := "b283644d7d44f86af7e59eaa6ff0509d9b2e3548c031ad2bc5a8a95389db6258", func := "vinery/vinerylaw20.JoinsRises", spec := "joinsRises", inPlace := ["internal/bytealg.IndexByteString", "internal/bytealg.IndexString", "internal/bytealg.Compare", "slices.overlaps[vinery/api.Join]"], unfollowed := true, recurses := true, named := ["unicode/utf8.first", "unicode/utf8.acceptRanges", "internal/bytealg.MaxLen"], apart := false, laid := [("unicode/utf8.acceptRanges", laid_unicode_utf8_acceptRanges), ("unicode/utf8.first", laid_unicode_utf8_first)] }
def JoinsRisesSaid : Prop := joinsRisesRow.holds Tryz.pinned (OpenSpec.ofChange joinsRisesSpec)

/-- ITS FALSE NEIGHBOUR: 'it returns false'. Refute it at one input. -/
def joinsRisesWrong : ChangeSpec := { name := "joinsRises", fn := fun _ => fun
  | [d1, d2, d3, d4] => { results := [.lit (.bool false)], args := [d1, d2, d3, d4] }
  | _ => none }
def JoinsRisesWrongFalsely : Prop := joinsRisesRow.holds Tryz.pinned (OpenSpec.ofChange joinsRisesWrong)

/-- 'vinerylaw20.JoinsKeeps': WHATEVER THE INPUT: true; the input reads as it did. -/
def joinsKeepsSpec : ChangeSpec := { name := "joinsKeeps", fn := fun _ => fun
  | [d1, d2, d3] => { results := [.lit (.bool true)], args := [d1, d2, d3] }
  | _ => none }
def joinsKeepsRow : OpenClaim := { program := "ytildkadbjkfgfaagreatdoor", sum := "b283644d7d44f86af7e59eaa6ff0509d9b2e3548c031ad2bc5a8a95389db6258", func := "vinery/vinerylaw20.JoinsKeeps", spec := "joinsKeeps", inPlace := ["internal/bytealg.IndexByteString", "internal/bytealg.IndexString", "internal/bytealg.Compare", "slices.overlaps[vinery/api.Join]"], unfollowed := true, recurses := true, named := ["unicode/utf8.first", "unicode/utf8.acceptRanges", "internal/bytealg.MaxLen"], apart := false, laid := [("unicode/utf8.acceptRanges", laid_unicode_utf8_acceptRanges), ("unicode/utf8.first", laid_unicode_utf8_first)] }
def JoinsKeepsSaid : Prop := joinsKeepsRow.holds Tryz.pinned (OpenSpec.ofChange joinsKeepsSpec)

/-- ITS FALSE NEIGHBOUR: 'it returns false'. Refute it at one input. -/
def joinsKeepsWrong : ChangeSpec := { name := "joinsKeeps", fn := fun _ => fun
  | [d1, d2, d3] => { results := [.lit (.bool false)], args := [d1, d2, d3] }
  | _ => none }
def JoinsKeepsWrongFalsely : Prop := joinsKeepsRow.holds Tryz.pinned (OpenSpec.ofChange joinsKeepsWrong)

/- THE SECOND FORM. 'bulk': how many values and letters a reading holds, each counted each time it is reached (what is shared counts as often as it is met; a slice's spare places count too). A statement '..UptoSaid' is the law's where the arguments, and the package variables that the reading takes, are together of bulk at most 1048576: NARROWER than '..Said'. Prove '..Said' where nothing that the law and all that it calls make is longer than what came in: it says more and counts as full. Else prove '..UptoSaid'. A law counts once. -/
mutual
def uptoBulk {H : Type} : DataW H → Nat
  | .lit (.string bytes) => bytes.length + 1
  | .lit _ => 1
  | .nil => 1
  | .ptr d => uptoBulk d + 1
  | .slice elems spare => uptoBulkAll elems + uptoBulkAll spare + 1
  | .agg parts => uptoBulkAll parts + 1
  | .iface _ d => uptoBulk d + 1
  | .map entries => uptoBulkEntries entries + 1
  | .held _ => 1
def uptoBulkAll {H : Type} : List (DataW H) → Nat
  | [] => 0
  | d :: r => uptoBulk d + uptoBulkAll r
def uptoBulkEntries {H : Type} : List (Lit × DataW H) → Nat
  | [] => 0
  | x :: r => uptoBulkEntry x + uptoBulkEntries r
def uptoBulkEntry {H : Type} : Lit × DataW H → Nat
  | (.string bytes, d) => bytes.length + uptoBulk d + 1
  | (_, d) => uptoBulk d + 1
 end
def uptoSmall : (H : Type) → List (DataW H) → Bool := fun _ ds => decide (uptoBulkAll ds ≤ 1048576)
def OpenSpec.upto (s : _root_.Go.ChangeSpec) : _root_.Go.OpenSpec := { _root_.Go.OpenSpec.ofChange s with cond := some uptoSmall }

/-- 'vinerylaw20.JoinsTells', WHERE WHAT IT READS IS OF BULK AT MOST 1048576: true; the input reads as it did. -/
def joinsTellsUptoRow : OpenClaim := { program := "ytildkadbjkfgfaagreatdoor", sum := "b283644d7d44f86af7e59eaa6ff0509d9b2e3548c031ad2bc5a8a95389db6258", func := "vinery/vinerylaw20.JoinsTells", spec := "joinsTells", inPlace := ["internal/bytealg.IndexByteString", "internal/bytealg.IndexString", "internal/bytealg.Compare", "slices.overlaps[vinery/api.Join]"], unfollowed := true, recurses := true, named := ["unicode/utf8.first", "unicode/utf8.acceptRanges", "internal/bytealg.MaxLen"], apart := false, laid := [("unicode/utf8.acceptRanges", laid_unicode_utf8_acceptRanges), ("unicode/utf8.first", laid_unicode_utf8_first)], narrowed := true }
def JoinsTellsUptoSaid : Prop := joinsTellsUptoRow.holds Tryz.pinned (OpenSpec.upto joinsTellsSpec)

/-- 'vinerylaw20.JoinsAsks', WHERE WHAT IT READS IS OF BULK AT MOST 1048576: true; the input reads as it did. -/
def joinsAsksUptoRow : OpenClaim := { program := "ytildkadbjkfgfaagreatdoor", sum := "b283644d7d44f86af7e59eaa6ff0509d9b2e3548c031ad2bc5a8a95389db6258", func := "vinery/vinerylaw20.JoinsAsks", spec := "joinsAsks", inPlace := ["internal/bytealg.IndexByteString", "internal/bytealg.IndexString", "internal/bytealg.Compare", "slices.overlaps[vinery/api.Join]"], unfollowed := true, recurses := true, named := ["unicode/utf8.first", "unicode/utf8.acceptRanges", "internal/bytealg.MaxLen"], apart := false, laid := [("unicode/utf8.acceptRanges", laid_unicode_utf8_acceptRanges), ("unicode/utf8.first", laid_unicode_utf8_first)], narrowed := true }
def JoinsAsksUptoSaid : Prop := joinsAsksUptoRow.holds Tryz.pinned (OpenSpec.upto joinsAsksSpec)

/-- 'vinerylaw20.JoinsRises', WHERE WHAT IT READS IS OF BULK AT MOST 1048576: true; the input reads as it did. -/
def joinsRisesUptoRow : OpenClaim := { program := "ytildkadbjkfgfaagreatdoor", sum := "b283644d7d44f86af7e59eaa6ff0509d9b2e3548c031ad2bc5a8a95389db6258", func := "vinery/vinerylaw20.JoinsRises", spec := "joinsRises", inPlace := ["internal/bytealg.IndexByteString", "internal/bytealg.IndexString", "internal/bytealg.Compare", "slices.overlaps[vinery/api.Join]"], unfollowed := true, recurses := true, named := ["unicode/utf8.first", "unicode/utf8.acceptRanges", "internal/bytealg.MaxLen"], apart := false, laid := [("unicode/utf8.acceptRanges", laid_unicode_utf8_acceptRanges), ("unicode/utf8.first", laid_unicode_utf8_first)], narrowed := true }
def JoinsRisesUptoSaid : Prop := joinsRisesUptoRow.holds Tryz.pinned (OpenSpec.upto joinsRisesSpec)

/-- 'vinerylaw20.JoinsKeeps', WHERE WHAT IT READS IS OF BULK AT MOST 1048576: true; the input reads as it did. -/
def joinsKeepsUptoRow : OpenClaim := { program := "ytildkadbjkfgfaagreatdoor", sum := "b283644d7d44f86af7e59eaa6ff0509d9b2e3548c031ad2bc5a8a95389db6258", func := "vinery/vinerylaw20.JoinsKeeps", spec := "joinsKeeps", inPlace := ["internal/bytealg.IndexByteString", "internal/bytealg.IndexString", "internal/bytealg.Compare", "slices.overlaps[vinery/api.Join]"], unfollowed := true, recurses := true, named := ["unicode/utf8.first", "unicode/utf8.acceptRanges", "internal/bytealg.MaxLen"], apart := false, laid := [("unicode/utf8.acceptRanges", laid_unicode_utf8_acceptRanges), ("unicode/utf8.first", laid_unicode_utf8_first)], narrowed := true }
def JoinsKeepsUptoSaid : Prop := joinsKeepsUptoRow.holds Tryz.pinned (OpenSpec.upto joinsKeepsSpec)

end Rows
end Go.Proofs.YtildkadbjkfgfaaGreatDoor
