/-
  NARROWER THAN 'FOR EVERY INPUT', by the rows' own cells (each row's printed sentence says how): PmsiCodes: laid · PmsiSames: laid · PmsiBack: laid · PmsiApart: laid · PmsiHeads: laid · AttrSplits: laid · AttrJoins: laid · AttrOrders: laid · AttrBack: laid.
  DERIVED. THE GIVEN ROWS OF THIS SEAT. 9 by the template 'for every input the law returns true; each argument reads behind the call as it read before'; 0 by the template 'total and deterministic' (their statements: YtoeenagdbjppgaaDoorTotals.lean).
  GIVEN WITH THE SEED: the statements are not yours to turn. If you find one false, say at which input.
  Laid BY PROGRAM, IN A SANDBOX (cutbox-rows.mjs): the forced cells as the released guide's own fill.sh prints them over the translation d06caeeb765cfb67… (all of the seat's roots in one cut). By AI agents, Wed Nov 11 2026. No macro, syntax, notation, axiom, sorry.
-/
import Derived.Test.YtoeenagdbjppgaaDoorChecked
import GoSem.PinnedTables
import GoSem.Claim
import GoSem.ClaimJoined
import GoSem.ClaimMapViews
import Derived.JoinedTies
import Derived.KernelRfl
namespace Go.Proofs.YtoeenagdbjppgaaDoor
/- THE CELL 'sum', in the pinned program and in every row, IS THE sha256 OF THE DUMP (.gsa) THAT YtoeenagdbjppgaaDoorProg.lean LOADS. Nothing in Lean hashes anything: it is a label: what it is worth is what the hold of that sum in a sandbox is worth. -/
noncomputable def Tryd.pinned : Pinned := { name := "ytoeenagdbjppgaadoor", sum := "d06caeeb765cfb679f60d9da3f97b0ba7a3b06df4535ea5fe004166fed7c6db5", checked := Tryd.checked }
namespace Rows
def none {H : Type} : Left H := { results := [], args := [] }

/- WHAT THE LISTED PACKAGE-LEVEL VARIABLES READ AS WHEN THE CALL BEGINS. Each datum BY PROGRAM (the guide's laid-datum.mjs) off the statement by which the dump's own 'gosem.cut.vars' lays the variable. In a bare row this is a premise. The card (YtoeenagdbjppgaaDoorCards.lean) ties it to the program's text. -/
def laid_unicode_utf8_acceptRanges {H : Type} : DataW H := .agg [.agg [.lit (.int .u8 128), .lit (.int .u8 191)], .agg [.lit (.int .u8 160), .lit (.int .u8 191)], .agg [.lit (.int .u8 128), .lit (.int .u8 159)], .agg [.lit (.int .u8 144), .lit (.int .u8 191)], .agg [.lit (.int .u8 128), .lit (.int .u8 143)], .agg [.lit (.int .u8 0), .lit (.int .u8 0)], .agg [.lit (.int .u8 0), .lit (.int .u8 0)], .agg [.lit (.int .u8 0), .lit (.int .u8 0)], .agg [.lit (.int .u8 0), .lit (.int .u8 0)], .agg [.lit (.int .u8 0), .lit (.int .u8 0)], .agg [.lit (.int .u8 0), .lit (.int .u8 0)], .agg [.lit (.int .u8 0), .lit (.int .u8 0)], .agg [.lit (.int .u8 0), .lit (.int .u8 0)], .agg [.lit (.int .u8 0), .lit (.int .u8 0)], .agg [.lit (.int .u8 0), .lit (.int .u8 0)], .agg [.lit (.int .u8 0), .lit (.int .u8 0)]]
/-- One of Go's own tables, pinned by name: the form's constant. -/
def laid_unicode_utf8_first : DataW Unit := Go.Pinned.utf8First

/-- 'vinerylaw06.PmsiCodes': WHATEVER THE INPUT: true; the input reads as it did. -/
def pmsiCodesSpec : ChangeSpec := { name := "pmsiCodes", fn := fun _ => fun
  | [d1, d2] => { results := [.lit (.bool true)], args := [d1, d2] }
  | _ => none }
def pmsiCodesRow : OpenClaim := { program := "ytoeenagdbjppgaadoor", sum := "d06caeeb765cfb679f60d9da3f97b0ba7a3b06df4535ea5fe004166fed7c6db5", func := "vinery/vinerylaw06.PmsiCodes", spec := "pmsiCodes", named := ["unicode/utf8.first", "unicode/utf8.acceptRanges"], apart := false, laid := [("unicode/utf8.acceptRanges", laid_unicode_utf8_acceptRanges), ("unicode/utf8.first", laid_unicode_utf8_first)] }
def PmsiCodesSaid : Prop := pmsiCodesRow.holds Tryd.pinned (OpenSpec.ofChange pmsiCodesSpec)

/-- ITS FALSE NEIGHBOUR: 'it returns false'. Refute it at one input. -/
def pmsiCodesWrong : ChangeSpec := { name := "pmsiCodes", fn := fun _ => fun
  | [d1, d2] => { results := [.lit (.bool false)], args := [d1, d2] }
  | _ => none }
def PmsiCodesWrongFalsely : Prop := pmsiCodesRow.holds Tryd.pinned (OpenSpec.ofChange pmsiCodesWrong)

/-- 'vinerylaw06.PmsiSames': WHATEVER THE INPUT: true; the input reads as it did. -/
def pmsiSamesSpec : ChangeSpec := { name := "pmsiSames", fn := fun _ => fun
  | [d1, d2] => { results := [.lit (.bool true)], args := [d1, d2] }
  | _ => none }
def pmsiSamesRow : OpenClaim := { program := "ytoeenagdbjppgaadoor", sum := "d06caeeb765cfb679f60d9da3f97b0ba7a3b06df4535ea5fe004166fed7c6db5", func := "vinery/vinerylaw06.PmsiSames", spec := "pmsiSames", named := ["unicode/utf8.first", "unicode/utf8.acceptRanges"], apart := false, laid := [("unicode/utf8.acceptRanges", laid_unicode_utf8_acceptRanges), ("unicode/utf8.first", laid_unicode_utf8_first)] }
def PmsiSamesSaid : Prop := pmsiSamesRow.holds Tryd.pinned (OpenSpec.ofChange pmsiSamesSpec)

/-- ITS FALSE NEIGHBOUR: 'it returns false'. Refute it at one input. -/
def pmsiSamesWrong : ChangeSpec := { name := "pmsiSames", fn := fun _ => fun
  | [d1, d2] => { results := [.lit (.bool false)], args := [d1, d2] }
  | _ => none }
def PmsiSamesWrongFalsely : Prop := pmsiSamesRow.holds Tryd.pinned (OpenSpec.ofChange pmsiSamesWrong)

/-- 'vinerylaw06.PmsiBack': WHATEVER THE INPUT: true; the input reads as it did. -/
def pmsiBackSpec : ChangeSpec := { name := "pmsiBack", fn := fun _ => fun
  | [d1, d2] => { results := [.lit (.bool true)], args := [d1, d2] }
  | _ => none }
def pmsiBackRow : OpenClaim := { program := "ytoeenagdbjppgaadoor", sum := "d06caeeb765cfb679f60d9da3f97b0ba7a3b06df4535ea5fe004166fed7c6db5", func := "vinery/vinerylaw06.PmsiBack", spec := "pmsiBack", named := ["unicode/utf8.first", "unicode/utf8.acceptRanges"], apart := false, laid := [("unicode/utf8.acceptRanges", laid_unicode_utf8_acceptRanges), ("unicode/utf8.first", laid_unicode_utf8_first)] }
def PmsiBackSaid : Prop := pmsiBackRow.holds Tryd.pinned (OpenSpec.ofChange pmsiBackSpec)

/-- ITS FALSE NEIGHBOUR: 'it returns false'. Refute it at one input. -/
def pmsiBackWrong : ChangeSpec := { name := "pmsiBack", fn := fun _ => fun
  | [d1, d2] => { results := [.lit (.bool false)], args := [d1, d2] }
  | _ => none }
def PmsiBackWrongFalsely : Prop := pmsiBackRow.holds Tryd.pinned (OpenSpec.ofChange pmsiBackWrong)

/-- 'vinerylaw06.PmsiApart': WHATEVER THE INPUT: true; the input reads as it did. -/
def pmsiApartSpec : ChangeSpec := { name := "pmsiApart", fn := fun _ => fun
  | [d1, d2] => { results := [.lit (.bool true)], args := [d1, d2] }
  | _ => none }
def pmsiApartRow : OpenClaim := { program := "ytoeenagdbjppgaadoor", sum := "d06caeeb765cfb679f60d9da3f97b0ba7a3b06df4535ea5fe004166fed7c6db5", func := "vinery/vinerylaw06.PmsiApart", spec := "pmsiApart", named := ["unicode/utf8.first", "unicode/utf8.acceptRanges"], apart := false, laid := [("unicode/utf8.acceptRanges", laid_unicode_utf8_acceptRanges), ("unicode/utf8.first", laid_unicode_utf8_first)] }
def PmsiApartSaid : Prop := pmsiApartRow.holds Tryd.pinned (OpenSpec.ofChange pmsiApartSpec)

/-- ITS FALSE NEIGHBOUR: 'it returns false'. Refute it at one input. -/
def pmsiApartWrong : ChangeSpec := { name := "pmsiApart", fn := fun _ => fun
  | [d1, d2] => { results := [.lit (.bool false)], args := [d1, d2] }
  | _ => none }
def PmsiApartWrongFalsely : Prop := pmsiApartRow.holds Tryd.pinned (OpenSpec.ofChange pmsiApartWrong)

/-- 'vinerylaw06.PmsiHeads': WHATEVER THE INPUT: true; the input reads as it did. -/
def pmsiHeadsSpec : ChangeSpec := { name := "pmsiHeads", fn := fun _ => fun
  | [d] => { results := [.lit (.bool true)], args := [d] }
  | _ => none }
def pmsiHeadsRow : OpenClaim := { program := "ytoeenagdbjppgaadoor", sum := "d06caeeb765cfb679f60d9da3f97b0ba7a3b06df4535ea5fe004166fed7c6db5", func := "vinery/vinerylaw06.PmsiHeads", spec := "pmsiHeads", named := ["unicode/utf8.first", "unicode/utf8.acceptRanges"], apart := false, laid := [("unicode/utf8.acceptRanges", laid_unicode_utf8_acceptRanges), ("unicode/utf8.first", laid_unicode_utf8_first)] }
def PmsiHeadsSaid : Prop := pmsiHeadsRow.holds Tryd.pinned (OpenSpec.ofChange pmsiHeadsSpec)

/-- ITS FALSE NEIGHBOUR: 'it returns false'. Refute it at one input. -/
def pmsiHeadsWrong : ChangeSpec := { name := "pmsiHeads", fn := fun _ => fun
  | [d] => { results := [.lit (.bool false)], args := [d] }
  | _ => none }
def PmsiHeadsWrongFalsely : Prop := pmsiHeadsRow.holds Tryd.pinned (OpenSpec.ofChange pmsiHeadsWrong)

/-- 'vinerylaw09.AttrSplits': WHATEVER THE INPUT: true; the input reads as it did. -/
def attrSplitsSpec : ChangeSpec := { name := "attrSplits", fn := fun _ => fun
  | [d1, d2] => { results := [.lit (.bool true)], args := [d1, d2] }
  | _ => none }
def attrSplitsRow : OpenClaim := { program := "ytoeenagdbjppgaadoor", sum := "d06caeeb765cfb679f60d9da3f97b0ba7a3b06df4535ea5fe004166fed7c6db5", func := "vinery/vinerylaw09.AttrSplits", spec := "attrSplits", unfollowed := true, recurses := true, named := ["unicode/utf8.first", "unicode/utf8.acceptRanges"], apart := false, laid := [("unicode/utf8.acceptRanges", laid_unicode_utf8_acceptRanges), ("unicode/utf8.first", laid_unicode_utf8_first)] }
def AttrSplitsSaid : Prop := attrSplitsRow.holds Tryd.pinned (OpenSpec.ofChange attrSplitsSpec)

/-- ITS FALSE NEIGHBOUR: 'it returns false'. Refute it at one input. -/
def attrSplitsWrong : ChangeSpec := { name := "attrSplits", fn := fun _ => fun
  | [d1, d2] => { results := [.lit (.bool false)], args := [d1, d2] }
  | _ => none }
def AttrSplitsWrongFalsely : Prop := attrSplitsRow.holds Tryd.pinned (OpenSpec.ofChange attrSplitsWrong)

/-- 'vinerylaw09.AttrJoins': WHATEVER THE INPUT: true; the input reads as it did. -/
def attrJoinsSpec : ChangeSpec := { name := "attrJoins", fn := fun _ => fun
  | [d1, d2] => { results := [.lit (.bool true)], args := [d1, d2] }
  | _ => none }
def attrJoinsRow : OpenClaim := { program := "ytoeenagdbjppgaadoor", sum := "d06caeeb765cfb679f60d9da3f97b0ba7a3b06df4535ea5fe004166fed7c6db5", func := "vinery/vinerylaw09.AttrJoins", spec := "attrJoins", unfollowed := true, recurses := true, named := ["unicode/utf8.first", "unicode/utf8.acceptRanges"], apart := false, laid := [("unicode/utf8.acceptRanges", laid_unicode_utf8_acceptRanges), ("unicode/utf8.first", laid_unicode_utf8_first)] }
def AttrJoinsSaid : Prop := attrJoinsRow.holds Tryd.pinned (OpenSpec.ofChange attrJoinsSpec)

/-- ITS FALSE NEIGHBOUR: 'it returns false'. Refute it at one input. -/
def attrJoinsWrong : ChangeSpec := { name := "attrJoins", fn := fun _ => fun
  | [d1, d2] => { results := [.lit (.bool false)], args := [d1, d2] }
  | _ => none }
def AttrJoinsWrongFalsely : Prop := attrJoinsRow.holds Tryd.pinned (OpenSpec.ofChange attrJoinsWrong)

/-- 'vinerylaw09.AttrOrders': WHATEVER THE INPUT: true; the input reads as it did. -/
def attrOrdersSpec : ChangeSpec := { name := "attrOrders", fn := fun _ => fun
  | [d] => { results := [.lit (.bool true)], args := [d] }
  | _ => none }
def attrOrdersRow : OpenClaim := { program := "ytoeenagdbjppgaadoor", sum := "d06caeeb765cfb679f60d9da3f97b0ba7a3b06df4535ea5fe004166fed7c6db5", func := "vinery/vinerylaw09.AttrOrders", spec := "attrOrders", unfollowed := true, recurses := true, named := ["unicode/utf8.first", "unicode/utf8.acceptRanges"], apart := false, laid := [("unicode/utf8.acceptRanges", laid_unicode_utf8_acceptRanges), ("unicode/utf8.first", laid_unicode_utf8_first)] }
def AttrOrdersSaid : Prop := attrOrdersRow.holds Tryd.pinned (OpenSpec.ofChange attrOrdersSpec)

/-- ITS FALSE NEIGHBOUR: 'it returns false'. Refute it at one input. -/
def attrOrdersWrong : ChangeSpec := { name := "attrOrders", fn := fun _ => fun
  | [d] => { results := [.lit (.bool false)], args := [d] }
  | _ => none }
def AttrOrdersWrongFalsely : Prop := attrOrdersRow.holds Tryd.pinned (OpenSpec.ofChange attrOrdersWrong)

/-- 'vinerylaw09.AttrBack': WHATEVER THE INPUT: true; the input reads as it did. -/
def attrBackSpec : ChangeSpec := { name := "attrBack", fn := fun _ => fun
  | [d] => { results := [.lit (.bool true)], args := [d] }
  | _ => none }
def attrBackRow : OpenClaim := { program := "ytoeenagdbjppgaadoor", sum := "d06caeeb765cfb679f60d9da3f97b0ba7a3b06df4535ea5fe004166fed7c6db5", func := "vinery/vinerylaw09.AttrBack", spec := "attrBack", unfollowed := true, recurses := true, named := ["unicode/utf8.first", "unicode/utf8.acceptRanges"], apart := false, laid := [("unicode/utf8.acceptRanges", laid_unicode_utf8_acceptRanges), ("unicode/utf8.first", laid_unicode_utf8_first)] }
def AttrBackSaid : Prop := attrBackRow.holds Tryd.pinned (OpenSpec.ofChange attrBackSpec)

/-- ITS FALSE NEIGHBOUR: 'it returns false'. Refute it at one input. -/
def attrBackWrong : ChangeSpec := { name := "attrBack", fn := fun _ => fun
  | [d] => { results := [.lit (.bool false)], args := [d] }
  | _ => none }
def AttrBackWrongFalsely : Prop := attrBackRow.holds Tryd.pinned (OpenSpec.ofChange attrBackWrong)

/- THE SECOND FORM. 'bulk': how many values and letters a reading holds, each counted each time it is reached (what is shared counts as often as it is met; a slice's spare places count too). A statement '..UptoSaid' is the law's where the arguments, and the package variables that the reading takes, are together of bulk at most 1048576: NARROWER than '..Said'. Prove '..Said' where nothing that the law and all that it calls make is longer than what came in: it says more and counts as full. Else prove '..UptoSaid'. A law counts once. -/
mutual
def uptoBulk {H : Type} : DataW H → Nat
  | .lit (.string bytes) => bytes.length + 1
  | .lit _ => 1
  | .nil => 1
  | .ptr d => uptoBulk d + 1
  | .slice elems spare => uptoBulkAll elems + uptoBulkAll spare + 1
  | .agg parts => uptoBulkAll parts + 1
  | .iface _ d => uptoBulk d + 1
  | .map entries => uptoBulkEntries entries + 1
  | .held _ => 1
def uptoBulkAll {H : Type} : List (DataW H) → Nat
  | [] => 0
  | d :: r => uptoBulk d + uptoBulkAll r
def uptoBulkEntries {H : Type} : List (Lit × DataW H) → Nat
  | [] => 0
  | x :: r => uptoBulkEntry x + uptoBulkEntries r
def uptoBulkEntry {H : Type} : Lit × DataW H → Nat
  | (.string bytes, d) => bytes.length + uptoBulk d + 1
  | (_, d) => uptoBulk d + 1
 end
def uptoSmall : (H : Type) → List (DataW H) → Bool := fun _ ds => decide (uptoBulkAll ds ≤ 1048576)
def OpenSpec.upto (s : _root_.Go.ChangeSpec) : _root_.Go.OpenSpec := { _root_.Go.OpenSpec.ofChange s with cond := some uptoSmall }

/-- 'vinerylaw06.PmsiCodes', WHERE WHAT IT READS IS OF BULK AT MOST 1048576: true; the input reads as it did. -/
def pmsiCodesUptoRow : OpenClaim := { program := "ytoeenagdbjppgaadoor", sum := "d06caeeb765cfb679f60d9da3f97b0ba7a3b06df4535ea5fe004166fed7c6db5", func := "vinery/vinerylaw06.PmsiCodes", spec := "pmsiCodes", named := ["unicode/utf8.first", "unicode/utf8.acceptRanges"], apart := false, laid := [("unicode/utf8.acceptRanges", laid_unicode_utf8_acceptRanges), ("unicode/utf8.first", laid_unicode_utf8_first)], narrowed := true }
def PmsiCodesUptoSaid : Prop := pmsiCodesUptoRow.holds Tryd.pinned (OpenSpec.upto pmsiCodesSpec)

/-- 'vinerylaw06.PmsiSames', WHERE WHAT IT READS IS OF BULK AT MOST 1048576: true; the input reads as it did. -/
def pmsiSamesUptoRow : OpenClaim := { program := "ytoeenagdbjppgaadoor", sum := "d06caeeb765cfb679f60d9da3f97b0ba7a3b06df4535ea5fe004166fed7c6db5", func := "vinery/vinerylaw06.PmsiSames", spec := "pmsiSames", named := ["unicode/utf8.first", "unicode/utf8.acceptRanges"], apart := false, laid := [("unicode/utf8.acceptRanges", laid_unicode_utf8_acceptRanges), ("unicode/utf8.first", laid_unicode_utf8_first)], narrowed := true }
def PmsiSamesUptoSaid : Prop := pmsiSamesUptoRow.holds Tryd.pinned (OpenSpec.upto pmsiSamesSpec)

/-- 'vinerylaw06.PmsiBack', WHERE WHAT IT READS IS OF BULK AT MOST 1048576: true; the input reads as it did. -/
def pmsiBackUptoRow : OpenClaim := { program := "ytoeenagdbjppgaadoor", sum := "d06caeeb765cfb679f60d9da3f97b0ba7a3b06df4535ea5fe004166fed7c6db5", func := "vinery/vinerylaw06.PmsiBack", spec := "pmsiBack", named := ["unicode/utf8.first", "unicode/utf8.acceptRanges"], apart := false, laid := [("unicode/utf8.acceptRanges", laid_unicode_utf8_acceptRanges), ("unicode/utf8.first", laid_unicode_utf8_first)], narrowed := true }
def PmsiBackUptoSaid : Prop := pmsiBackUptoRow.holds Tryd.pinned (OpenSpec.upto pmsiBackSpec)

/-- 'vinerylaw06.PmsiApart', WHERE WHAT IT READS IS OF BULK AT MOST 1048576: true; the input reads as it did. -/
def pmsiApartUptoRow : OpenClaim := { program := "ytoeenagdbjppgaadoor", sum := "d06caeeb765cfb679f60d9da3f97b0ba7a3b06df4535ea5fe004166fed7c6db5", func := "vinery/vinerylaw06.PmsiApart", spec := "pmsiApart", named := ["unicode/utf8.first", "unicode/utf8.acceptRanges"], apart := false, laid := [("unicode/utf8.acceptRanges", laid_unicode_utf8_acceptRanges), ("unicode/utf8.first", laid_unicode_utf8_first)], narrowed := true }
def PmsiApartUptoSaid : Prop := pmsiApartUptoRow.holds Tryd.pinned (OpenSpec.upto pmsiApartSpec)

/-- 'vinerylaw06.PmsiHeads', WHERE WHAT IT READS IS OF BULK AT MOST 1048576: true; the input reads as it did. -/
def pmsiHeadsUptoRow : OpenClaim := { program := "ytoeenagdbjppgaadoor", sum := "d06caeeb765cfb679f60d9da3f97b0ba7a3b06df4535ea5fe004166fed7c6db5", func := "vinery/vinerylaw06.PmsiHeads", spec := "pmsiHeads", named := ["unicode/utf8.first", "unicode/utf8.acceptRanges"], apart := false, laid := [("unicode/utf8.acceptRanges", laid_unicode_utf8_acceptRanges), ("unicode/utf8.first", laid_unicode_utf8_first)], narrowed := true }
def PmsiHeadsUptoSaid : Prop := pmsiHeadsUptoRow.holds Tryd.pinned (OpenSpec.upto pmsiHeadsSpec)

/-- 'vinerylaw09.AttrSplits', WHERE WHAT IT READS IS OF BULK AT MOST 1048576: true; the input reads as it did. -/
def attrSplitsUptoRow : OpenClaim := { program := "ytoeenagdbjppgaadoor", sum := "d06caeeb765cfb679f60d9da3f97b0ba7a3b06df4535ea5fe004166fed7c6db5", func := "vinery/vinerylaw09.AttrSplits", spec := "attrSplits", unfollowed := true, recurses := true, named := ["unicode/utf8.first", "unicode/utf8.acceptRanges"], apart := false, laid := [("unicode/utf8.acceptRanges", laid_unicode_utf8_acceptRanges), ("unicode/utf8.first", laid_unicode_utf8_first)], narrowed := true }
def AttrSplitsUptoSaid : Prop := attrSplitsUptoRow.holds Tryd.pinned (OpenSpec.upto attrSplitsSpec)

/-- 'vinerylaw09.AttrJoins', WHERE WHAT IT READS IS OF BULK AT MOST 1048576: true; the input reads as it did. -/
def attrJoinsUptoRow : OpenClaim := { program := "ytoeenagdbjppgaadoor", sum := "d06caeeb765cfb679f60d9da3f97b0ba7a3b06df4535ea5fe004166fed7c6db5", func := "vinery/vinerylaw09.AttrJoins", spec := "attrJoins", unfollowed := true, recurses := true, named := ["unicode/utf8.first", "unicode/utf8.acceptRanges"], apart := false, laid := [("unicode/utf8.acceptRanges", laid_unicode_utf8_acceptRanges), ("unicode/utf8.first", laid_unicode_utf8_first)], narrowed := true }
def AttrJoinsUptoSaid : Prop := attrJoinsUptoRow.holds Tryd.pinned (OpenSpec.upto attrJoinsSpec)

/-- 'vinerylaw09.AttrOrders', WHERE WHAT IT READS IS OF BULK AT MOST 1048576: true; the input reads as it did. -/
def attrOrdersUptoRow : OpenClaim := { program := "ytoeenagdbjppgaadoor", sum := "d06caeeb765cfb679f60d9da3f97b0ba7a3b06df4535ea5fe004166fed7c6db5", func := "vinery/vinerylaw09.AttrOrders", spec := "attrOrders", unfollowed := true, recurses := true, named := ["unicode/utf8.first", "unicode/utf8.acceptRanges"], apart := false, laid := [("unicode/utf8.acceptRanges", laid_unicode_utf8_acceptRanges), ("unicode/utf8.first", laid_unicode_utf8_first)], narrowed := true }
def AttrOrdersUptoSaid : Prop := attrOrdersUptoRow.holds Tryd.pinned (OpenSpec.upto attrOrdersSpec)

/-- 'vinerylaw09.AttrBack', WHERE WHAT IT READS IS OF BULK AT MOST 1048576: true; the input reads as it did. -/
def attrBackUptoRow : OpenClaim := { program := "ytoeenagdbjppgaadoor", sum := "d06caeeb765cfb679f60d9da3f97b0ba7a3b06df4535ea5fe004166fed7c6db5", func := "vinery/vinerylaw09.AttrBack", spec := "attrBack", unfollowed := true, recurses := true, named := ["unicode/utf8.first", "unicode/utf8.acceptRanges"], apart := false, laid := [("unicode/utf8.acceptRanges", laid_unicode_utf8_acceptRanges), ("unicode/utf8.first", laid_unicode_utf8_first)], narrowed := true }
def AttrBackUptoSaid : Prop := attrBackUptoRow.holds Tryd.pinned (OpenSpec.upto attrBackSpec)

end Rows
end Go.Proofs.YtoeenagdbjppgaaDoor
