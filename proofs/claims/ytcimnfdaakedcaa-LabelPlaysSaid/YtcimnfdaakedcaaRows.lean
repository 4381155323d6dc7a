/-
  No cell of these rows narrows 'for every input' (looked for: loops, veiled, ifaces, maps, wideKeys, modest, calm, conditions, laid).
  DERIVED. THE GIVEN ROWS OF THIS SEAT. 5 by the template 'for every input the law returns true; each argument reads behind the call as it read before'; 0 by the template 'total and deterministic' (their statements: YtcimnfdaakedcaaTotals.lean).
  GIVEN WITH THE SEED: the statements are not yours to turn. If you find one false, say at which input.
  Laid BY PROGRAM, IN A SANDBOX (cutbox-rows.mjs): the forced cells as the released guide's own fill.sh prints them over the translation 05ab39367cbb2a8a… (all of the seat's roots in one cut). By AI agents, Wed Nov 11 2026. No macro, syntax, notation, axiom, sorry.
-/
import Derived.Test.YtcimnfdaakedcaaChecked
import GoSem.Claim
import GoSem.ClaimJoined
import GoSem.ClaimMapViews
import Derived.JoinedTies
import Derived.KernelRfl
namespace Go.Proofs.Ytcimnfdaakedcaa
/- THE CELL 'sum', in the pinned program and in every row, IS THE sha256 OF THE DUMP (.gsa) THAT YtcimnfdaakedcaaProg.lean LOADS. Nothing in Lean hashes anything: it is a label: what it is worth is what the hold of that sum in a sandbox is worth. -/
noncomputable def Try.pinned : Pinned := { name := "ytcimnfdaakedcaa", sum := "05ab39367cbb2a8ab4a5e78870875bb68a7fdf4fea40a434e22cd5df06c33e44", checked := Try.checked }
namespace Rows
def none {H : Type} : Left H := { results := [], args := [] }

/-- 'vinerylaw05.LabelFills': WHATEVER THE INPUT: true; the input reads as it did. -/
def labelFillsSpec : ChangeSpec := { name := "labelFills", fn := fun _ => fun
  | [d1, d2] => { results := [.lit (.bool true)], args := [d1, d2] }
  | _ => none }
def labelFillsRow : OpenClaim := { program := "ytcimnfdaakedcaa", sum := "05ab39367cbb2a8ab4a5e78870875bb68a7fdf4fea40a434e22cd5df06c33e44", func := "vinery/vinerylaw05.LabelFills", spec := "labelFills", apart := false }
def LabelFillsSaid : Prop := labelFillsRow.holds Try.pinned (OpenSpec.ofChange labelFillsSpec)

/-- ITS FALSE NEIGHBOUR: 'it returns false'. Refute it at one input. -/
def labelFillsWrong : ChangeSpec := { name := "labelFills", fn := fun _ => fun
  | [d1, d2] => { results := [.lit (.bool false)], args := [d1, d2] }
  | _ => none }
def LabelFillsWrongFalsely : Prop := labelFillsRow.holds Try.pinned (OpenSpec.ofChange labelFillsWrong)

/-- 'vinerylaw05.LabelPlays': WHATEVER THE INPUT: true; the input reads as it did. -/
def labelPlaysSpec : ChangeSpec := { name := "labelPlays", fn := fun _ => fun
  | [d1, d2, d3] => { results := [.lit (.bool true)], args := [d1, d2, d3] }
  | _ => none }
def labelPlaysRow : OpenClaim := { program := "ytcimnfdaakedcaa", sum := "05ab39367cbb2a8ab4a5e78870875bb68a7fdf4fea40a434e22cd5df06c33e44", func := "vinery/vinerylaw05.LabelPlays", spec := "labelPlays", apart := false }
def LabelPlaysSaid : Prop := labelPlaysRow.holds Try.pinned (OpenSpec.ofChange labelPlaysSpec)

/-- ITS FALSE NEIGHBOUR: 'it returns false'. Refute it at one input. -/
def labelPlaysWrong : ChangeSpec := { name := "labelPlays", fn := fun _ => fun
  | [d1, d2, d3] => { results := [.lit (.bool false)], args := [d1, d2, d3] }
  | _ => none }
def LabelPlaysWrongFalsely : Prop := labelPlaysRow.holds Try.pinned (OpenSpec.ofChange labelPlaysWrong)

/-- 'vinerylaw05.LabelOne': WHATEVER THE INPUT: true; the input reads as it did. -/
def labelOneSpec : ChangeSpec := { name := "labelOne", fn := fun _ => fun
  | [d1, d2, d3, d4] => { results := [.lit (.bool true)], args := [d1, d2, d3, d4] }
  | _ => none }
def labelOneRow : OpenClaim := { program := "ytcimnfdaakedcaa", sum := "05ab39367cbb2a8ab4a5e78870875bb68a7fdf4fea40a434e22cd5df06c33e44", func := "vinery/vinerylaw05.LabelOne", spec := "labelOne", apart := false }
def LabelOneSaid : Prop := labelOneRow.holds Try.pinned (OpenSpec.ofChange labelOneSpec)

/-- ITS FALSE NEIGHBOUR: 'it returns false'. Refute it at one input. -/
def labelOneWrong : ChangeSpec := { name := "labelOne", fn := fun _ => fun
  | [d1, d2, d3, d4] => { results := [.lit (.bool false)], args := [d1, d2, d3, d4] }
  | _ => none }
def LabelOneWrongFalsely : Prop := labelOneRow.holds Try.pinned (OpenSpec.ofChange labelOneWrong)

/-- 'vinerylaw05.LabelCodes': WHATEVER THE INPUT: true; the input reads as it did. -/
def labelCodesSpec : ChangeSpec := { name := "labelCodes", fn := fun _ => fun
  | [d1, d2, d3] => { results := [.lit (.bool true)], args := [d1, d2, d3] }
  | _ => none }
def labelCodesRow : OpenClaim := { program := "ytcimnfdaakedcaa", sum := "05ab39367cbb2a8ab4a5e78870875bb68a7fdf4fea40a434e22cd5df06c33e44", func := "vinery/vinerylaw05.LabelCodes", spec := "labelCodes", apart := false }
def LabelCodesSaid : Prop := labelCodesRow.holds Try.pinned (OpenSpec.ofChange labelCodesSpec)

/-- ITS FALSE NEIGHBOUR: 'it returns false'. Refute it at one input. -/
def labelCodesWrong : ChangeSpec := { name := "labelCodes", fn := fun _ => fun
  | [d1, d2, d3] => { results := [.lit (.bool false)], args := [d1, d2, d3] }
  | _ => none }
def LabelCodesWrongFalsely : Prop := labelCodesRow.holds Try.pinned (OpenSpec.ofChange labelCodesWrong)

/-- 'vinerylaw05.LabelBack': WHATEVER THE INPUT: true; the input reads as it did. -/
def labelBackSpec : ChangeSpec := { name := "labelBack", fn := fun _ => fun
  | [d1, d2, d3] => { results := [.lit (.bool true)], args := [d1, d2, d3] }
  | _ => none }
def labelBackRow : OpenClaim := { program := "ytcimnfdaakedcaa", sum := "05ab39367cbb2a8ab4a5e78870875bb68a7fdf4fea40a434e22cd5df06c33e44", func := "vinery/vinerylaw05.LabelBack", spec := "labelBack", apart := false }
def LabelBackSaid : Prop := labelBackRow.holds Try.pinned (OpenSpec.ofChange labelBackSpec)

/-- ITS FALSE NEIGHBOUR: 'it returns false'. Refute it at one input. -/
def labelBackWrong : ChangeSpec := { name := "labelBack", fn := fun _ => fun
  | [d1, d2, d3] => { results := [.lit (.bool false)], args := [d1, d2, d3] }
  | _ => none }
def LabelBackWrongFalsely : Prop := labelBackRow.holds Try.pinned (OpenSpec.ofChange labelBackWrong)

/- THE SECOND FORM. 'bulk': how many values and letters a reading holds, each counted each time it is reached (what is shared counts as often as it is met; a slice's spare places count too). A statement '..UptoSaid' is the law's where the arguments, and the package variables that the reading takes, are together of bulk at most 1048576: NARROWER than '..Said'. Prove '..Said' where nothing that the law and all that it calls make is longer than what came in: it says more and counts as full. Else prove '..UptoSaid'. A law counts once. -/
mutual
def uptoBulk {H : Type} : DataW H → Nat
  | .lit (.string bytes) => bytes.length + 1
  | .lit _ => 1
  | .nil => 1
  | .ptr d => uptoBulk d + 1
  | .slice elems spare => uptoBulkAll elems + uptoBulkAll spare + 1
  | .agg parts => uptoBulkAll parts + 1
  | .iface _ d => uptoBulk d + 1
  | .map entries => uptoBulkEntries entries + 1
  | .held _ => 1
def uptoBulkAll {H : Type} : List (DataW H) → Nat
  | [] => 0
  | d :: r => uptoBulk d + uptoBulkAll r
def uptoBulkEntries {H : Type} : List (Lit × DataW H) → Nat
  | [] => 0
  | x :: r => uptoBulkEntry x + uptoBulkEntries r
def uptoBulkEntry {H : Type} : Lit × DataW H → Nat
  | (.string bytes, d) => bytes.length + uptoBulk d + 1
  | (_, d) => uptoBulk d + 1
 end
def uptoSmall : (H : Type) → List (DataW H) → Bool := fun _ ds => decide (uptoBulkAll ds ≤ 1048576)
def OpenSpec.upto (s : _root_.Go.ChangeSpec) : _root_.Go.OpenSpec := { _root_.Go.OpenSpec.ofChange s with cond := some uptoSmall }

/-- 'vinerylaw05.LabelFills', WHERE WHAT IT READS IS OF BULK AT MOST 1048576: true; the input reads as it did. -/
def labelFillsUptoRow : OpenClaim := { program := "ytcimnfdaakedcaa", sum := "05ab39367cbb2a8ab4a5e78870875bb68a7fdf4fea40a434e22cd5df06c33e44", func := "vinery/vinerylaw05.LabelFills", spec := "labelFills", apart := false, narrowed := true }
def LabelFillsUptoSaid : Prop := labelFillsUptoRow.holds Try.pinned (OpenSpec.upto labelFillsSpec)

/-- 'vinerylaw05.LabelPlays', WHERE WHAT IT READS IS OF BULK AT MOST 1048576: true; the input reads as it did. -/
def labelPlaysUptoRow : OpenClaim := { program := "ytcimnfdaakedcaa", sum := "05ab39367cbb2a8ab4a5e78870875bb68a7fdf4fea40a434e22cd5df06c33e44", func := "vinery/vinerylaw05.LabelPlays", spec := "labelPlays", apart := false, narrowed := true }
def LabelPlaysUptoSaid : Prop := labelPlaysUptoRow.holds Try.pinned (OpenSpec.upto labelPlaysSpec)

/-- 'vinerylaw05.LabelOne', WHERE WHAT IT READS IS OF BULK AT MOST 1048576: true; the input reads as it did. -/
def labelOneUptoRow : OpenClaim := { program := "ytcimnfdaakedcaa", sum := "05ab39367cbb2a8ab4a5e78870875bb68a7fdf4fea40a434e22cd5df06c33e44", func := "vinery/vinerylaw05.LabelOne", spec := "labelOne", apart := false, narrowed := true }
def LabelOneUptoSaid : Prop := labelOneUptoRow.holds Try.pinned (OpenSpec.upto labelOneSpec)

/-- 'vinerylaw05.LabelCodes', WHERE WHAT IT READS IS OF BULK AT MOST 1048576: true; the input reads as it did. -/
def labelCodesUptoRow : OpenClaim := { program := "ytcimnfdaakedcaa", sum := "05ab39367cbb2a8ab4a5e78870875bb68a7fdf4fea40a434e22cd5df06c33e44", func := "vinery/vinerylaw05.LabelCodes", spec := "labelCodes", apart := false, narrowed := true }
def LabelCodesUptoSaid : Prop := labelCodesUptoRow.holds Try.pinned (OpenSpec.upto labelCodesSpec)

/-- 'vinerylaw05.LabelBack', WHERE WHAT IT READS IS OF BULK AT MOST 1048576: true; the input reads as it did. -/
def labelBackUptoRow : OpenClaim := { program := "ytcimnfdaakedcaa", sum := "05ab39367cbb2a8ab4a5e78870875bb68a7fdf4fea40a434e22cd5df06c33e44", func := "vinery/vinerylaw05.LabelBack", spec := "labelBack", apart := false, narrowed := true }
def LabelBackUptoSaid : Prop := labelBackUptoRow.holds Try.pinned (OpenSpec.upto labelBackSpec)

end Rows
end Go.Proofs.Ytcimnfdaakedcaa
