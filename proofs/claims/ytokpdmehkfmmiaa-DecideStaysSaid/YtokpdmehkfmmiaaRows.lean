/-
  No cell of these rows narrows 'for every input' (looked for: loops, veiled, ifaces, maps, wideKeys, modest, calm, conditions, laid).
  DERIVED. THE GIVEN ROWS OF THIS SEAT. 2 by the template 'for every input the law returns true; each argument reads behind the call as it read before'; 0 by the template 'total and deterministic' (their statements: YtokpdmehkfmmiaaTotals.lean).
  GIVEN WITH THE SEED: the statements are not yours to turn. If you find one false, say at which input.
  Laid BY PROGRAM, IN A SANDBOX (cutbox-rows.mjs): the forced cells as the released guide's own fill.sh prints them over the translation 5cf704e18e062934… (all of the seat's roots in one cut). By AI agents, Wed Nov 11 2026. No macro, syntax, notation, axiom, sorry.
-/
import Derived.Test.YtokpdmehkfmmiaaChecked
import GoSem.Claim
import GoSem.ClaimJoined
import GoSem.ClaimMapViews
import Derived.JoinedTies
import Derived.KernelRfl
namespace Go.Proofs.Ytokpdmehkfmmiaa
/- THE CELL 'sum', in the pinned program and in every row, IS THE sha256 OF THE DUMP (.gsa) THAT YtokpdmehkfmmiaaProg.lean LOADS. Nothing in Lean hashes anything: it is a label: what it is worth is what the hold of that sum in a sandbox is worth. -/
noncomputable def Try.pinned : Pinned := { name := "ytokpdmehkfmmiaa", sum := "5cf704e18e0629344373879fab35930361e897d65e0440ba374882acbcc86a25", checked := Try.checked }
namespace Rows
def none {H : Type} : Left H := { results := [], args := [] }

/-- 'vinerylaw16.DecideTells': WHATEVER THE INPUT: true; the input reads as it did. -/
def decideTellsSpec : ChangeSpec := { name := "decideTells", fn := fun _ => fun
  | [d] => { results := [.lit (.bool true)], args := [d] }
  | _ => none }
def decideTellsRow : OpenClaim := { program := "ytokpdmehkfmmiaa", sum := "5cf704e18e0629344373879fab35930361e897d65e0440ba374882acbcc86a25", func := "vinery/vinerylaw16.DecideTells", spec := "decideTells", inPlace := ["internal/bytealg.Compare"], unfollowed := true, recurses := true, apart := false }
def DecideTellsSaid : Prop := decideTellsRow.holds Try.pinned (OpenSpec.ofChange decideTellsSpec)

/-- ITS FALSE NEIGHBOUR: 'it returns false'. Refute it at one input. -/
def decideTellsWrong : ChangeSpec := { name := "decideTells", fn := fun _ => fun
  | [d] => { results := [.lit (.bool false)], args := [d] }
  | _ => none }
def DecideTellsWrongFalsely : Prop := decideTellsRow.holds Try.pinned (OpenSpec.ofChange decideTellsWrong)

/-- 'vinerylaw16.DecideStays': WHATEVER THE INPUT: true; the input reads as it did. -/
def decideStaysSpec : ChangeSpec := { name := "decideStays", fn := fun _ => fun
  | [d1, d2] => { results := [.lit (.bool true)], args := [d1, d2] }
  | _ => none }
def decideStaysRow : OpenClaim := { program := "ytokpdmehkfmmiaa", sum := "5cf704e18e0629344373879fab35930361e897d65e0440ba374882acbcc86a25", func := "vinery/vinerylaw16.DecideStays", spec := "decideStays", inPlace := ["internal/bytealg.Compare"], unfollowed := true, recurses := true, apart := false }
def DecideStaysSaid : Prop := decideStaysRow.holds Try.pinned (OpenSpec.ofChange decideStaysSpec)

/-- ITS FALSE NEIGHBOUR: 'it returns false'. Refute it at one input. -/
def decideStaysWrong : ChangeSpec := { name := "decideStays", fn := fun _ => fun
  | [d1, d2] => { results := [.lit (.bool false)], args := [d1, d2] }
  | _ => none }
def DecideStaysWrongFalsely : Prop := decideStaysRow.holds Try.pinned (OpenSpec.ofChange decideStaysWrong)

/- THE SECOND FORM. 'bulk': how many values and letters a reading holds, each counted each time it is reached (what is shared counts as often as it is met; a slice's spare places count too). A statement '..UptoSaid' is the law's where the arguments, and the package variables that the reading takes, are together of bulk at most 1048576: NARROWER than '..Said'. Prove '..Said' where nothing that the law and all that it calls make is longer than what came in: it says more and counts as full. Else prove '..UptoSaid'. A law counts once. -/
mutual
def uptoBulk {H : Type} : DataW H → Nat
  | .lit (.string bytes) => bytes.length + 1
  | .lit _ => 1
  | .nil => 1
  | .ptr d => uptoBulk d + 1
  | .slice elems spare => uptoBulkAll elems + uptoBulkAll spare + 1
  | .agg parts => uptoBulkAll parts + 1
  | .iface _ d => uptoBulk d + 1
  | .map entries => uptoBulkEntries entries + 1
  | .held _ => 1
def uptoBulkAll {H : Type} : List (DataW H) → Nat
  | [] => 0
  | d :: r => uptoBulk d + uptoBulkAll r
def uptoBulkEntries {H : Type} : List (Lit × DataW H) → Nat
  | [] => 0
  | x :: r => uptoBulkEntry x + uptoBulkEntries r
def uptoBulkEntry {H : Type} : Lit × DataW H → Nat
  | (.string bytes, d) => bytes.length + uptoBulk d + 1
  | (_, d) => uptoBulk d + 1
 end
def uptoSmall : (H : Type) → List (DataW H) → Bool := fun _ ds => decide (uptoBulkAll ds ≤ 1048576)
def OpenSpec.upto (s : _root_.Go.ChangeSpec) : _root_.Go.OpenSpec := { _root_.Go.OpenSpec.ofChange s with cond := some uptoSmall }

/-- 'vinerylaw16.DecideTells', WHERE WHAT IT READS IS OF BULK AT MOST 1048576: true; the input reads as it did. -/
def decideTellsUptoRow : OpenClaim := { program := "ytokpdmehkfmmiaa", sum := "5cf704e18e0629344373879fab35930361e897d65e0440ba374882acbcc86a25", func := "vinery/vinerylaw16.DecideTells", spec := "decideTells", inPlace := ["internal/bytealg.Compare"], unfollowed := true, recurses := true, apart := false, narrowed := true }
def DecideTellsUptoSaid : Prop := decideTellsUptoRow.holds Try.pinned (OpenSpec.upto decideTellsSpec)

/-- 'vinerylaw16.DecideStays', WHERE WHAT IT READS IS OF BULK AT MOST 1048576: true; the input reads as it did. -/
def decideStaysUptoRow : OpenClaim := { program := "ytokpdmehkfmmiaa", sum := "5cf704e18e0629344373879fab35930361e897d65e0440ba374882acbcc86a25", func := "vinery/vinerylaw16.DecideStays", spec := "decideStays", inPlace := ["internal/bytealg.Compare"], unfollowed := true, recurses := true, apart := false, narrowed := true }
def DecideStaysUptoSaid : Prop := decideStaysUptoRow.holds Try.pinned (OpenSpec.upto decideStaysSpec)

end Rows
end Go.Proofs.Ytokpdmehkfmmiaa
