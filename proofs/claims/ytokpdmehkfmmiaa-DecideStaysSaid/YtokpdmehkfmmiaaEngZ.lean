/- The rules by which these proofs step through the code, part Z. -/
import Derived.Test.YtokpdmehkfmmiaaEngY
import Derived.ArgAppend
import Derived.Lib.AppendZerosOnto
import Derived.Lib.Overlaps
set_option linter.unusedVariables false
set_option linter.unusedSimpArgs false
namespace Go.E
open Go.RowKit Go.Sort Go.Proofs
/-! rows of flat elements, cell by cell: copied within themselves, grown by zeros -/
section
variable {α:Type} {r:Rep α} {enc:α→List Value}
theorem BoxT.cell {T:TypeId} {w:World} {g o:Nat} {cs:List Value} {v:Value} (h:BoxT T w g cs) (hv:cs[o]? = some v):w.cell? ⟨g,o,none⟩=some v:=h.box.cell hv
theorem BoxT.sub {T:TypeId} {w:World} {g o m:Nat} {cs vs:List Value} (h:BoxT T w g cs) (hv:vs=(cs.drop o).take m):∀ j v,vs[j]? = some v→w.cell? ((⟨g,o,none⟩:Addr).add j)=some v:=by
 intro j v hj
 rw [Addr.add_lit]
 subst hv
 rw [List.getElem?_take] at hj
 split at hj
 ·rw [List.getElem?_drop] at hj;exact h.cell hj
 ·cases hj
end
section
variable {P:Program} {n d:Nat} {ops:Array Oper} {Q:Exit→Act→World→Prop} {w w':World} {a:Act} {env:Env} {rest:List Oper} {o:Oper} {v:Value}
 {dd:Option Tmp} {ty:TypeId} {pos:String} {af:Array Edge} {gd:Option (Nat×Bool)}
end
/-! one cell an element: the kit's sort there and the sort of several cells are one -/
section
variable {α:Type} [Inhabited α] {enc:α→Value}
end
end Go.E
