/- The rules by which these proofs step through the code, part N. -/
import Derived.Test.YtokpdmehkfmmiaaEngM
set_option linter.unusedVariables false
set_option linter.unusedSimpArgs false
namespace Go.E
open Go.RowKit
section
variable {P:Program} {n d:Nat} {ops:Array Oper} {Q:Exit→Act→World→Prop} {w w':World} {a:Act} {env:Env} {rest:List Oper} {o:Oper} {v:Value}
 {dd:Option Tmp} {ty:TypeId} {pos:String} {af:Array Edge} {gd:Option (Nat×Bool)}
def Iter (w:World) (g:Nat) (s:List UInt8) (p:Nat):Prop:=w.heap[g]? = some (.stringIter (bstr s) p)
theorem Iter.chg {g:Nat} {s:List UInt8} {p:Nat} {gs:List Nat} (h:Iter w g s p) (hc:Chg gs w w') (hn:g∉gs):Iter w' g s p:=hc.at h hn
theorem Iter.c0 {g:Nat} {s:List UInt8} {p:Nat} (h:Iter w g s p) (hc:Chg [] w w'):Iter w' g s p:=h.chg hc (fun h=>nomatch h)
end
end Go.E
