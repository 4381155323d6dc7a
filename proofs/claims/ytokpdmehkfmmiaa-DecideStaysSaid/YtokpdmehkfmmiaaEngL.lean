/- The rules by which these proofs step through the code, part L. -/
import Derived.Test.YtokpdmehkfmmiaaEngK
set_option linter.unusedVariables false
set_option linter.unusedSimpArgs false
namespace Go.E
open Go.RowKit
section
variable {P:Program} {n d:Nat} {ops:Array Oper} {Q:Exit→Act→World→Prop} {w w':World} {a:Act} {env:Env} {rest:List Oper} {o:Oper} {v:Value}
 {dd:Option Tmp} {ty:TypeId} {pos:String} {af:Array Edge} {gd:Option (Nat×Bool)}
theorem Own.addr {α:Type} {r:Rep α} {T:TypeId} {M:List Nat} {ao:Option Addr} {cap:Nat} {xs:List α} (h:Own r T w M ao cap xs) {i:Nat} (hi:i < xs.length):∃ g,ao=some ⟨g,0,none⟩:=by
 rcases h with ⟨_,rfl,_⟩ | ⟨g,cur,rfl,_⟩
 ·simp at hi
 ·exact ⟨g,rfl⟩
end
end Go.E
