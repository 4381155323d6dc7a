/- The rules by which these proofs step through the code, part S. -/
import Derived.Test.YtcejhnpncodkjaaGreatDoorEngN
import Derived.LaidLaws
import Derived.LaidMore
import Derived.Stop.Joined
import Derived.SevenTiedAt
import Derived.LaidSub
import Derived.Lay
import Derived.MakeChecks
set_option linter.unusedVariables false
set_option linter.unusedSimpArgs false
namespace Go.E
open Go.RowKit Go.ChangeShapes Go.WideShapes Go.ChangeAt
section
variable {H:Type} {enc:TypeId×Value→H}
theorem okWide_array' {P:Program} {w:World} {r:Reach} {t e:TypeId} {base m:Nat} {v:Value} (ht:P.underlying t=some (.array m e)) (h:Value.okWide P w r base t v):∃ cs,v=.agg cs∧cs.size=P.cellsOf t:=by
 simp only [Value.okWide,ht] at h
 obtain ⟨cs,h1,h2,_⟩:=h
 exact ⟨cs,h1,h2⟩
theorem arg_arr {k:IntKind} {m:Nat} {e:TypeId} {P:Program} {W:World} {t:TypeId} {base:Nat} {v:Value} {d:DataW H} {p:List MemPlace}
  (ht:P.underlying t=some (.array m e)) (hr:Rdr P t (rArr k m) (okA k m)) (hval:Value.okWide P W .any base t v) (h:DataW.Trod enc P W 0 (fun _=>true) true t v d p) (hw:(d.weights P t).all (·≤reachBytes)=true) :
  ∃ (x:List Int),v=.agg (cA k m x).toArray∧okA k m x:=by
 obtain ⟨cs,rfl,_⟩:=okWide_array' ht hval
 obtain ⟨fuel,hf⟩:=h
 obtain ⟨x,hR,hok⟩:=hr.open_ hf hw
 have hR':cs.toList=cA k m x:=by
  have h2:(rArr k m).R W [] cs.toList x:=by simpa [Value.cells] using hR
  exact h2
 exact ⟨x,by rw [← hR'],hok⟩
end
end Go.E
