/- The rules by which these proofs step through the code, part Q. -/
import Derived.Test.YtoeenagdbjppgaaGreatDoorEngO
set_option linter.unusedVariables false
set_option linter.unusedSimpArgs false
namespace Go.E
open Go.RowKit
section
variable {P:Program} {n d:Nat} {ops:Array Oper} {Q:Exit→Act→World→Prop} {w w':World} {a:Act} {env:Env} {rest:List Oper} {o:Oper} {v:Value}
 {dd:Option Tmp} {ty:TypeId} {pos:String} {af:Array Edge} {gd:Option (Nat×Bool)}
theorem clc {f:FuncId} {fx:Operand} {cs:Array Value} {xs:Array Operand} {tys:Array TypeId} {vals:List Value} {R:Value→World→Prop} (ha:Has a n env) (hf:ev env fx=some (.func (.func f) #[] cs))
  (hv:xs.toList.map (ev env)=vals.map some) (hB:bodyB P f=true)
  (hg:gok ops env gd=some true) (hd:dd=some d) (hdn:Nat.blt d n=true) (hC:To P f (vals++cs.toList) w R)
  (hk:∀ v w',R v w'→∀ a',Has a' n ((d,v)::env)→wpList P ops Q rest a' w') :
  wpList P ops Q (⟨dd,.call ⟨.value fx,xs,tys⟩,ty,pos,af,gd⟩::rest) a w:=by
 have hargs:=args_eq ha hv
 have hrun:(execOp a.eval ⟨dd,.call ⟨.value fx,xs,tys⟩,ty,pos,af,gd⟩).run P w=.ok (.enter f (vals++cs.toList).toArray) w:=by
  have e:execOp a.eval ⟨dd,.call ⟨.value fx,xs,tys⟩,ty,pos,af,gd⟩=callFunc f (vals++cs.toList).toArray:=by
   have e2:(vals++cs.toList).toArray=vals.toArray++cs:=by simp
   rw [e2]
   simp [execOp,resolve,ha.ev hf,Deferred.ofValue,invoke,hargs]
  rw [e];exact run_callFunc hB _ w
 unfold wpList
 rw [if_pos (gok_wanted ha hg)]
 refine .inl ?_
 unfold Oper.wp
 rw [hrun,Oper.upon_enter]
 refine Calls.mono hC fun e w' ⟨v,he,hR⟩=>?_
 subst he
 subst hd
 exact hk v w' hR _ (ha.put hdn v)
theorem clv {f:FuncId} {fx:Operand} {xs:Array Operand} {tys:Array TypeId} {vals:List Value} {R:Value→World→Prop} (ha:Has a n env) (hf:ev env fx=some (.func (.func f) #[] #[]))
  (hv:xs.toList.map (ev env)=vals.map some) (hB:bodyB P f=true)
  (hg:gok ops env gd=some true) (hd:dd=some d) (hdn:Nat.blt d n=true) (hC:To P f vals w R)
  (hk:∀ v w',R v w'→∀ a',Has a' n ((d,v)::env)→wpList P ops Q rest a' w') :
  wpList P ops Q (⟨dd,.call ⟨.value fx,xs,tys⟩,ty,pos,af,gd⟩::rest) a w :=
 clc (cs:=#[]) ha hf hv hB hg hd hdn (by rw [show vals++(#[]:Array Value).toList=vals from List.append_nil _];exact hC) hk
end
section
variable {α:Type} {P:Program} {n d:Nat} {ops:Array Oper} {Q:Exit→Act→World→Prop} {w w':World} {a:Act} {env:Env} {rest:List Oper} {ty:TypeId} {pos:String} {af:Array Edge} {gd:Option (Nat×Bool)}
end
end Go.E
