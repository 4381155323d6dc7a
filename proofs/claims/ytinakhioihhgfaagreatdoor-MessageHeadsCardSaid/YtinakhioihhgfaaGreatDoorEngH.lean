/- The rules by which these proofs step through the code, part H. -/
import Derived.Test.YtinakhioihhgfaaGreatDoorEngG
import Derived.Deep.Quiet
import Derived.StillTail
set_option linter.unusedVariables false
set_option linter.unusedSimpArgs false
namespace Go.E
open Go.RowKit
/-! ### drawn regions whose operations, but for a tail, yield one value whatever the world of a class -/
section
variable {P:Program} {ops:Array Oper} {C:World→Prop} {md:Region.Mode}
theorem drq0 {id:Nat} {Q:Exit→Act→World→Prop} {a:Act} {w:World} {l:List Oper} (S:World→Prop) (hm:P.follows .mixedOrders=true) (hB:Region.lexB .any l.toArray=true) (hS:∀ w1,Chg [] w w1→S w1)
  (h:wpQuiet P l.toArray S (fun a'=>∀ w',S w'→wpList P l.toArray Q [] a' w') l a):(Code.region id l.toArray true).wp P Q a w :=
 wp_region_quiet (C:=S) hm hB (hS _ ⟨rfl,rfl,rfl,Nat.le_refl _,fun _ _ _=>rfl⟩) (by
  refine Eq.mp ?_ h
  have:(fun a'=>∀ w',S w'→wpList P l.toArray Q [] a' w')=(fun a'=>∀ w',S w'→Q .normal a' w'):=by funext a';unfold wpList;rfl
  rw [this])
end
section
variable {P:Program} {n d:Nat} {ops:Array Oper} {Q:Act→Prop} {S:World→Prop} {a:Act} {env:Env} {rest:List Oper} {o:Oper} {v:Value}
 {dd:Option Tmp} {ty:TypeId} {pos:String} {af:Array Edge} {gd:Option (Nat×Bool)}
theorem qv (ha:Has a n env) (hg:gok ops env o.guard=some true) (hd:o.dst=some d) (hdn:Nat.blt d n=true) (hr:∀ w,S w→(execOp a.eval o).run P w=.ok (.value v) w)
  (hk:∀ a',Has a' n ((d,v)::env)→wpQuiet P ops S Q rest a'):wpQuiet P ops S Q (o::rest) a:=by
 unfold wpQuiet
 rw [if_pos (gok_wanted ha hg)]
 refine ⟨v,fun w hw=>?_,?_⟩
 ·unfold Oper.quietAt;rw [hr w hw];exact ⟨rfl,rfl⟩
 ·rw [hd];exact hk _ (ha.put hdn v)
theorem qp (k:Nat) (v:Value) (ha:Has a n env) (hg:gok ops env o.guard=some true) (hd:o.dst=some d) (hdn:Nat.blt d n=true) (hv:hval P (up env) [] k o.op=some v)
  (hk:∀ a',Has a' n ((d,v)::env)→wpQuiet P ops S Q rest a'):wpQuiet P ops S Q (o::rest) a :=
 qv ha hg hd hdn (fun w' _=>hval_run ha.toG (fun p hp=>by cases hp) hv w') hk
theorem qo (ha:Has a n env) (hg:gok ops env o.guard=some false) (hd:o.dst=some d) (hdn:Nat.blt d n=true)
  (hk:∀ a',Has a' n ((d,undef)::env)→wpQuiet P ops S Q rest a'):wpQuiet P ops S Q (o::rest) a:=by
 unfold wpQuiet
 rw [if_neg (by rw [gok_wanted ha hg];simp)]
 rw [hd];exact hk _ (ha.put hdn undef)
theorem qc {f:FuncId} {xs:Array Operand} {tys:Array TypeId} {vals:List Value} (v:Value) (ha:Has a n env)
  (hv:xs.toList.map (ev env)=vals.map some) (hB:bodyB P f=true)
  (hg:gok ops env gd=some true) (hd:dd=some d) (hdn:Nat.blt d n=true) (hC:∀ w,S w→To P f vals w fun u w'=>u=v∧S w')
  (hk:∀ a',Has a' n ((d,v)::env)→wpQuiet P ops S Q rest a') :
  wpQuiet P ops S Q (⟨dd,.call ⟨.value (.func f),xs,tys⟩,ty,pos,af,gd⟩::rest) a:=by
 have hargs:=args_eq ha hv
 have hrun:∀ w,(execOp a.eval ⟨dd,.call ⟨.value (.func f),xs,tys⟩,ty,pos,af,gd⟩).run P w=.ok (.enter f vals.toArray) w:=by
  intro w
  have e:execOp a.eval ⟨dd,.call ⟨.value (.func f),xs,tys⟩,ty,pos,af,gd⟩=callFunc f vals.toArray:=by
   simp [execOp,resolve,Act.eval,Deferred.ofValue,invoke,hargs]
  rw [e];exact run_callFunc hB _ w
 unfold wpQuiet
 rw [if_pos (gok_wanted ha hg)]
 refine ⟨v,fun w hw=>?_,?_⟩
 ·unfold Oper.quietAt;rw [hrun w]
  exact ⟨rfl,Calls.mono (hC w hw) fun e w' ⟨u,he,hu,hs⟩=>⟨by rw [he,hu],hs⟩⟩
 ·rw [hd];exact hk _ (ha.put hdn v)
end
end Go.E
