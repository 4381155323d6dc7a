/- The rules by which these proofs step through the code, part G. -/
import Derived.Test.YtinakhioihhgfaaGreatDoorEngF
import Derived.Lib.Bytealg
import Derived.Lib.BytesEntry
set_option linter.unusedVariables false
set_option linter.unusedSimpArgs false
namespace Go.E
open Go.RowKit
section
variable {P:Program} {n d:Nat} {ops:Array Oper} {Q:Exit→Act→World→Prop} {S:World→Prop} {w w':World} {a:Act} {env:Env} {rest:List Oper} {o:Oper} {v:Value} {fuel:Nat} {listed:Array Bool}
 {dd:Option Tmp} {ty:TypeId} {pos:String} {af:Array Edge} {gd:Option (Nat×Bool)}
theorem ae {K:Act→World→Prop} (hK:∀ a' w',S w'→wpAnyH P .any ops Q S fuel listed a' w'→K a' w') (hS:S w) (h:wpAnyH P .any ops Q S fuel listed a w) :
  wpList P ops (Exit.then K Q) [] a w:=by
 unfold wpList
 exact hK _ _ hS h
theorem run_ext {f:FuncId} {fn:Func} {e:Array Value→Sem Value} (hf:P.funcs[f]? = some fn) (hname:(fn.name == "runtime.NumGoroutine")=false) (hb:fn.body.isNone=true) (hn:Extern.findNext fn=none) (he:Extern.find fn=some e)
  {args:Array Value} (hr:(e args).run P w=.ok v w'):(callFunc f args).run P w=.ok (.value v) w':=by
 rw [run_callFunc_extern hf hname hb hn he,hr];rfl
theorem cx {f:FuncId} {fn:Func} {e:Array Value→Sem Value} {xs:Array Operand} {tys:Array TypeId} {vals:List Value} (ha:Has a n env)
  (hv:xs.toList.map (ev env)=vals.map some)
  (hf:P.funcs[f]? = some fn) (hname:(fn.name == "runtime.NumGoroutine")=false) (hb:fn.body.isNone=true) (hn:Extern.findNext fn=none) (he:Extern.find fn=some e)
  (hg:gok ops env gd=some true) (hd:dd=some d) (hdn:Nat.blt d n=true) (hr:(e vals.toArray).run P w=.ok v w')
  (hk:∀ a',Has a' n ((d,v)::env)→wpList P ops Q rest a' w') :
  wpList P ops Q (⟨dd,.call ⟨.value (.func f),xs,tys⟩,ty,pos,af,gd⟩::rest) a w:=by
 have hargs:=args_eq ha hv
 have hrun:(execOp a.eval ⟨dd,.call ⟨.value (.func f),xs,tys⟩,ty,pos,af,gd⟩).run P w=.ok (.value v) w':=by
  have e:execOp a.eval ⟨dd,.call ⟨.value (.func f),xs,tys⟩,ty,pos,af,gd⟩=callFunc f vals.toArray:=by
   simp [execOp,resolve,Act.eval,Deferred.ofValue,invoke,hargs]
  rw [e];exact run_ext hf hname hb hn he hr
 exact hop ha hg hd hdn hrun hk
def aggB (P:Program) (t:TypeId) (n:Nat):Bool:=(match P.underlying t with | some (.struct _) | some (.array ..)=>true | _=>false) && (match P.info? t with | some i=>i.size==n | none=>false)
theorem run_isAgg {t:TypeId} {k:Nat} (h:aggB P t k=true):(isAgg t).run P w=.ok true w∧(sizeOf t).run P w=.ok k w:=by
 unfold aggB at h
 simp only [Bool.and_eq_true] at h
 obtain ⟨h1,h2⟩:=h
 constructor
 ·cases hu:P.underlying t with
  | none=>rw [hu] at h1;simp at h1
  | some d =>
   rw [hu] at h1
   cases d<;>first | (simp at h1;done) | simp [isAgg,run_underlying hu]
 ·cases hi:P.info? t with
  | none=>rw [hi] at h2;simp at h2
  | some i=>rw [hi] at h2;simp at h2;simp [sizeOf,typeInfo,hi,h2]
theorem ldA_run {t:TypeId} {x:Operand} {ad:Addr} {cs:List Value} (ha:Has a n env) (hx:ev env x=some (.pointer (some ad))) (ht:aggB P t cs.length=true) (hc:∀ j v,cs[j]? = some v→w.cell? (ad.add j)=some v) :
  (execOp a.eval ⟨dd,.load t x,ty,pos,af,gd⟩).run P w=.ok (.value (.agg cs.toArray)) w:=by
 obtain ⟨h1,h2⟩:=run_isAgg (w:=w) ht
 refine execOp_val (s:=Instr.loadAt t (.pointer (some ad))) (by simp [execOp,ha.ev hx]) ?_
 simp [Instr.loadAt,Instr.sureAddr,loadVar,h1,h2,run_loadCells_list w ad cs hc]
theorem ldA {t:TypeId} {x:Operand} {ad:Addr} {cs:List Value} (ha:Has a n env) (hx:ev env x=some (.pointer (some ad))) (ht:aggB P t cs.length=true)
  (hg:gok ops env gd=some true) (hd:dd=some d) (hdn:Nat.blt d n=true) (hc:∀ j v,cs[j]? = some v→w.cell? (ad.add j)=some v)
  (hk:∀ a',Has a' n ((d,.agg cs.toArray)::env)→wpList P ops Q rest a' w):wpList P ops Q (⟨dd,.load t x,ty,pos,af,gd⟩::rest) a w :=
 hop ha hg hd hdn (ldA_run ha hx ht hc) hk
theorem cells_sub {g o:Nat} {all sub:List Value} (hC:∀ j v,all[j]? = some v→w.cell? ⟨g,o+j,none⟩=some v) (pre post:List Value) (e:all=pre++(sub++post)) :
  ∀ j v,sub[j]? = some v→w.cell? (Addr.add ⟨g,o+pre.length,none⟩ j)=some v:=by
 intro j v hv
 rw [Addr.add_lit,Nat.add_assoc]
 refine hC _ _ ?_
 rw [e,List.getElem?_append_right (by omega),Nat.add_sub_cancel_left,List.getElem?_append_left (List.getElem?_eq_some_iff.1 hv).1]
 exact hv
theorem Box.cells {g:Nat} {cs:List Value} (h:Box w g cs):∀ j v,cs[j]? = some v→w.cell? ⟨g,0+j,none⟩=some v:=fun j v hv=>by rw [Nat.zero_add];exact h.cell hv
end
end Go.E
