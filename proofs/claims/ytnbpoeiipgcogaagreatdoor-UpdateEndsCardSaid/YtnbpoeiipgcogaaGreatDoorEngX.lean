/- The rules by which these proofs step through the code, part X. -/
import Derived.Test.YtnbpoeiipgcogaaGreatDoorEngQ
set_option linter.unusedVariables false
set_option linter.unusedSimpArgs false
namespace Go.E
open Go.RowKit
/-! maps: made, written, measured, emptied -/
theorem New.mapR {α β:Type} {kv:α→Value} {vv:β→Value} {w w':World} {g:Nat} (h:New w w' g (.map #[] 0)):MapR kv vv w' g []:=⟨#[],0,h.at_,rfl,List.nodup_nil,fun _ h=>nomatch h⟩
theorem Stamps.push {es:List MapEntry} {c:Nat} (h:Stamps es c) (k v:Value):Stamps (es++[{ key:=k,val:=v,born:=c }]) (c+1):=by
 refine ⟨?_,fun e he=>?_⟩
 ·rw [List.map_append,List.nodup_append]
  refine ⟨h.1,by simp,fun a ha b hb e=>?_⟩
  obtain ⟨x,hx,rfl⟩:=List.mem_map.1 ha
  have:=h.2 x hx
  simp at hb
  omega
 ·rcases List.mem_append.1 he with he | he
  ·exact Nat.lt_succ_of_lt (h.2 e he)
  ·rw [List.mem_singleton.1 he];exact Nat.lt_succ_self _
theorem modify_born (f:MapEntry→MapEntry) (hf:∀ e,(f e).born=e.born):∀ (es:List MapEntry) (i:Nat),(es.modify i f).map (·.born)=es.map (·.born)
 | [],i=>by rw [List.modify_nil]
 | e::es,0=>by simp [hf]
 | e::es,i+1=>by simp [modify_born f hf es i]
theorem Stamps.modify {es:List MapEntry} {c:Nat} (h:Stamps es c) (f:MapEntry→MapEntry) (hf:∀ e,(f e).born=e.born) (i:Nat):Stamps (es.modify i f) c:=by
 have e1:=modify_born f hf es i
 refine ⟨by rw [e1];exact h.1,fun e he=>?_⟩
 have:e.born∈(es.modify i f).map (·.born):=List.mem_map.2 ⟨e,he,rfl⟩
 rw [e1] at this
 obtain ⟨x,hx,ex⟩:=List.mem_map.1 this
 rw [← ex];exact h.2 x hx
section
variable {α β:Type} [BEq α] {P:Program} {kv:α→Value} {vv:β→Value} {n d:Nat} {ops:Array Oper} {Q:Exit→Act→World→Prop} {w w':World} {a:Act} {env:Env} {rest:List Oper} {o:Oper} {v:Value}
 {dd:Option Tmp} {ty:TypeId} {pos:String} {af:Array Edge} {gd:Option (Nat×Bool)}
def setMap (w:World) (g:Nat) (es:Array MapEntry) (c:Nat):World:={ w with heap:=w.heap.setIfInBounds g (.map es c) }
theorem setMap_at {g:Nat} {es:Array MapEntry} {c:Nat} (h:g < w.heap.size):(setMap w g es c).heap[g]? = some (.map es c):=by
 simp [setMap,Array.getElem?_setIfInBounds,h]
theorem setMap_chg (g:Nat) (es:Array MapEntry) (c:Nat):Chg [g] w (setMap w g es c) :=
 ⟨rfl,rfl,rfl,by simp [setMap],fun k hk hn=>by
  simp only [setMap,Array.getElem?_setIfInBounds]
  rw [if_neg (fun e=>hn (by simp [e]))]⟩
theorem mmk {t:TypeId} (ha:Has a n env) (hg:gok ops env gd=some true) (hd:dd=some d) (hdn:Nat.blt d n=true)
  (hk:∀ a' w' g,New w w' g (.map #[] 0)→Has a' n ((d,.map (some g))::env)→wpList P ops Q rest a' w'):wpList P ops Q (⟨dd,.makeMap t none,ty,pos,af,gd⟩::rest) a w:=by
 refine hop (o:=⟨dd,.makeMap t none,ty,pos,af,gd⟩) (w':=w.alloc (.map #[] 0)) (v:=.map (some w.heap.size)) ha hg hd hdn ?_ ?_
 ·simp [execOp,Instr.makeMap,newObj,Sem.run]
 ·intro a' ha'
  exact hk a' _ _ (New.alloc w _) ha'
theorem mup_run {t kt e:TypeId} {g:Nat} {l:List (α×β)} {k:α} {x:β} (ht:P.underlying t=some (.map kt e)) (K:MKey P kt kv) (h:MapR kv vv w g l) :
  ∃ w',(Instr.mapUpdate t (.map (some g)) (kv k) (vv x)).run P w=.ok () w'∧MapR kv vv w' g (mset l k x)∧Chg [g] w w'∧w'.heap.size=w.heap.size:=by
 obtain ⟨es,c,hb,he,hst⟩:=h
 have hlt:=lt_size hb
 rcases findKey_run K he k w with ⟨a1,a2,a3,_⟩ | ⟨y,j,a1,a2,⟨ent,a3,a3'⟩,a4,_⟩
 ·refine ⟨setMap w g (es.push { key:=kv k,val:=vv x,born:=c }) (c+1),?_,⟨_,_,setMap_at hlt,?_,by rw [Array.toList_push];exact hst.push _ _⟩,setMap_chg _ _ _,by simp [setMap]⟩
  ·simp [Instr.mapUpdate,run_underlying ht,getObj,Sem.run,hb,K.check w _ k,a2,setObj,setMap]
  ·rw [a3];simp [pr,pq,he]
 ·refine ⟨setMap w g (es.modify j fun e=>{ e with key:=kv k,val:=vv x }) c,?_,⟨_,_,setMap_at hlt,?_,by rw [Array.toList_modify];exact hst.modify (fun e=>{ e with key:=kv k,val:=vv x }) (fun _=>rfl) _⟩,setMap_chg _ _ _,by simp [setMap]⟩
  ·have hj:((es[j]?).map (·.key)).getD (kv k)=kv k:=by
    have:es[j]? = some ent:=by simpa using a3
    rw [this];simp [a3']
   simp [Instr.mapUpdate,run_underlying ht,getObj,Sem.run,hb,K.check w _ k,a2,hj,Instr.keyThatStays,K.bits,setObj,setMap]
  ·rw [Array.toList_modify];exact a4 x
theorem mup {t kt e:TypeId} {x y z:Operand} {g:Nat} {l:List (α×β)} {k:α} {u:β} (ha:Has a n env) (ht:P.underlying t=some (.map kt e)) (K:MKey P kt kv) (hx:ev env x=some (.map (some g))) (hy:ev env y=some (kv k)) (hz:ev env z=some (vv u))
  (hg:gok ops env gd=some true) (h:MapR kv vv w g l)
  (hk:∀ a' w',Has a' n env→MapR kv vv w' g (mset l k u)→Chg [g] w w'→wpList P ops Q rest a' w'):wpList P ops Q (⟨none,.mapUpdate t x y z,ty,pos,af,gd⟩::rest) a w:=by
 obtain ⟨w',h1,h2,h3,_⟩:=mup_run (x:=u) (k:=k) ht K h
 refine hops (o:=⟨none,.mapUpdate t x y z,ty,pos,af,gd⟩) (w':=w') ha hg rfl ?_ fun a' ha'=>hk a' w' ha' h2 h3
 simp [execOp,ha.ev hx,ha.ev hy,ha.ev hz,h1]
def MapE (kv:α→Value) (vv:β→Value) (w:World) (g:Nat) (l:List (α×β)) (k:α) (st:Int):Prop :=
 ∃ es clock i,w.heap[g]? = some (.map es clock)∧es.findIdx? (fun e=>(e.born:Int)==st)=some i∧(∀ v,(es.toList.modify i fun e=>{ e with val:=vv v }).map pr=(mset l k v).map (pq kv vv))∧Stamps es.toList clock
theorem MapE.chg {gs:List Nat} {g:Nat} {l:List (α×β)} {k:α} {st:Int} (h:MapE kv vv w g l k st) (hc:Chg gs w w') (hn:g∉gs):MapE kv vv w' g l k st:=by
 obtain ⟨es,c,i,h1,h2⟩:=h
 exact ⟨es,c,i,hc.at h1 hn,h2⟩
def om {A B:Type} (o:Option A) (n:Option B) (s:A→Option B):Option B:=match o with | none=>n | some x=>s x
end
section
variable {α β:Type} {P:Program} {kv:α→Value} {vv:β→Value} {n d:Nat} {ops:Array Oper} {Q:Exit→Act→World→Prop} {w w':World} {a:Act} {env:Env} {rest:List Oper} {o:Oper} {v:Value}
 {dd:Option Tmp} {ty:TypeId} {pos:String} {af:Array Edge} {gd:Option (Nat×Bool)}
end
end Go.E
