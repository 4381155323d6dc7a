/- The rules by which these proofs step through the code, part X. -/
import Derived.Test.YtinakhioihhgfaaGreatDoorEngQ
set_option linter.unusedVariables false
set_option linter.unusedSimpArgs false
namespace Go.E
open Go.RowKit
theorem Stamps.push {es:List MapEntry} {c:Nat} (h:Stamps es c) (k v:Value):Stamps (es++[{ key:=k,val:=v,born:=c }]) (c+1):=by
 refine ⟨?_,fun e he=>?_⟩
 ·rw [List.map_append,List.nodup_append]
  refine ⟨h.1,by simp,fun a ha b hb e=>?_⟩
  obtain ⟨x,hx,rfl⟩:=List.mem_map.1 ha
  have:=h.2 x hx
  simp at hb
  omega
 ·rcases List.mem_append.1 he with he | he
  ·exact Nat.lt_succ_of_lt (h.2 e he)
  ·rw [List.mem_singleton.1 he];exact Nat.lt_succ_self _
theorem modify_born (f:MapEntry→MapEntry) (hf:∀ e,(f e).born=e.born):∀ (es:List MapEntry) (i:Nat),(es.modify i f).map (·.born)=es.map (·.born)
 | [],i=>by rw [List.modify_nil]
 | e::es,0=>by simp [hf]
 | e::es,i+1=>by simp [modify_born f hf es i]
theorem Stamps.modify {es:List MapEntry} {c:Nat} (h:Stamps es c) (f:MapEntry→MapEntry) (hf:∀ e,(f e).born=e.born) (i:Nat):Stamps (es.modify i f) c:=by
 have e1:=modify_born f hf es i
 refine ⟨by rw [e1];exact h.1,fun e he=>?_⟩
 have:e.born∈(es.modify i f).map (·.born):=List.mem_map.2 ⟨e,he,rfl⟩
 rw [e1] at this
 obtain ⟨x,hx,ex⟩:=List.mem_map.1 this
 rw [← ex];exact h.2 x hx
section
variable {α β:Type} [BEq α] {P:Program} {kv:α→Value} {vv:β→Value} {n d:Nat} {ops:Array Oper} {Q:Exit→Act→World→Prop} {w w':World} {a:Act} {env:Env} {rest:List Oper} {o:Oper} {v:Value}
 {dd:Option Tmp} {ty:TypeId} {pos:String} {af:Array Edge} {gd:Option (Nat×Bool)}
def MapE (kv:α→Value) (vv:β→Value) (w:World) (g:Nat) (l:List (α×β)) (k:α) (st:Int):Prop :=
 ∃ es clock i,w.heap[g]? = some (.map es clock)∧es.findIdx? (fun e=>(e.born:Int)==st)=some i∧(∀ v,(es.toList.modify i fun e=>{ e with val:=vv v }).map pr=(mset l k v).map (pq kv vv))∧Stamps es.toList clock
theorem MapE.chg {gs:List Nat} {g:Nat} {l:List (α×β)} {k:α} {st:Int} (h:MapE kv vv w g l k st) (hc:Chg gs w w') (hn:g∉gs):MapE kv vv w' g l k st:=by
 obtain ⟨es,c,i,h1,h2⟩:=h
 exact ⟨es,c,i,hc.at h1 hn,h2⟩
def om {A B:Type} (o:Option A) (n:Option B) (s:A→Option B):Option B:=match o with | none=>n | some x=>s x
end
section
variable {α β:Type} {P:Program} {kv:α→Value} {vv:β→Value} {n d:Nat} {ops:Array Oper} {Q:Exit→Act→World→Prop} {w w':World} {a:Act} {env:Env} {rest:List Oper} {o:Oper} {v:Value}
 {dd:Option Tmp} {ty:TypeId} {pos:String} {af:Array Edge} {gd:Option (Nat×Bool)}
end
end Go.E
