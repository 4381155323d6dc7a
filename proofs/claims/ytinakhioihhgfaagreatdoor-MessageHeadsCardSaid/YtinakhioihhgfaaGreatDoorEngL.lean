/- The rules by which these proofs step through the code, part L. -/
import Derived.Test.YtinakhioihhgfaaGreatDoorEngK
set_option linter.unusedVariables false
set_option linter.unusedSimpArgs false
namespace Go.E
open Go.RowKit
/-! arrays in boxes that are written -/
theorem cA_length {k:IntKind} {m:Nat} {x:List Int}:(cA k m x).length=m:=by simp [cA]
def arC (N:Nat) (x xs:List Int):List Int:=xs.take N++(arL N x).drop xs.length
theorem ar_arC (N:Nat) (x xs:List Int) (j:Nat) (hj:j < N):ar (arC N x xs) j=if j < xs.length then ar xs j else ar x j:=by
 unfold arC
 by_cases h:j < xs.length
 ·rw [if_pos h]
  unfold ar
  rw [List.getD_eq_getElem?_getD,List.getElem?_append_left (by simp;omega),List.getElem?_take,if_pos hj,List.getD_eq_getElem?_getD]
 ·rw [if_neg h]
  unfold ar
  rw [List.getD_eq_getElem?_getD,List.getElem?_append_right (by simp;omega),List.getElem?_drop]
  have e:xs.length+(j - (xs.take N).length)=j:=by simp;omega
  rw [e]
  simp [arL,hj,ar]
theorem Box.cast {w:World} {g:Nat} {a b:List Value} (h:Box w g a) (e:b=a):Box w g b:=e ▸ h
section
variable {P:Program} {n d:Nat} {ops:Array Oper} {Q:Exit→Act→World→Prop} {w w':World} {a:Act} {env:Env} {rest:List Oper} {o:Oper} {v:Value}
 {dd:Option Tmp} {ty:TypeId} {pos:String} {af:Array Edge} {gd:Option (Nat×Bool)}
theorem cpyA {tD tS T:TypeId} {x y:Operand} {g N cap2:Nat} {ao:Option Addr} {M:List Nat} {all:List Value} {x0 xs:List Int} {k:IntKind} (pre post:List Value) (ha:Has a n env) (hu:P.underlying tD=some (.slice T)) (hs:(P.info? T).map (·.size)=some 1)
  (hx:ev env x=some (.slice (some ⟨g,pre.length,none⟩) N N)) (hy:ev env y=some (.slice ao xs.length cap2))
  (hg:gok ops env gd=some true) (hd:dd=some d) (hdn:Nat.blt d n=true) (hb:Box w g all) (e:all=pre++(cA k N x0++post)) (hR:RSl (rInt k) T w M ao cap2 xs)
  (hk:∀ a' w',Box w' g (pre++(cA k N (arC N x0 xs)++post))→Chg [g] w w'→Has a' n ((d,.int .i64 (min xs.length N:Nat))::env)→wpList P ops Q rest a' w') :
  wpList P ops Q (⟨dd,.call ⟨.builtin .copy,#[x,y],#[tD,tS]⟩,ty,pos,af,gd⟩::rest) a w:=by
 obtain ⟨T0,hb⟩:=hb
 have key:pre++((xs.take N).map (Value.int k)++((cA k N x0).drop (min xs.length N)++post))=pre++(cA k N (arC N x0 xs)++post):=by
  rw [← List.append_assoc (List.map _ _)]
  congr 2
  apply List.ext_getElem?
  intro j
  by_cases hj:j < N
  ·have:(cA k N (arC N x0 xs))[j]? = some (.int k (if j < xs.length then ar xs j else ar x0 j)):=by
    rw [← ar_arC N x0 xs j hj];simp [cA,hj]
   rw [this]
   by_cases h:j < xs.length
   ·rw [List.getElem?_append_left (by simp;omega),List.getElem?_map,List.getElem?_take,if_pos hj,if_pos h]
    simp [ar,h]
   ·rw [List.getElem?_append_right (by simp;omega),List.getElem?_drop,if_neg h]
    have e:min xs.length N+(j - (List.map (Value.int k) (xs.take N)).length)=j:=by simp;omega
    rw [e];simp [cA,hj]
  ·rw [List.getElem?_eq_none (by simp [cA];omega),List.getElem?_eq_none (by simp [cA];omega)]
 have fin:∀ (ad:Addr),ao=some ad→(∀ j v,((xs.take N).map (Value.int k))[j]? = some v→w.cell? (ad.add j)=some v)→wpList P ops Q (⟨dd,.call ⟨.builtin .copy,#[x,y],#[tD,tS]⟩,ty,pos,af,gd⟩::rest) a w:=by
  intro ad e0 hsrc
  subst e0
  have hlen:((xs.take N).map (Value.int k)).length=min xs.length N:=by simp;omega
  have hr:=run_copy_row (P:=P) w tD tS ty T g pre.length N N ad xs.length cap2 all.toArray T0 ((xs.take N).map (.int k)) hu hs hb (by rw [hlen]) hsrc (by rw [hlen,e];simp [cA];omega) (by
   intro v hv
   obtain ⟨_,_,rfl⟩:=List.mem_map.1 hv
   rfl)
  have hrow:all.toArray.toList.take pre.length++(xs.take N).map (Value.int k)++all.toArray.toList.drop (pre.length+((xs.take N).map (Value.int k)).length)=pre++(cA k N (arC N x0 xs)++post):=by
   rw [← key,hlen,List.toList_toArray,e,List.take_left,List.append_assoc]
   congr 2
   rw [← List.drop_drop,List.drop_left,List.drop_append_of_le_length (by rw [cA_length];omega)]
  rw [hrow,hlen] at hr
  refine hop (o:=⟨dd,.call ⟨.builtin .copy,#[x,y],#[tD,tS]⟩,ty,pos,af,gd⟩) (w':=w.setRow g (pre++(cA k N (arC N x0 xs)++post)).toArray) (v:=.int .i64 (min xs.length N:Nat)) ha hg hd hdn ?_ ?_
  ·simp [execOp,ha.ev hx,ha.ev hy,builtin,hr,goInt,resolve,Deferred.ofValue,invoke]
  ·intro a' ha'
   refine hk a' _ ⟨T0,setRow_heap w g _ _ T0 _ hb⟩ ⟨rfl,rfl,rfl,by simp [World.setRow],fun k hk' hn=>?_⟩ ha'
   simp only [World.setRow,Array.getElem?_modify]
   rw [if_neg (fun e=>hn (by simp [e]))]
 cases ao with
 | none =>
  have hxs:xs=[]:=by
   obtain ⟨_,_,h3⟩:=hR
   rcases h3 with h3 | ⟨_,_,_,_,e,_⟩
   ·exact h3
   ·cases e
  subst hxs
  have hr:=run_copy_none (P:=P) w tD tS ty T (some ⟨g,pre.length,none⟩) none N N 0 cap2 hu hs (Nat.zero_min _)
  refine hop (o:=⟨dd,.call ⟨.builtin .copy,#[x,y],#[tD,tS]⟩,ty,pos,af,gd⟩) (w':=w) (v:=.int .i64 (min ([]:List Int).length N:Nat)) ha hg hd hdn ?_ ?_
  ·simp [execOp,ha.ev hx,ha.ev hy,builtin,hr,goInt,resolve,Deferred.ofValue,invoke]
  ·intro a' ha'
   refine hk a' _ ?_ (Chg.refl _ _) ha'
   rw [← key]
   exact ⟨T0,by simpa [e] using hb⟩
 | some ad =>
  obtain ⟨_,_,h3⟩:=id hR
  rcases h3 with rfl | ⟨g2,o2,cur,fr,e2,_,hb2,hl2⟩
  ·exact fin ad rfl (fun j v hv=>by simp at hv)
  ·refine fin ad rfl ?_
   obtain rfl:=Option.some.inj e2
   intro j v hv
   have hcs:=RL_int hl2
   rw [Addr.add_lit,cell_of_row w g2 _ cur fr.1 fr.2 hb2,← Array.getElem?_toList]
   rw [List.map_take,List.getElem?_take] at hv
   split at hv
   ·rw [← hcs,List.getElem?_take] at hv
    split at hv
    ·rw [List.getElem?_drop] at hv;exact hv
    ·cases hv
   ·cases hv
theorem Own.addr {α:Type} {r:Rep α} {T:TypeId} {M:List Nat} {ao:Option Addr} {cap:Nat} {xs:List α} (h:Own r T w M ao cap xs) {i:Nat} (hi:i < xs.length):∃ g,ao=some ⟨g,0,none⟩:=by
 rcases h with ⟨_,rfl,_⟩ | ⟨g,cur,rfl,_⟩
 ·simp at hi
 ·exact ⟨g,rfl⟩
theorem mapM_three (f:ResultVar→Sem Value) (r1 r2 r3:ResultVar):#[r1,r2,r3].mapM f=(do let v ← f r1;let u ← f r2;let x ← f r3;pure #[v,u,x]):=by
 rw [Array.mapM_eq_mapM_toList];simp
theorem res3 {fn:Func} {r1 r2 r3:ResultVar} {v1 v2 v3:Value} (hr:fn.results=#[r1,r2,r3]) (h1:(resOne a.tmps r1).run P w=.ok v1 w) (h2:(resOne a.tmps r2).run P w=.ok v2 w) (h3:(resOne a.tmps r3).run P w=.ok v3 w):(results fn a.tmps).run P w=.ok (.tuple #[v1,v2,v3]) w:=by
 unfold results
 rw [hr,mapM_three]
 cases r1<;>cases r2<;>cases r3<;>simp only [resOne] at h1 h2 h3<;>simp only [Sem.run_bind,h1,h2,h3,Sem.run_pure,Result.andThen] at*<;> simp_all
end
end Go.E
