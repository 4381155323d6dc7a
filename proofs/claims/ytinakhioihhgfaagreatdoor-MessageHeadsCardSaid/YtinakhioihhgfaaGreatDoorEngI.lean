/- The rules by which these proofs step through the code, part I. -/
import Derived.Test.YtinakhioihhgfaaGreatDoorEngH
import Derived.Great.FillDense
set_option linter.unusedVariables false
set_option linter.unusedSimpArgs false
namespace Go.E
open Go.RowKit
section
variable {P:Program} {n d:Nat} {ops:Array Oper} {Q:Exit→Act→World→Prop} {w w':World} {a:Act} {env:Env} {rest:List Oper} {o:Oper} {v:Value}
 {dd:Option Tmp} {ty:TypeId} {pos:String} {af:Array Edge} {gd:Option (Nat×Bool)}
theorem al {t:TypeId} {cs:List Value} {z:Value} (ha:Has a n env) (hz:∀ w,(zeroValue t).run P w=.ok z w) (hcs:z.cells=cs.toArray)
  (hg:gok ops env gd=some true) (hd:dd=some d) (hdn:Nat.blt d n=true)
  (hk:∀ a' w' g,New w w' g (.cells cs.toArray t (0,0))→Has a' n ((d,.pointer (some ⟨g,0,none⟩))::env)→wpList P ops Q rest a' w'):wpList P ops Q (⟨dd,.alloc t,ty,pos,af,gd⟩::rest) a w:=by
 refine hop (o:=⟨dd,.alloc t,ty,pos,af,gd⟩) (w':=w.alloc (.cells z.cells t)) (v:=.pointer (some ⟨w.heap.size,0,none⟩)) ha hg hd hdn ?_ ?_
 ·simp [execOp,Instr.alloc,hz,newVar,newRow,newObj,Sem.run]
 ·intro a' ha'
  rw [hcs]
  exact hk a' _ _ (New.alloc w _) ha'
theorem stA {t:TypeId} {x y:Operand} {g o':Nat} {ad:Addr} {cs l:List Value} {ty:TypeId} {pos:String} {af:Array Edge} {gd:Option (Nat×Bool)} (ha:Has a n env) (hx:ev env x=some (.pointer (some ad))) (hy:ev env y=some (.agg l.toArray))
  (he:ad=⟨g,o',none⟩) (hsz:((P.info? t).map (·.size))=some l.length) (h1:l.all (·.oneCell')=true)
  (hg:gok ops env gd=some true) (hb:Box w g cs) (ho:Nat.ble (o'+l.length) cs.length=true)
  (hk:∀ a' w',Has a' n env→Box w' g (cs.take o'++l++cs.drop (o'+l.length))→Chg [g] w w'→w'.heap.size=w.heap.size→wpList P ops Q rest a' w'):wpList P ops Q (⟨none,.store t x y,ty,pos,af,gd⟩::rest) a w:=by
 subst he
 obtain ⟨T,hb⟩:=hb
 obtain ⟨i,hi,hs⟩:=Option.map_eq_some_iff.1 hsz
 have ho':o'+l.length≤cs.length:=Nat.le_of_ble_eq_true ho
 have hv:(Value.agg l.toArray).cells=l.toArray:=rfl
 have hrun:(Instr.storeAt t (.pointer (some ⟨g,o',none⟩)) (.agg l.toArray)).run P w=.ok () (w.setRow g (cs.take o'++l++cs.drop (o'+l.length)).toArray):=by
  have hst:=run_storeCells_at P g o' T l 0 cs.toArray w hb (by simpa using ho') (fun v hv=>List.all_eq_true.1 h1 v hv)
  rw [Nat.add_zero] at hst
  simp only [List.toList_toArray] at hst
  simp [Instr.storeAt,Instr.sureAddr,storeVar,sizeOf,typeInfo,hi,hs,hv,hst]
 have hheap:(w.setRow g (cs.take o'++l++cs.drop (o'+l.length)).toArray).heap[g]? = some (.cells (cs.take o'++l++cs.drop (o'+l.length)).toArray T (0,0)):=setRow_heap w g _ _ T _ hb
 refine hops (o:=⟨none,.store t x y,ty,pos,af,gd⟩) (w':=w.setRow g (cs.take o'++l++cs.drop (o'+l.length)).toArray) ha hg rfl ?_ ?_
 ·simp [execOp,ha.ev hx,ha.ev hy,hrun]
 ·intro a' ha'
  refine hk a' _ ha' ⟨T,hheap⟩ ?_ ?_
  ·refine ⟨rfl,rfl,rfl,by simp [World.setRow],?_⟩
   intro k hk' hn
   simp only [World.setRow,Array.getElem?_modify]
   rw [if_neg (fun e=>hn (by simp [e]))]
  ·simp [World.setRow]
theorem wpl_end {Q:Exit→Act→World→Prop} (h:Q .normal a w):wpList P ops Q [] a w:=by unfold wpList;exact h
theorem bslA {t T:TypeId} {len s:Nat} {parts:Array (Nat×Operand)} {vals:List Value} {z:Value} (ha:Has a n env)
  (hp:parts.toList.map (fun p=>ev env p.2)=vals.map some) (hi:parts.toList.map (fun p=>p.1)=List.range len) (hl:vals.length=len) (ht:P.underlying t=some (.slice T))
  (hs:(P.info? T).map (·.size)=some s) (h0:Nat.blt 0 (len*s)=true) (hb:Nat.ble (len*s) (2^24)=true) (hz:∀ w,(zeroValue T).run P w=.ok z w) (hv:vals.all (fun v=>v.cells.size==s)=true)
  (hg:gok ops env gd=some true) (hd:dd=some d) (hdn:Nat.blt d n=true)
  (hk:∀ a' w' g,New w w' g (.cells (vals.flatMap fun v=>v.cells.toList).toArray T (0,0))→Has a' n ((d,.slice (some ⟨g,0,none⟩) len len)::env)→wpList P ops Q rest a' w'):wpList P ops Q (⟨dd,.buildSlice t len parts,ty,pos,af,gd⟩::rest) a w:=by
 obtain ⟨inf,hinf,hsz⟩:=Option.map_eq_some_iff.1 hs
 have h0':0 < len*s:=by simpa [Nat.blt_eq] using h0
 have hs0:0 < s:=Nat.pos_of_mul_pos_left h0'
 have hb':len*s≤2^24:=Nat.le_of_ble_eq_true hb
 have hvs:∀ v∈vals,v.cells.size=s:=fun v hv'=>by simpa using List.all_eq_true.1 hv v hv'
 have hpl:parts.toList.length=len:=by have:=congrArg List.length hi;simpa using this
 have hparts:((parts.toList.zip vals).map fun p=>(p.1.1,p.2))=(vals.zipIdx 0).map fun x=>(x.2,x.1):=by
  apply List.ext_getElem?
  intro i
  by_cases hi':i < len
  ·have e1:parts.toList[i]?.map (fun p=>p.1)=some i:=by
    have:=congrArg (fun l=>l[i]?) hi
    simp only [List.getElem?_map] at this
    rw [this,List.getElem?_range hi']
   obtain ⟨q,hq,hq1⟩:=Option.map_eq_some_iff.1 e1
   obtain ⟨v,hv'⟩:∃ v,vals[i]? = some v:=⟨vals[i]'(by omega),by simp⟩
   rw [List.getElem?_map,List.getElem?_map,List.getElem?_zipIdx,hv']
   have:(parts.toList.zip vals)[i]? = some (q,v):=by rw [List.getElem?_zip_eq_some];exact ⟨hq,hv'⟩
   rw [this]
   simp [hq1]
  ·rw [List.getElem?_eq_none (by simp;omega),List.getElem?_eq_none (by simp;omega)]
 have hrun:∀ w,(Instr.buildSlice t len (parts.toList.zip vals |>.map fun p=>(p.1.1,p.2)).toArray).run P w=.ok (.slice (some ⟨w.heap.size,0,none⟩) len len) (w.alloc (.cells (vals.flatMap fun v=>v.cells.toList).toArray T)):=by
  intro w
  have hf:=Go.Great.fill_whole hs0 vals ((Array.range (len*s)).map (z.cells[· % z.cells.size]!)) hvs (by simp [hl])
  have hn0:¬ len*s=0:=by omega
  have hn1:¬ len*s > 16777216:=by omega
  rw [hparts]
  simp [Instr.buildSlice,run_underlying ht,sizeOf,typeInfo,hinf,hsz,hn1,hn0,hz,hf,newRow,newObj,Sem.run]
 exact bsl ha hp _ hrun hg hd hdn hk
/-! results -/
def resOne (tmps:Array Value):ResultVar→Sem Value
 | .tmp t=>pure (tmps.getD t undef)
 | .cell a t=>do loadVar t (← asAddr (tmps.getD a undef))
theorem mapM_one (f:ResultVar→Sem Value) (r:ResultVar):#[r].mapM f=(do let v ← f r;pure #[v]):=by
 rw [Array.mapM_eq_mapM_toList];simp
theorem mapM_two (f:ResultVar→Sem Value) (r1 r2:ResultVar):#[r1,r2].mapM f=(do let v ← f r1;let u ← f r2;pure #[v,u]):=by
 rw [Array.mapM_eq_mapM_toList];simp
theorem res1 {fn:Func} {r:ResultVar} (hr:fn.results=#[r]) (h:(resOne a.tmps r).run P w=.ok v w):(results fn a.tmps).run P w=.ok v w:=by
 unfold results
 rw [hr,mapM_one]
 cases r<;>simp only [resOne] at h<;>simp [h] at*<;> simp_all
theorem res2 {fn:Func} {r1 r2:ResultVar} {v1 v2:Value} (hr:fn.results=#[r1,r2]) (h1:(resOne a.tmps r1).run P w=.ok v1 w) (h2:(resOne a.tmps r2).run P w=.ok v2 w):(results fn a.tmps).run P w=.ok (.tuple #[v1,v2]) w:=by
 unfold results
 rw [hr,mapM_two]
 cases r1<;>cases r2<;>simp only [resOne] at h1 h2<;>simp only [Sem.run_bind,h1,h2,Sem.run_pure,Result.andThen] at*<;> simp_all
theorem roT {t:Tmp} (ha:Has a n env) (h:look env t=some v):(resOne a.tmps (.tmp t)).run P w=.ok v w:=by
 simp only [resOne,ha.vals t v h,Sem.run_pure]
theorem roA {t:Tmp} {T:TypeId} {g:Nat} {cs:List Value} (ha:Has a n env) (h:look env t=some (.pointer (some ⟨g,0,none⟩))) (hb:Box w g cs) (ht:aggB P T cs.length=true):(resOne a.tmps (.cell t T)).run P w=.ok (.agg cs.toArray) w:=by
 obtain ⟨h1,h2⟩:=run_isAgg (w:=w) ht
 have hl:=run_loadCells_list (P:=P) w ⟨g,0,none⟩ cs (fun j u hu=>by rw [Addr.add_lit,Nat.zero_add];exact hb.cell hu)
 simp [resOne,ha.vals t _ h,asAddr,loadVar,h1,h2,hl]
theorem rtr {fn:Func} {R:Value→World→Prop} (ha:Has a n env) (hr:(results fn a.tmps).run P w=.ok v w) (hR:R v w) :
  bodyPost P fn (fun e w'=>∃ v,e=.returned v∧R v w') .ret a w:=bodyPost_ret hr ha.defers ⟨_,rfl,hR⟩
theorem sidx_run {t:TypeId} {x y:Operand} {l:List UInt8} {k:IntKind} {i:Int} (ha:Has a n env) (ht:P.underlying t=some .string)
  (hx:ev env x=some (.string (bstr l))) (hy:ev env y=some (.int k i)) (h0:0≤i) (h1:i < l.length) (w:World) :
  (execOp a.eval ⟨dd,.index t x y,ty,pos,af,gd⟩).run P w=.ok (.value (.int .u8 ((l.getD i.toNat 0).toNat:Int))) w:=by
 have e1:execOp a.eval ⟨dd,.index t x y,ty,pos,af,gd⟩=(Instr.index t (.string (bstr l)) (.int k i) >>= fun v=>pure (Next.value v)):=by
  simp [execOp,ha.ev hx,ha.ev hy]
 refine execOp_val' e1 ?_
 have hi:i.toNat < l.length:=by omega
 have hg:(bstr l)[i.toNat]? = some (l.getD i.toNat 0):=by
  have hsz:(bstr l).size=l.length:=rfl
  rw [getElem?_pos _ _ (by rw [hsz];exact hi)]
  congr 1
  simp [List.getD,hi]
  rfl
 simp [Instr.index,asIntOf,run_underlying ht,h0,hg]
/-! arrays that are sliced -/
theorem cell_row' {g o:Nat} (h:w.cell? ⟨g,o,none⟩=some v):∃ cur T fr,w.heap[g]? = some (.cells cur T fr)∧cur[o]? = some v:=by
 unfold World.cell? at h
 split at h
 ·rename_i cur T fr hh
  exact ⟨cur,T,fr,hh,by simpa using h⟩
 ·cases h
def arL (n:Nat) (x:List Int):List Int:=(List.range n).map (ar x)
theorem arL_length (n:Nat) (x:List Int):(arL n x).length=n:=by simp [arL]
theorem RSl.ofA {k:IntKind} {T:TypeId} {M:List Nat} {g o m:Nat} {x:List Int} {all:List Value} (pre post:List Value) (hC:∀ j v,all[j]? = some v→w.cell? ⟨g,o+j,none⟩=some v) (hN:g∉M) (e:all=pre++(cA k m x++post)) (hm:Nat.ble m maxLen=true) :
  RSl (rInt k) T w M (some ⟨g,o+pre.length,none⟩) m (arL m x):=by
 refine ⟨by rw [arL_length];exact Nat.le_refl _,Nat.le_of_ble_eq_true hm,?_⟩
 have hlen:(cA k m x).length=m:=by simp [cA]
 have hcell:∀ j,j < m→w.cell? ⟨g,o+pre.length+j,none⟩=some (.int k (ar x j)):=by
  intro j hj
  have:=cells_sub hC pre post e j (.int k (ar x j)) (by simp [cA,hj])
  rwa [Addr.add_lit] at this
 cases m with
 | zero=>exact .inl rfl
 | succ m =>
  obtain ⟨cur,T',fr,hb,_⟩:=cell_row' (hcell 0 (Nat.succ_pos _))
  refine .inr ⟨g,_,cur,(T',fr),rfl,hN,hb,?_⟩
  have:(cur.toList.drop (o+pre.length)).take ((arL (m+1) x).length*(rInt k).sz)=(arL (m+1) x).map (.int k):=by
   rw [arL_length]
   apply List.ext_getElem?
   intro j
   by_cases hj:j < m+1
   ·have h1:=hcell j hj
    rw [cell_of_row w g _ cur T' fr hb] at h1
    rw [List.getElem?_take,if_pos (by simpa [rInt] using hj),List.getElem?_drop,Array.getElem?_toList,h1]
    simp [arL,hj]
   ·rw [List.getElem?_eq_none (by simp [rInt];omega),List.getElem?_eq_none (by simp [arL];omega)]
  rw [this]
  exact RL_int_mk _
theorem slA_run {kk:IntKind} {t T:TypeId} {x:Operand} {lo hi:Option Operand} {M:List Nat} {g o' N:Nat} {xs:List Int} {l h:Int}
  (ha:Has a n env) (ht:P.underlying t=some (.array N T)) (hs:(P.info? T).map (·.size)=some 1) (hx:ev env x=some (.pointer (some ⟨g,o',none⟩))) (hN:xs.length=N)
  (hlo:(match lo with | none=>some 0 | some y=>(ev env y).bind fun | .int _ l=>some l | _=>none)=some l)
  (hhi:(match hi with | none=>some (N:Int) | some y=>(ev env y).bind fun | .int _ l=>some l | _=>none)=some h)
  (hR:RSl (rInt kk) T w M (some ⟨g,o',none⟩) N xs) (h0:0≤l) (h1:l≤h) (h2:h≤xs.length) :
  ∃ ao' cap',RSl (rInt kk) T w M ao' cap' ((xs.take h.toNat).drop l.toNat)∧∀ w,(execOp a.eval ⟨dd,.slice t x lo hi none,ty,pos,af,gd⟩).run P w=.ok (.value (.slice ao' ((xs.take h.toNat).drop l.toNat).length cap')) w:=by
 obtain ⟨inf,hi',hs⟩:=Option.map_eq_some_iff.1 hs
 have hcap:=hR.1
 have hsz:(rInt kk).sz=1:=rfl
 have hlen:((xs.take h.toNat).drop l.toNat).length=h.toNat - l.toNat:=by simp;omega
 refine ⟨_,_,hR.slice l.toNat h.toNat (by omega) (by omega),fun w=>?_⟩
 have hlo':lo=none∧l=0∨∃ y k,lo=some y∧ev env y=some (.int k l):=by
  cases lo with
  | none=>exact .inl ⟨rfl,(Option.some.inj hlo).symm⟩
  | some y =>
   simp only at hlo
   cases he:ev env y with
   | none=>rw [he] at hlo;cases hlo
   | some u =>
    rw [he] at hlo
    cases u<;>first | (simp at hlo;done) | (simp at hlo;subst hlo;exact .inr ⟨y,_,rfl,he⟩)
 have hhi':hi=none∧h=N∨∃ y k,hi=some y∧ev env y=some (.int k h):=by
  cases hi with
  | none=>exact .inl ⟨rfl,(Option.some.inj hhi).symm⟩
  | some y =>
   simp only at hhi
   cases he:ev env y with
   | none=>rw [he] at hhi;cases hhi
   | some u =>
    rw [he] at hhi
    cases u<;>first | (simp at hhi;done) | (simp at hhi;subst hhi;exact .inr ⟨y,_,rfl,he⟩)
 have hn1:((h.toNat:Nat):Int)=h:=by omega
 have hn2:((l.toNat:Nat):Int)=l:=by omega
 rw [hlen]
 rcases hlo' with ⟨rfl,rfl⟩ | ⟨y,k,rfl,ey⟩<;>rcases hhi' with ⟨rfl,rfl⟩ | ⟨z,k',rfl,ez⟩
 ·have e1:execOp a.eval ⟨dd,.slice t x none none none,ty,pos,af,gd⟩=(Instr.sliceAt t (.pointer (some ⟨g,o',none⟩)) none none none >>= fun v=>pure (Next.value v)):=by
   simp [execOp,ha.ev hx]
  refine execOp_val' e1 ?_
  simp [Instr.sliceAt,Instr.sureAddr,Instr.sliceBounds,run_underlying ht,sizeOf,typeInfo,hi',hs,hsz]
  split<;>rfl
 ·have e1:execOp a.eval ⟨dd,.slice t x none (some z) none,ty,pos,af,gd⟩=(Instr.sliceAt t (.pointer (some ⟨g,o',none⟩)) none (some (.int k' h)) none >>= fun v=>pure (Next.value v)):=by
   simp [execOp,ha.ev hx,ha.ev ez]
  refine execOp_val' e1 ?_
  simp [Instr.sliceAt,Instr.sureAddr,Instr.sliceBounds,run_underlying ht,sizeOf,typeInfo,hi',hs,hsz,run_sliceBound w k' h N _ (by omega) (by omega)]
  split<;>rfl
 ·have e1:execOp a.eval ⟨dd,.slice t x (some y) none none,ty,pos,af,gd⟩=(Instr.sliceAt t (.pointer (some ⟨g,o',none⟩)) (some (.int k l)) none none >>= fun v=>pure (Next.value v)):=by
   simp [execOp,ha.ev hx,ha.ev ey]
  refine execOp_val' e1 ?_
  simp [Instr.sliceAt,Instr.sureAddr,Instr.sliceBounds,run_underlying ht,sizeOf,typeInfo,hi',hs,hsz,run_sliceBound w k l N _ (by omega) (by omega)]
  split<;>rfl
 ·have e1:execOp a.eval ⟨dd,.slice t x (some y) (some z) none,ty,pos,af,gd⟩=(Instr.sliceAt t (.pointer (some ⟨g,o',none⟩)) (some (.int k l)) (some (.int k' h)) none >>= fun v=>pure (Next.value v)):=by
   simp [execOp,ha.ev hx,ha.ev ey,ha.ev ez]
  refine execOp_val' e1 ?_
  simp [Instr.sliceAt,Instr.sureAddr,Instr.sliceBounds,run_underlying ht,sizeOf,typeInfo,hi',hs,hsz,run_sliceBound w k' h N _ (by omega) (by omega),run_sliceBound w k l h.toNat _ (by omega) (by omega)]
  split<;>rfl
end
end Go.E
