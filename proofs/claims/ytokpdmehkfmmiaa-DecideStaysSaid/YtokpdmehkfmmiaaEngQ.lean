/- The rules by which these proofs step through the code, part Q. -/
import Derived.Test.YtokpdmehkfmmiaaEngO
set_option linter.unusedVariables false
set_option linter.unusedSimpArgs false
namespace Go.E
open Go.RowKit
section
variable {P:Program} {n d:Nat} {ops:Array Oper} {Q:Exit→Act→World→Prop} {w w':World} {a:Act} {env:Env} {rest:List Oper} {o:Oper} {v:Value}
 {dd:Option Tmp} {ty:TypeId} {pos:String} {af:Array Edge} {gd:Option (Nat×Bool)}
end
section
variable {α:Type} {P:Program} {n d:Nat} {ops:Array Oper} {Q:Exit→Act→World→Prop} {w w':World} {a:Act} {env:Env} {rest:List Oper} {ty:TypeId} {pos:String} {af:Array Edge} {gd:Option (Nat×Bool)}
theorem stS {r:Rep α} {t T:TypeId} {x y:Operand} {M:List Nat} {g cap i:Nat} {xs:List α} {z:α} {l:List Value} {ad:Addr} (ha:Has a n env) (hx:ev env x=some (.pointer (some ad))) (he:ad=⟨g,i*r.sz,none⟩) (hy:ev env y=some (.agg l.toArray))
  (hsz:((P.info? t).map (·.size))=some l.length) (h1:l.all (·.oneCell')=true) (hg:gok ops env gd=some true) (hO:Own r T w M (some ⟨g,0,none⟩) cap xs) (hi:i < xs.length) (hl:l.length=r.sz) (hv:∀ w',Chg [g] w w'→r.R w' M l z)
  (hk:∀ a' w',Has a' n env→Own r T w' M (some ⟨g,0,none⟩) cap (xs.set i z)→Chg [g] w w'→wpList P ops Q rest a' w'):wpList P ops Q (⟨none,.store t x y,ty,pos,af,gd⟩::rest) a w:=by
 subst he
 rcases id hO with ⟨h0,_⟩ | ⟨g',cur,e',hgM,hb,hsz2,h2,h3,hl2⟩
 ·cases h0
 cases e'
 obtain ⟨inf,hinf,hs⟩:=Option.map_eq_some_iff.1 hsz
 have hm:i*r.sz+r.sz≤xs.length*r.sz:=by
  have:=Nat.mul_le_mul_right r.sz (show i+1≤xs.length from hi)
  rwa [Nat.add_mul,Nat.one_mul] at this
 have hm2:xs.length*r.sz≤cur.size:=by rw [hsz2];exact Nat.mul_le_mul_right _ h2
 have hst:=run_storeCells_at P g (i*r.sz) T l 0 cur w hb (by simp;omega) (fun v hv=>List.all_eq_true.1 h1 v hv)
 rw [Nat.add_zero] at hst
 have hrun:(Instr.storeAt t (.pointer (some ⟨g,i*r.sz,none⟩)) (.agg l.toArray)).run P w=.ok () (w.setRow g (cur.toList.take (i*r.sz)++l++cur.toList.drop (i*r.sz+l.length)).toArray):=by
  have hvc:(Value.agg l.toArray).cells=l.toArray:=rfl
  simp [Instr.storeAt,Instr.sureAddr,storeVar,sizeOf,typeInfo,hinf,hs,hvc,hst]
 have hheap:(w.setRow g (cur.toList.take (i*r.sz)++l++cur.toList.drop (i*r.sz+l.length)).toArray).heap[g]? = some (.cells (cur.toList.take (i*r.sz)++l++cur.toList.drop (i*r.sz+l.length)).toArray T (0,0)):=setRow_heap w g _ _ T _ hb
 have hc:Chg [g] w (w.setRow g (cur.toList.take (i*r.sz)++l++cur.toList.drop (i*r.sz+l.length)).toArray):=by
  refine ⟨rfl,rfl,rfl,by simp [World.setRow],?_⟩
  intro k hk' hn
  simp only [World.setRow,Array.getElem?_modify]
  rw [if_neg (fun e=>hn (by simp [e]))]
 refine hops (o:=⟨none,.store t x y,ty,pos,af,gd⟩) (w':=w.setRow g (cur.toList.take (i*r.sz)++l++cur.toList.drop (i*r.sz+l.length)).toArray) ha hg rfl ?_ ?_
 ·simp [execOp,ha.ev hx,ha.ev hy,hrun]
 ·intro a' ha'
  refine hk a' _ ha' (.inr ⟨g,_,rfl,hgM,hheap,?_,by simpa using h2,h3,?_⟩) hc
  ·have hcl:cur.toList.length=cur.size:=by simp
   simp only [List.size_toArray,List.length_append,List.length_take,List.length_drop,hcl,hl]
   omega
  ·have h5:=hl2.chg hc (Ok.one (.inl hgM)) (Ok.refl _ _)
   have h6:=RL.set h5 i hi (hv _ hc)
   rw [List.length_set]
   have e1:(cur.toList.take (xs.length*r.sz)).take (i*r.sz)=cur.toList.take (i*r.sz):=by
    rw [List.take_take,Nat.min_eq_left (by omega)]
   have e2:(cur.toList.take (xs.length*r.sz)).drop (i*r.sz+r.sz)=(cur.toList.drop (i*r.sz+r.sz)).take (xs.length*r.sz - (i*r.sz+r.sz)):=List.drop_take
   rw [e1,e2] at h6
   have e3:(cur.toList.take (i*r.sz)++l).length=i*r.sz+r.sz:=by
    have hcl:cur.toList.length=cur.size:=by simp
    rw [List.length_append,List.length_take,hl,Nat.min_eq_left (by omega)]
   have e4:(cur.toList.take (i*r.sz)++l++cur.toList.drop (i*r.sz+r.sz)).take (xs.length*r.sz)=cur.toList.take (i*r.sz)++l++(cur.toList.drop (i*r.sz+r.sz)).take (xs.length*r.sz - (i*r.sz+r.sz)):=by
    rw [List.take_append,e3,List.take_of_length_le (by omega)]
   have e5:(cur.toList.take (i*r.sz)++l++cur.toList.drop (i*r.sz+l.length)).take (xs.length*r.sz)=cur.toList.take (i*r.sz)++l++(cur.toList.drop (i*r.sz+r.sz)).take (xs.length*r.sz - (i*r.sz+r.sz)):=by rw [hl];exact e4
   rw [List.toList_toArray,e5]
   exact h6
end
section
variable {α:Type} {P:Program} {n d:Nat} {ops:Array Oper} {Q:Exit→Act→World→Prop} {w w':World} {a:Act} {env:Env} {rest:List Oper} {ty:TypeId} {pos:String} {af:Array Edge} {gd:Option (Nat×Bool)} {dd:Option Tmp}
theorem Own.el {r:Rep α} {T:TypeId} {w:World} {M:List Nat} {g cap:Nat} {xs:List α} (h:Own r T w M (some ⟨g,0,none⟩) cap xs) {i:Nat} (hi:i < xs.length) :
  ∃ cs,r.R w M cs xs[i]∧∀ j v,cs[j]? = some v→w.cell? ⟨g,0+i*r.sz+j,none⟩=some v:=by
 rcases h with ⟨h0,_⟩ | ⟨g',cur,e',hgM,hb,hsz2,h2,h3,hl⟩
 ·cases h0
 cases e'
 refine ⟨_,hl.get i hi,fun j v hv=>?_⟩
 rw [cell_of_row w g _ cur T (0,0) hb]
 rw [List.getElem?_take] at hv
 split at hv
 ·rw [List.getElem?_drop,List.getElem?_take] at hv
  split at hv
  ·rw [← Array.getElem?_toList,Nat.zero_add]
   exact hv
  ·cases hv
 ·cases hv
theorem Own.inM {r:Rep α} {T:TypeId} {w:World} {M:List Nat} {g cap:Nat} {xs:List α} (h:Own r T w M (some ⟨g,0,none⟩) cap xs):g∈M:=by
 rcases h with ⟨h0,_⟩ | ⟨g',cur,e',hgM,_⟩
 ·cases h0
 ·cases e';exact hgM
theorem Own.inM' {r:Rep α} {T:TypeId} {w:World} {M:List Nat} {ao:Option Addr} {cap:Nat} {xs:List α} (h:Own r T w M ao cap xs):∀ g∈blkL ao,g∈M:=by
 intro g hg
 rcases h with ⟨rfl,_⟩ | ⟨g',cur,rfl,hgM,_⟩
 ·cases hg
 ·simp [blkL] at hg;subst hg;exact hgM
theorem Own.elem {r:Rep α} {T:TypeId} {M:List Nat} {ao:Option Addr} {cap:Nat} {xs:List α} (h:Own r T w M ao cap xs) (i:Nat) (hi:i < xs.length) :
  ∃ g o cs,ao=some ⟨g,o,none⟩∧g∉([]:List Nat)∧r.R w M cs xs[i]∧∀ j v,cs[j]? = some v→w.cell? ⟨g,o+i*r.sz+j,none⟩=some v:=by
 obtain ⟨g,rfl⟩:=Own.addr h hi
 obtain ⟨cs,h1,h2⟩:=Own.el h hi
 exact ⟨g,0,cs,rfl,(fun h=>nomatch h),h1,h2⟩
end
end Go.E
