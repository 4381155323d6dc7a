/- The rules by which these proofs step through the code, part Q. -/
import Derived.Test.YtokpdmehkfmmiaaEngO
set_option linter.unusedVariables false
set_option linter.unusedSimpArgs false
namespace Go.E
open Go.RowKit
section
variable {P:Program} {n d:Nat} {ops:Array Oper} {Q:Exit→Act→World→Prop} {w w':World} {a:Act} {env:Env} {rest:List Oper} {o:Oper} {v:Value}
 {dd:Option Tmp} {ty:TypeId} {pos:String} {af:Array Edge} {gd:Option (Nat×Bool)}
end
section
variable {α:Type} {P:Program} {n d:Nat} {ops:Array Oper} {Q:Exit→Act→World→Prop} {w w':World} {a:Act} {env:Env} {rest:List Oper} {ty:TypeId} {pos:String} {af:Array Edge} {gd:Option (Nat×Bool)}
theorem stS {r:Rep α} {t T:TypeId} {x y:Operand} {M:List Nat} {g cap i:Nat} {xs:List α} {z:α} {l:List Value} {ad:Addr} (ha:Has a n env) (hx:ev env x=some (.pointer (some ad))) (he:ad=⟨g,i*r.sz,none⟩) (hy:ev env y=some (.agg l.toArray))
  (hsz:((P.info? t).map (·.size))=some l.length) (h1:l.all (·.oneCell')=true) (hg:gok ops env gd=some true) (hO:Own r T w M (some ⟨g,0,none⟩) cap xs) (hi:i < xs.length) (hl:l.length=r.sz) (hv:∀ w',Chg [g] w w'→r.R w' M l z)
  (hk:∀ a' w',Has a' n env→Own r T w' M (some ⟨g,0,none⟩) cap (xs.set i z)→Chg [g] w w'→wpList P ops Q rest a' w'):wpList P ops Q (⟨none,.store t x y,ty,pos,af,gd⟩::rest) a w:=by
 subst he
 rcases id hO with ⟨h0,_⟩ | ⟨g',cur,e',hgM,hb,hsz2,h2,h3,hl2⟩
 ·cases h0
 cases e'
 obtain ⟨inf,hinf,hs⟩:=Option.map_eq_some_iff.1 hsz
 have hm:i*r.sz+r.sz≤xs.length*r.sz:=by
  have:=Nat.mul_le_mul_right r.sz (show i+1≤xs.length from hi)
  rwa [Nat.add_mul,Nat.one_mul] at this
 have hm2:xs.length*r.sz≤cur.size:=by rw [hsz2];exact Nat.mul_le_mul_right _ h2
 have hst:=run_storeCells_at P g (i*r.sz) T l 0 cur w hb (by simp;omega) (fun v hv=>List.all_eq_true.1 h1 v hv)
 rw [Nat.add_zero] at hst
 have hrun:(Instr.storeAt t (.pointer (some ⟨g,i*r.sz,none⟩)) (.agg l.toArray)).run P w=.ok () (w.setRow g (cur.toList.take (i*r.sz)++l++cur.toList.drop (i*r.sz+l.length)).toArray):=by
  have hvc:(Value.agg l.toArray).cells=l.toArray:=rfl
  simp [Instr.storeAt,Instr.sureAddr,storeVar,sizeOf,typeInfo,hinf,hs,hvc,hst]
 have hheap:(w.setRow g (cur.toList.take (i*r.sz)++l++cur.toList.drop (i*r.sz+l.length)).toArray).heap[g]? = some (.cells (cur.toList.take (i*r.sz)++l++cur.toList.drop (i*r.sz+l.length)).toArray T (0,0)):=setRow_heap w g _ _ T _ hb
 have hc:Chg [g] w (w.setRow g (cur.toList.take (i*r.sz)++l++cur.toList.drop (i*r.sz+l.length)).toArray):=by
  refine ⟨rfl,rfl,rfl,by simp [World.setRow],?_⟩
  intro k hk' hn
  simp only [World.setRow,Array.getElem?_modify]
  rw [if_neg (fun e=>hn (by simp [e]))]
 refine hops (o:=⟨none,.store t x y,ty,pos,af,gd⟩) (w':=w.setRow g (cur.toList.take (i*r.sz)++l++cur.toList.drop (i*r.sz+l.length)).toArray) ha hg rfl ?_ ?_
 ·simp [execOp,ha.ev hx,ha.ev hy,hrun]
 ·intro a' ha'
  refine hk a' _ ha' (.inr ⟨g,_,rfl,hgM,hheap,?_,by simpa using h2,h3,?_⟩) hc
  ·have hcl:cur.toList.length=cur.size:=by simp
   simp only [List.size_toArray,List.length_append,List.length_take,List.length_drop,hcl,hl]
   omega
  ·have h5:=hl2.chg hc (Ok.one (.inl hgM)) (Ok.refl _ _)
   have h6:=RL.set h5 i hi (hv _ hc)
   rw [List.length_set]
   have e1:(cur.toList.take (xs.length*r.sz)).take (i*r.sz)=cur.toList.take (i*r.sz):=by
    rw [List.take_take,Nat.min_eq_left (by omega)]
   have e2:(cur.toList.take (xs.length*r.sz)).drop (i*r.sz+r.sz)=(cur.toList.drop (i*r.sz+r.sz)).take (xs.length*r.sz - (i*r.sz+r.sz)):=List.drop_take
   rw [e1,e2] at h6
   have e3:(cur.toList.take (i*r.sz)++l).length=i*r.sz+r.sz:=by
    have hcl:cur.toList.length=cur.size:=by simp
    rw [List.length_append,List.length_take,hl,Nat.min_eq_left (by omega)]
   have e4:(cur.toList.take (i*r.sz)++l++cur.toList.drop (i*r.sz+r.sz)).take (xs.length*r.sz)=cur.toList.take (i*r.sz)++l++(cur.toList.drop (i*r.sz+r.sz)).take (xs.length*r.sz - (i*r.sz+r.sz)):=by
    rw [List.take_append,e3,List.take_of_length_le (by omega)]
   have e5:(cur.toList.take (i*r.sz)++l++cur.toList.drop (i*r.sz+l.length)).take (xs.length*r.sz)=cur.toList.take (i*r.sz)++l++(cur.toList.drop (i*r.sz+r.sz)).take (xs.length*r.sz - (i*r.sz+r.sz)):=by rw [hl];exact e4
   rw [List.toList_toArray,e5]
   exact h6
end
section
variable {α:Type} {P:Program} {n d:Nat} {ops:Array Oper} {Q:Exit→Act→World→Prop} {w w':World} {a:Act} {env:Env} {rest:List Oper} {ty:TypeId} {pos:String} {af:Array Edge} {gd:Option (Nat×Bool)} {dd:Option Tmp}
theorem Own.el {r:Rep α} {T:TypeId} {w:World} {M:List Nat} {g cap:Nat} {xs:List α} (h:Own r T w M (some ⟨g,0,none⟩) cap xs) {i:Nat} (hi:i < xs.length) :
  ∃ cs,r.R w M cs xs[i]∧∀ j v,cs[j]? = some v→w.cell? ⟨g,0+i*r.sz+j,none⟩=some v:=by
 rcases h with ⟨h0,_⟩ | ⟨g',cur,e',hgM,hb,hsz2,h2,h3,hl⟩
 ·cases h0
 cases e'
 refine ⟨_,hl.get i hi,fun j v hv=>?_⟩
 rw [cell_of_row w g _ cur T (0,0) hb]
 rw [List.getElem?_take] at hv
 split at hv
 ·rw [List.getElem?_drop,List.getElem?_take] at hv
  split at hv
  ·rw [← Array.getElem?_toList,Nat.zero_add]
   exact hv
  ·cases hv
 ·cases hv
theorem Own.inM {r:Rep α} {T:TypeId} {w:World} {M:List Nat} {g cap:Nat} {xs:List α} (h:Own r T w M (some ⟨g,0,none⟩) cap xs):g∈M:=by
 rcases h with ⟨h0,_⟩ | ⟨g',cur,e',hgM,_⟩
 ·cases h0
 ·cases e';exact hgM
theorem Own.inM' {r:Rep α} {T:TypeId} {w:World} {M:List Nat} {ao:Option Addr} {cap:Nat} {xs:List α} (h:Own r T w M ao cap xs):∀ g∈blkL ao,g∈M:=by
 intro g hg
 rcases h with ⟨rfl,_⟩ | ⟨g',cur,rfl,hgM,_⟩
 ·cases hg
 ·simp [blkL] at hg;subst hg;exact hgM
theorem Own.elem {r:Rep α} {T:TypeId} {M:List Nat} {ao:Option Addr} {cap:Nat} {xs:List α} (h:Own r T w M ao cap xs) (i:Nat) (hi:i < xs.length) :
  ∃ g o cs,ao=some ⟨g,o,none⟩∧g∉([]:List Nat)∧r.R w M cs xs[i]∧∀ j v,cs[j]? = some v→w.cell? ⟨g,o+i*r.sz+j,none⟩=some v:=by
 obtain ⟨g,rfl⟩:=Own.addr h hi
 obtain ⟨cs,h1,h2⟩:=Own.el h hi
 exact ⟨g,0,cs,rfl,(fun h=>nomatch h),h1,h2⟩
theorem Own.elE {r:Rep α} {T:TypeId} {M:List Nat} {ao:Option Addr} {g cap:Nat} {xs:List α} (h:Own r T w M ao cap xs) (e:ao=some ⟨g,0,none⟩) {i:Nat} (hi:i < xs.length) :
  ∃ cs,r.R w M cs xs[i]∧∀ j v,cs[j]? = some v→w.cell? ⟨g,0+i*r.sz+j,none⟩=some v:=by
 subst e;exact Own.el h hi
theorem stP {r:Rep α} {t T:TypeId} {x y:Operand} {M:List Nat} {ao:Option Addr} {g cap i:Nat} (off:Nat) {xs:List α} {z:α} {cs l:List Value} {ad:Addr} {v:Value} (ha:Has a n env) (hx:ev env x=some (.pointer (some ad))) (he:ad=⟨g,0+i*r.sz+off,none⟩) (hy:ev env y=some v)
  (hsz:((P.info? t).map (·.size))=some 1) (h1:v.oneCell'=true) (hg:gok ops env gd=some true) (hO:Own r T w M ao cap xs) (e:ao=some ⟨g,0,none⟩) (hi:i < xs.length)
  (hE:∀ j u,cs[j]? = some u→w.cell? ⟨g,0+i*r.sz+j,none⟩=some u) (hcl:cs.length=r.sz) (hl:l=cs.take off++[v]++cs.drop (off+1)) (ho:off < cs.length) (hv:r.R w M l z)
  (hk:∀ a' w',Has a' n env→Own r T w' M ao cap (xs.set i z)→Chg (blkL ao) w w'→wpList P ops Q rest a' w'):wpList P ops Q (⟨none,.store t x y,ty,pos,af,gd⟩::rest) a w:=by
 subst e he
 rw [Nat.zero_add] at hx
 rcases id hO with ⟨h0,_⟩ | ⟨g',cur,e',hgM,hb,hsz2,h2,h3,hl2⟩
 ·cases h0
 cases e'
 have hm:i*r.sz+r.sz≤xs.length*r.sz:=by
  have:=Nat.mul_le_mul_right r.sz (show i+1≤xs.length from hi)
  rwa [Nat.add_mul,Nat.one_mul] at this
 have hm2:xs.length*r.sz≤cur.size:=by rw [hsz2];exact Nat.mul_le_mul_right _ h2
 have hcz:cur.toList.length=cur.size:=by simp
 have hic:i*r.sz+off < cur.toList.length:=by omega
 obtain ⟨inf,hinf,hs⟩:=Option.map_eq_some_iff.1 hsz
 have hvc:v.cells=#[v]:=by cases v<;>first | rfl | simp [Value.oneCell'] at h1
 have hst:=run_storeCells_at P g (i*r.sz+off) T [v] 0 cur w hb (by simp;omega) (by simpa using h1)
 have e0:(cur.toList.take (i*r.sz+off+0)++[v]++cur.toList.drop (i*r.sz+off+0+[v].length))=cur.toList.set (i*r.sz+off) v:=by
  rw [List.set_eq_take_append_cons_drop,if_pos hic];simp
 rw [e0] at hst
 have hcs:(cur.toList.drop (i*r.sz)).take r.sz=cs:=by
  apply List.ext_getElem?
  intro j
  rw [List.getElem?_take]
  by_cases hj:j < r.sz
  ·rw [if_pos hj,List.getElem?_drop,List.getElem?_eq_getElem (l:=cs) (by omega)]
   have:=hE j _ (List.getElem?_eq_getElem (by omega))
   rw [cell_of_row w g _ cur T (0,0) hb,Nat.zero_add] at this
   rw [Array.getElem?_toList];exact this
  ·rw [if_neg hj,List.getElem?_eq_none (by omega)]
 have hll:l.length=r.sz:=by
  rw [hl]
  simp only [List.length_append,List.length_take,List.length_drop,List.length_cons,List.length_nil]
  omega
 have e1:cur.toList.set (i*r.sz+off) v=cur.toList.take (i*r.sz)++l++cur.toList.drop (i*r.sz+r.sz):=by
  rw [List.set_eq_take_append_cons_drop,if_pos hic,hl,← hcs,List.take_take,Nat.min_eq_left (by omega),List.drop_take,List.drop_drop,List.take_add]
  have e2:(cur.toList.drop (i*r.sz+(off+1))).take (r.sz - (off+1))++cur.toList.drop (i*r.sz+r.sz)=cur.toList.drop (i*r.sz+(off+1)):=by
   have:=List.take_append_drop (r.sz - (off+1)) (cur.toList.drop (i*r.sz+(off+1)))
   rwa [List.drop_drop,show i*r.sz+(off+1)+(r.sz - (off+1))=i*r.sz+r.sz by omega] at this
  simp only [List.append_assoc,List.cons_append,List.nil_append]
  rw [e2,Nat.add_assoc]
 have hrun:(Instr.storeAt t (.pointer (some ⟨g,i*r.sz+off,none⟩)) v).run P w=.ok () (w.setRow g (cur.toList.set (i*r.sz+off) v).toArray):=by
  simp [Instr.storeAt,Instr.sureAddr,storeVar,sizeOf,typeInfo,hinf,hs,hvc,hst]
 have hheap:(w.setRow g (cur.toList.set (i*r.sz+off) v).toArray).heap[g]? = some (.cells (cur.toList.set (i*r.sz+off) v).toArray T (0,0)):=setRow_heap w g _ _ T _ hb
 have hc:Chg [g] w (w.setRow g (cur.toList.set (i*r.sz+off) v).toArray):=by
  refine ⟨rfl,rfl,rfl,by simp [World.setRow],?_⟩
  intro k hk' hn
  simp only [World.setRow,Array.getElem?_modify]
  rw [if_neg (fun e=>hn (by simp [e]))]
 refine hops (o:=⟨none,.store t x y,ty,pos,af,gd⟩) (w':=w.setRow g (cur.toList.set (i*r.sz+off) v).toArray) ha hg rfl ?_ ?_
 ·simp [execOp,ha.ev hx,ha.ev hy,hrun]
 ·intro a' ha'
  refine hk a' _ ha' (.inr ⟨g,_,rfl,hgM,hheap,by simpa using hsz2,by simpa using h2,h3,?_⟩) hc
  have h5:=hl2.chg hc (Ok.one (.inl hgM)) (Ok.refl _ _)
  have h6:=RL.set h5 i hi (r.chg hv hc (Ok.one (.inl hgM)) (Ok.refl _ _))
  have e3:(cur.toList.take (xs.length*r.sz)).take (i*r.sz)=cur.toList.take (i*r.sz):=by
   rw [List.take_take,Nat.min_eq_left (by omega)]
  have e4:(cur.toList.take (xs.length*r.sz)).drop (i*r.sz+r.sz)=(cur.toList.drop (i*r.sz+r.sz)).take (xs.length*r.sz - (i*r.sz+r.sz)):=List.drop_take
  rw [e3,e4] at h6
  have e5:(cur.toList.take (i*r.sz)++l).length=i*r.sz+r.sz:=by
   rw [List.length_append,List.length_take,hll,Nat.min_eq_left (by omega)]
  have e6:(cur.toList.take (i*r.sz)++l++cur.toList.drop (i*r.sz+r.sz)).take (xs.length*r.sz)=cur.toList.take (i*r.sz)++l++(cur.toList.drop (i*r.sz+r.sz)).take (xs.length*r.sz - (i*r.sz+r.sz)):=by
   rw [List.take_append,e5,List.take_of_length_le (l:=cur.toList.take (i*r.sz)++l) (by omega)]
  rw [← e1] at e6
  show RL r _ M ((cur.toList.set (i*r.sz+off) v).take ((xs.set i z).length*r.sz)) _
  rw [List.length_set,e6]
  exact h6
end
end Go.E
