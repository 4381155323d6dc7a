/- The rules by which these proofs step through the code, part Q. -/
import Derived.Test.YtinakhioihhgfaaGreatDoorEngO
set_option linter.unusedVariables false
set_option linter.unusedSimpArgs false
namespace Go.E
open Go.RowKit
section
variable {P:Program} {n d:Nat} {ops:Array Oper} {Q:Exit→Act→World→Prop} {w w':World} {a:Act} {env:Env} {rest:List Oper} {o:Oper} {v:Value}
 {dd:Option Tmp} {ty:TypeId} {pos:String} {af:Array Edge} {gd:Option (Nat×Bool)}
theorem clc {f:FuncId} {fx:Operand} {cs:Array Value} {xs:Array Operand} {tys:Array TypeId} {vals:List Value} {R:Value→World→Prop} (ha:Has a n env) (hf:ev env fx=some (.func (.func f) #[] cs))
  (hv:xs.toList.map (ev env)=vals.map some) (hB:bodyB P f=true)
  (hg:gok ops env gd=some true) (hd:dd=some d) (hdn:Nat.blt d n=true) (hC:To P f (vals++cs.toList) w R)
  (hk:∀ v w',R v w'→∀ a',Has a' n ((d,v)::env)→wpList P ops Q rest a' w') :
  wpList P ops Q (⟨dd,.call ⟨.value fx,xs,tys⟩,ty,pos,af,gd⟩::rest) a w:=by
 have hargs:=args_eq ha hv
 have hrun:(execOp a.eval ⟨dd,.call ⟨.value fx,xs,tys⟩,ty,pos,af,gd⟩).run P w=.ok (.enter f (vals++cs.toList).toArray) w:=by
  have e:execOp a.eval ⟨dd,.call ⟨.value fx,xs,tys⟩,ty,pos,af,gd⟩=callFunc f (vals++cs.toList).toArray:=by
   have e2:(vals++cs.toList).toArray=vals.toArray++cs:=by simp
   rw [e2]
   simp [execOp,resolve,ha.ev hf,Deferred.ofValue,invoke,hargs]
  rw [e];exact run_callFunc hB _ w
 unfold wpList
 rw [if_pos (gok_wanted ha hg)]
 refine .inl ?_
 unfold Oper.wp
 rw [hrun,Oper.upon_enter]
 refine Calls.mono hC fun e w' ⟨v,he,hR⟩=>?_
 subst he
 subst hd
 exact hk v w' hR _ (ha.put hdn v)
theorem clv {f:FuncId} {fx:Operand} {xs:Array Operand} {tys:Array TypeId} {vals:List Value} {R:Value→World→Prop} (ha:Has a n env) (hf:ev env fx=some (.func (.func f) #[] #[]))
  (hv:xs.toList.map (ev env)=vals.map some) (hB:bodyB P f=true)
  (hg:gok ops env gd=some true) (hd:dd=some d) (hdn:Nat.blt d n=true) (hC:To P f vals w R)
  (hk:∀ v w',R v w'→∀ a',Has a' n ((d,v)::env)→wpList P ops Q rest a' w') :
  wpList P ops Q (⟨dd,.call ⟨.value fx,xs,tys⟩,ty,pos,af,gd⟩::rest) a w :=
 clc (cs:=#[]) ha hf hv hB hg hd hdn (by rw [show vals++(#[]:Array Value).toList=vals from List.append_nil _];exact hC) hk
end
section
variable {α:Type} {P:Program} {n d:Nat} {ops:Array Oper} {Q:Exit→Act→World→Prop} {w w':World} {a:Act} {env:Env} {rest:List Oper} {ty:TypeId} {pos:String} {af:Array Edge} {gd:Option (Nat×Bool)}
end
section
variable {α:Type} {P:Program} {n d:Nat} {ops:Array Oper} {Q:Exit→Act→World→Prop} {w w':World} {a:Act} {env:Env} {rest:List Oper} {ty:TypeId} {pos:String} {af:Array Edge} {gd:Option (Nat×Bool)} {dd:Option Tmp}
theorem Own.el {r:Rep α} {T:TypeId} {w:World} {M:List Nat} {g cap:Nat} {xs:List α} (h:Own r T w M (some ⟨g,0,none⟩) cap xs) {i:Nat} (hi:i < xs.length) :
  ∃ cs,r.R w M cs xs[i]∧∀ j v,cs[j]? = some v→w.cell? ⟨g,0+i*r.sz+j,none⟩=some v:=by
 rcases h with ⟨h0,_⟩ | ⟨g',cur,e',hgM,hb,hsz2,h2,h3,hl⟩
 ·cases h0
 cases e'
 refine ⟨_,hl.get i hi,fun j v hv=>?_⟩
 rw [cell_of_row w g _ cur T (0,0) hb]
 rw [List.getElem?_take] at hv
 split at hv
 ·rw [List.getElem?_drop,List.getElem?_take] at hv
  split at hv
  ·rw [← Array.getElem?_toList,Nat.zero_add]
   exact hv
  ·cases hv
 ·cases hv
theorem Own.elem {r:Rep α} {T:TypeId} {M:List Nat} {ao:Option Addr} {cap:Nat} {xs:List α} (h:Own r T w M ao cap xs) (i:Nat) (hi:i < xs.length) :
  ∃ g o cs,ao=some ⟨g,o,none⟩∧g∉([]:List Nat)∧r.R w M cs xs[i]∧∀ j v,cs[j]? = some v→w.cell? ⟨g,o+i*r.sz+j,none⟩=some v:=by
 obtain ⟨g,rfl⟩:=Own.addr h hi
 obtain ⟨cs,h1,h2⟩:=Own.el h hi
 exact ⟨g,0,cs,rfl,(fun h=>nomatch h),h1,h2⟩
end
section
/-! drawn regions whose loads come ahead of a store m, and some pure operations perhaps behind it -/
section
variable {P:Program} {ops:Array Oper} {Q:Exit→Act→World→Prop} {S:Array Bool→World→Prop}
def wpAnyL (P:Program) (ops:Array Oper) (Q:Exit→Act→World→Prop) (S:Array Bool→World→Prop):Nat→Array Bool→Act→World→Prop
 | 0,listed,a,w=>Region.ready .any ops listed=[]∧Q .normal a w
 | fuel+1,listed,a,w =>
  (Region.ready .any ops listed=[]→Q .normal a w) ∧
  ∀ i∈Region.ready .any ops listed,wpOp P ops Q i (fun a' w'=>S (listed.setIfInBounds i true) w'∧wpAnyL P ops Q S fuel (listed.setIfInBounds i true) a' w') a w
theorem wpAny_of_L:∀ (fuel:Nat) (listed:Array Bool) (a:Act) (w:World),wpAnyL P ops Q S fuel listed a w→wpAny P .any ops Q fuel listed a w
 | 0,_,_,_,h=>h
 | fuel+1,_,_,_,h=>⟨h.1,fun i hi=>wpOp_mono (fun a' w' h'=>wpAny_of_L fuel _ a' w' h'.2) (h.2 i hi)⟩
def Cl (ops:Array Oper) (listed:Array Bool):Prop:=∀ j o,ops[j]? = some o→listed.getD j false=true→∀ e∈o.after,Region.binds .any e=true→listed.getD e.on false=true
theorem gD {listed:Array Bool} {j:Nat} (h:listed.getD j true=false):listed.getD j false=false:=by
 rw [Array.getD_eq_getD_getElem?] at *
 cases hj:listed[j]? with
 | none=>rfl
 | some b=>rw [hj] at h;exact h
theorem Cl.set {listed:Array Bool} {j:Nat} (h:Cl ops listed) (hr:j∈Region.ready .any ops listed):Cl ops (listed.setIfInBounds j true):=by
 intro k o ho hl e he hb
 refine getD_set_true ?_
 by_cases hjk:j=k
 ·subst hjk
  obtain ⟨_,o',ho',hall⟩:=mem_ready.1 hr
  rw [ho] at ho'
  cases ho'
  exact hall e he hb
 ·rw [getD_set_ne false hjk] at hl
  exact h k o ho hl e he hb
theorem firstL {i:Nat} {oi:Oper} {v:Value} (hi:ops[i]? = some oi) (hsel:∀ (j:Nat) (o:Oper) cs b,ops[j]? = some o→o.op≠.select cs b)
  (hQ:∀ c a w,Q (.panic c) (a.put oi.dst v) w→Q (.panic c) a w) (hSi:∀ l w,S (l.setIfInBounds i true) w↔S l w) :
  ∀ (fuel:Nat) (listed:Array Bool) (a:Act) (w:World),
   (∀ j oj,ops[j]? = some oj→j≠i→listed.getD j true=false→(∀ e∈oj.after,Region.binds .any e=true→e.on≠i)→oi.apart ops oj=true) →
   i∈Region.ready .any ops listed→Cl ops listed→YieldsIf P ops (fun w=>∃ l,Cl ops l∧l.getD i true=false∧S l w) oi v a→S listed w →
   wpAnyL P ops Q S fuel (listed.setIfInBounds i true) (a.put oi.dst v) w→wpAnyL P ops Q S (fuel+1) listed a w:=by
 intro fuel
 induction fuel with
 | zero =>
  intro listed a w _ hr hcl hy hS H
  refine ⟨fun h=>(by rw [h] at hr;cases hr),fun j hj=>?_⟩
  by_cases hji:j=i
  ·subst hji;exact hy.wpOp hi ⟨listed,hcl,(mem_ready.1 hr).1,hS⟩ ⟨(hSi _ _).2 hS,H⟩
  ·have:=ready_mono hj hji
   rw [H.1] at this
   cases this
 | succ fuel ih =>
  intro listed a w hfree hr hcl hy hS H
  refine ⟨fun h=>(by rw [h] at hr;cases hr),fun j hj=>?_⟩
  by_cases hji:j=i
  ·subst hji;exact hy.wpOp hi ⟨listed,hcl,(mem_ready.1 hr).1,hS⟩ ⟨(hSi _ _).2 hS,H⟩
  ·have h1:=H.2 j (ready_mono hj hji)
   obtain ⟨hjun,oj,hoj,hall⟩:=mem_ready.1 hj
   have hnot:∀ e∈oj.after,Region.binds .any e=true→e.on≠i:=fun e he hb heq=>by
    have h1:=hall e he hb
    have h0:=gD (mem_ready.1 hr).1
    rw [heq,h0] at h1
    cases h1
   have h2:=wpOp_putIf hoj (hfree j oj hoj hji hjun hnot) (fun cs b=>hsel i oi cs b hi) (fun cs b=>hsel j oj cs b hoj) hQ hy h1
   have hfree':∀ k ok,ops[k]? = some ok→k≠i→(listed.setIfInBounds j true).getD k true=false →
     (∀ e∈ok.after,Region.binds .any e=true→e.on≠i)→oi.apart ops ok=true:=fun k ok hk hki hun hno=>by
    refine hfree k ok hk hki ?_ hno
    by_cases hjk:j=k
    ·subst hjk;exact hjun
    ·rw [getD_set_ne true hjk] at hun;exact hun
   refine wpOp_mono (fun a' w' h3=>?_) h2
   have e:(listed.setIfInBounds i true).setIfInBounds j true=(listed.setIfInBounds j true).setIfInBounds i true:=Array.setIfInBounds_comm _ _ (Ne.symm hji)
   have h4:=h3.2
   rw [e] at h4
   have hS':=(hSi _ _).1 h4.1
   exact ⟨hS',ih (listed.setIfInBounds j true) a' w' hfree' (ready_mono hr (Ne.symm hji)) (hcl.set hj) h3.1 hS' h4.2⟩
end
section
variable {P:Program} {n d m:Nat} {ops:Array Oper} {Q:Exit→Act→World→Prop} {w w':World} {C:World→Prop} {a:Act} {env:Env} {o:Oper} {v:Value} {fuel:Nat} {listed:Array Bool}
def SM (m:Nat) (C:World→Prop) (l:Array Bool) (w:World):Prop:=l.getD m false=false→C w
def clB (ops:Array Oper) (listed:Array Bool):Bool:=(List.range ops.size).all fun j=>match ops[j]? with | some o=>!listed.getD j false || o.after.toList.all fun e=>!Region.binds .any e || listed.getD e.on false | none=>true
theorem clB_spec (h:clB ops listed=true):Cl ops listed:=by
 intro j o ho hl e he hb
 have hj:j < ops.size:=(Array.getElem?_eq_some_iff.1 ho).1
 have h1:=List.all_eq_true.1 h j (List.mem_range.2 hj)
 simp only [ho,hl,Bool.not_true,Bool.false_or] at h1
 have h2:=List.all_eq_true.1 h1 e (Array.mem_toList_iff.2 he)
 rw [hb] at h2
 simpa using h2
def depB (ops:Array Oper) (m i:Nat):Bool:=match ops[m]? with | some o=>o.after.toList.any fun e=>Region.binds .any e && e.on==i | none=>false
theorem SM_ins {i:Nat} (h:i≠m) (l:Array Bool) (w:World):SM m C (l.setIfInBounds i true) w↔SM m C l w:=by
 unfold SM;rw [getD_set_ne false h]
def depT (ops:Array Oper):Nat→Nat→Nat→Bool
 | 0,_,_=>false
 | f+1,m,i=>match ops[m]? with | some o=>o.after.toList.any fun e=>Region.binds .any e && (e.on==i || depT ops f e.on i) | none=>false
theorem depT_spec {l:Array Bool} (hl:Cl ops l):∀ (f m i:Nat),depT ops f m i=true→l.getD m false=true→l.getD i false=true
 | 0,_,_,h,_=>by cases h
 | f+1,m,i,h,hm=>by
  unfold depT at h
  cases hom:ops[m]? with
  | none=>rw [hom] at h;cases h
  | some om =>
   rw [hom] at h
   obtain ⟨e,he,hb⟩:=List.any_eq_true.1 h
   simp only [Bool.and_eq_true,Bool.or_eq_true,beq_iff_eq] at hb
   have h1:=hl m om hom hm e (Array.mem_toList_iff.1 he) hb.1
   rcases hb.2 with h2 | h2
   ·rw [h2] at h1;exact h1
   ·exact depT_spec hl f e.on i h2 h1
theorem drl {id:Nat} (m:Nat) (hm:P.follows .mixedOrders=true)
  (h:∀ w1,Chg [] w w1→wpAnyL P ops Q (SM m (fun w'=>Chg [] w1 w')) ops.size (Array.replicate ops.size false) a w1):(Code.region id ops true).wp P Q a w :=
 wp_region_any hm (wpAny_of_L _ _ _ _ (h _ ⟨rfl,rfl,rfl,Nat.le_refl _,fun _ _ _=>rfl⟩))
theorem tlp (i:Nat) (k:Nat) (v:Value) (ha:Has a n env) (hC:C w) (hv:hval P (up env) [] k o.op=some v:=by kernel_rfl) (hi:ops[i]? = some o:=by rfl) (hs:Region.noSelect ops=true:=by kernel_rfl) (hf:Region.free .any ops listed i=true:=by kernel_rfl) (hr:(Region.ready .any ops listed).contains i=true:=by kernel_rfl)
  (hd:o.dst=some d:=by rfl) (hdn:Nat.blt d n=true:=by rfl) (hg:gok ops env o.guard=some true:=by rfl) (hQ:∀ c a w,Q (.panic c) (a.put o.dst v) w→Q (.panic c) a w:=by exact fun _ _ _ h=>h)
  (him:Nat.beq i m=false:=by rfl) (hcl:clB ops listed=true:=by kernel_rfl)
  (hk:∀ a',Has a' n ((d,v)::env)→wpAnyL P ops Q (SM m C) fuel (listed.setIfInBounds i true) a' w):wpAnyL P ops Q (SM m C) (fuel+1) listed a w :=
 firstL hi (Region.noSelect_spec hs) hQ (SM_ins (Nat.ne_of_beq_eq_false him)) fuel listed a w (Region.free_spec hi hf) (by simpa using hr) (clB_spec hcl)
  (.inl ⟨gok_wanted ha hg,fun w' _=>hval_run ha.toG (fun p hp=>by cases hp) hv w'⟩) (fun _=>hC) (by rw [hd];exact hk _ (ha.put hdn v))
theorem tl (i:Nat) (ha:Has a n env) (hC:C w) (hi:ops[i]? = some o) (hy:∀ w',C w'→(execOp a.eval o).run P w'=.ok (.value v) w') (hs:Region.noSelect ops=true:=by kernel_rfl) (hf:Region.free .any ops listed i=true:=by kernel_rfl) (hr:(Region.ready .any ops listed).contains i=true:=by kernel_rfl)
  (hd:o.dst=some d:=by rfl) (hdn:Nat.blt d n=true:=by rfl) (hg:gok ops env o.guard=some true:=by rfl) (hQ:∀ c a w,Q (.panic c) (a.put o.dst v) w→Q (.panic c) a w:=by exact fun _ _ _ h=>h)
  (him:Nat.beq i m=false:=by rfl) (hcl:clB ops listed=true:=by kernel_rfl) (hdp:depB ops m i=true:=by kernel_rfl)
  (hk:∀ a',Has a' n ((d,v)::env)→wpAnyL P ops Q (SM m C) fuel (listed.setIfInBounds i true) a' w):wpAnyL P ops Q (SM m C) (fuel+1) listed a w :=
 firstL hi (Region.noSelect_spec hs) hQ (SM_ins (Nat.ne_of_beq_eq_false him)) fuel listed a w (Region.free_spec hi hf) (by simpa using hr) (clB_spec hcl)
  (.inl ⟨gok_wanted ha hg,fun w' ⟨l,hl,hu,hS⟩=>hy w' (hS (by
   cases hm:l.getD m false with
   | false=>rfl
   | true =>
    unfold depB at hdp
    cases hom:ops[m]? with
    | none=>rw [hom] at hdp;cases hdp
    | some om =>
     rw [hom] at hdp
     obtain ⟨e,he,hb⟩:=List.any_eq_true.1 hdp
     simp only [Bool.and_eq_true,beq_iff_eq] at hb
     have:=hl m om hom hm e (Array.mem_toList_iff.1 he) hb.1
     rw [hb.2,gD hu] at this
     cases this))⟩) (fun _=>hC) (by rw [hd];exact hk _ (ha.put hdn v))
theorem tlt (i:Nat) (ha:Has a n env) (hC:C w) (hi:ops[i]? = some o) (hy:∀ w',C w'→(execOp a.eval o).run P w'=.ok (.value v) w') (hs:Region.noSelect ops=true:=by kernel_rfl) (hf:Region.free .any ops listed i=true:=by kernel_rfl) (hr:(Region.ready .any ops listed).contains i=true:=by kernel_rfl)
  (hd:o.dst=some d:=by rfl) (hdn:Nat.blt d n=true:=by rfl) (hg:gok ops env o.guard=some true:=by rfl) (hQ:∀ c a w,Q (.panic c) (a.put o.dst v) w→Q (.panic c) a w:=by exact fun _ _ _ h=>h)
  (him:Nat.beq i m=false:=by rfl) (hcl:clB ops listed=true:=by kernel_rfl) (hdp:depT ops ops.size m i=true:=by kernel_rfl)
  (hk:∀ a',Has a' n ((d,v)::env)→wpAnyL P ops Q (SM m C) fuel (listed.setIfInBounds i true) a' w):wpAnyL P ops Q (SM m C) (fuel+1) listed a w :=
 firstL hi (Region.noSelect_spec hs) hQ (SM_ins (Nat.ne_of_beq_eq_false him)) fuel listed a w (Region.free_spec hi hf) (by simpa using hr) (clB_spec hcl)
  (.inl ⟨gok_wanted ha hg,fun w' ⟨l,hl,hu,hS⟩=>hy w' (hS (by
   cases hm:l.getD m false with
   | false=>rfl
   | true =>
    have:=depT_spec hl _ m i hdp hm
    rw [gD hu] at this
    cases this))⟩) (fun _=>hC) (by rw [hd];exact hk _ (ha.put hdn v))
theorem al3 (i:Nat) (hr:Region.ready .any ops listed=[i]:=by kernel_rfl) (hi:ops[i]? = some o:=by rfl)
  (h:∀ K:Act→World→Prop,(∀ a' w',C w'→wpAnyL P ops Q (SM m C) fuel (listed.setIfInBounds i true) a' w'→K a' w')→wpList P ops (Exit.then K Q) [o] a w) :
  wpAnyL P ops Q (SM m C) (fuel+1) listed a w :=
 ⟨fun h0=>absurd (hr ▸ h0) (by simp),hr ▸ fun j hj=>by
  simp at hj;subst hj
  exact wpOp_of_list hi (h _ fun a' w' hc h1=>⟨fun _=>hc,h1⟩)⟩
theorem al2 (i:Nat) (hr:Region.ready .any ops listed=[i]:=by kernel_rfl) (hi:ops[i]? = some o:=by rfl) (hL:(listed.setIfInBounds i true).getD m false=true:=by kernel_rfl)
  (h:∀ K:Act→World→Prop,(∀ a' w',wpAnyL P ops Q (SM m C) fuel (listed.setIfInBounds i true) a' w'→K a' w')→wpList P ops (Exit.then K Q) [o] a w) :
  wpAnyL P ops Q (SM m C) (fuel+1) listed a w :=
 ⟨fun h0=>absurd (hr ▸ h0) (by simp),hr ▸ fun j hj=>by
  simp at hj;subst hj
  exact wpOp_of_list hi (h _ fun a' w' h1=>⟨fun h0=>(by rw [hL] at h0;cases h0),h1⟩)⟩
theorem dl (h:Q .normal a w) (hr:Region.ready .any ops listed=[]:=by kernel_rfl):wpAnyL P ops Q (SM m C) fuel listed a w:=by
 cases fuel with
 | zero=>exact ⟨hr,h⟩
 | succ f=>exact ⟨fun _=>h,by rw [hr];simp⟩
end
end
end Go.E
