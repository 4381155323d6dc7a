/- The rules by which these proofs step through the code, part H. -/
import Derived.Test.YtnbpoeiipgcogaaGreatDoorEngG
import Derived.Deep.Quiet
import Derived.StillTail
set_option linter.unusedVariables false
set_option linter.unusedSimpArgs false
namespace Go.E
open Go.RowKit
/-! ### drawn regions whose operations, but for a tail, yield one value whatever the world of a class -/
section
variable {P:Program} {ops:Array Oper} {C:World→Prop} {md:Region.Mode}
def cut (ops:Array Oper) (n:Nat):Array Oper:=(ops.toList.take n).toArray
theorem cut_get {n i:Nat} (hi:i < n):(cut ops n)[i]? = ops[i]? := by
 simp [cut,List.getElem?_take,hi]
theorem cut_get_none {n i:Nat} (hi:¬ i < n):(cut ops n)[i]? = none:=by
 simp [cut,List.getElem?_take,hi]
def grdB (ops:Array Oper) (n:Nat):Bool:=(List.range n).all fun i=>match ops[i]? with | some o=>(match o.guard with | some (j,_)=>decide (j < n) | none=>true) | none=>true
theorem ready_cut {n i:Nat} {listed:Array Bool}:i∈Region.ready md (cut ops n) listed↔i < n∧i∈Region.ready md ops listed:=by
 rw [mem_ready,mem_ready]
 by_cases hi:i < n
 ·rw [cut_get hi];simp [hi]
 ·rw [cut_get_none hi];simp [hi]
theorem wanted_cut {n i:Nat} {o:Oper} {a:Act} (hg:grdB ops n=true) (hi:i < n) (ho:ops[i]? = some o):Region.wanted o (yielded (cut ops n) a.tmps)=Region.wanted o (yielded ops a.tmps):=by
 have h1:=List.all_eq_true.1 hg i (List.mem_range.2 hi)
 rw [ho] at h1
 unfold Region.wanted
 cases hgd:o.guard with
 | none=>rfl
 | some jw =>
  obtain ⟨j,want⟩:=jw
  simp only [hgd] at h1
  have hj:j < n:=by simpa using h1
  simp only [yielded,cut_get hj]
theorem qOp_cut {n i:Nat} {K:Act→Prop} {a:Act} (hg:grdB ops n=true) (hi:i < n) (h:qOp P (cut ops n) C i K a):qOp P ops C i K a:=by
 unfold qOp at *
 rw [cut_get hi] at h
 cases ho:ops[i]? with
 | none=>rw [ho] at h;exact h
 | some o =>
  rw [ho] at h
  simp only [wanted_cut hg hi ho] at h
  exact h
theorem wpAny_head {n:Nat} {Q:Act→Prop} {Q':Exit→Act→World→Prop} (hg:grdB ops n=true) (hs:Region.sinkB md ops n=true) (hc:Region.chainB md ops n=true) (hn:n < ops.size) {g:Nat}
  (hend:∀ (listed:Array Bool) (a:Act) (w:World) (g':Nat),g≤g'→(∀ i,i < n→listed.getD i false=true)→HeadInv md ops n listed→Q a→C w→wpAny P md ops Q' g' listed a w)
  (hstuck:∀ (listed:Array Bool),HeadInv md ops n listed→Region.ready md (cut ops n) listed=[]→∀ i,i < n→listed.getD i false=true) :
  ∀ (f:Nat) (listed:Array Bool) (a:Act) (w:World),HeadInv md ops n listed→C w→wpAnyQ P md (cut ops n) C Q f listed a→wpAny P md ops Q' (f+g) listed a w
 | 0,listed,a,w,inv,hw,h=>hend listed a w _ (Nat.le_add_left ..) (hstuck listed inv h.1) inv h.2 hw
 | f+1,listed,a,w,inv,hw,h=>by
  by_cases h0:Region.ready md (cut ops n) listed=[]
  ·exact hend listed a w _ (Nat.le_add_left ..) (hstuck listed inv h0) inv (h.1 h0) hw
  ·obtain ⟨i0,hi0⟩:∃ i,i∈Region.ready md (cut ops n) listed:=List.exists_mem_of_ne_nil _ h0
   have hi0':=ready_cut.1 hi0
   rw [show f+1+g=(f+g)+1 by omega]
   refine ⟨fun h1=>absurd hi0'.2 (by rw [h1];simp),fun i hi=>?_⟩
   have hin:i < n:=by
    rcases Nat.lt_or_ge i n with h1 | h1
    ·exact h1
    ·exact absurd hi (tail_waits hs hc hn inv _ i0 rfl hi0'.1 (mem_ready.1 hi0'.2).1 i h1)
   have hq:=qOp_cut hg hin (h.2 i (ready_cut.2 ⟨hin,hi⟩))
   exact wpOp_of_qOp hw (fun a' w' hw' hk=>wpAny_head hg hs hc hn hend hstuck f _ a' w' (inv.set hi hin) hw' hk) hq
def upB (md:Region.Mode) (ops:Array Oper) (n:Nat):Bool:=(List.range n).all fun i=>match ops[i]? with | some o=>o.after.toList.all fun e=>!Region.binds md e || decide (e.on < i) | none=>false
theorem stuck {n:Nat} (hu:upB md ops n=true) {listed:Array Bool} (inv:HeadInv md ops n listed) (h:Region.ready md (cut ops n) listed=[]):∀ i,i < n→listed.getD i false=true:=by
 intro i
 induction i using Nat.strongRecOn with
 | _ i ih =>
  intro hi
  have h1:=List.all_eq_true.1 hu i (List.mem_range.2 hi)
  cases ho:ops[i]? with
  | none=>rw [ho] at h1;cases h1
  | some o =>
   rw [ho] at h1
   cases hl:listed.getD i false with
   | true=>rfl
   | false =>
    exfalso
    have hlt:i < ops.size:=(Array.getElem?_eq_some_iff.1 ho).1
    have:i∈Region.ready md (cut ops n) listed:=by
     refine ready_cut.2 ⟨hi,mem_ready.2 ⟨getD_in (by rw [inv.size];exact hlt) hl,o,ho,fun e he hb=>?_⟩⟩
     have h2:=List.all_eq_true.1 h1 e (by simpa using he)
     simp only [hb,Bool.not_true,Bool.false_or,decide_eq_true_eq] at h2
     exact ih e.on h2 (by omega)
    rw [h] at this
    cases this
def seqFrom (md:Region.Mode) (ops:Array Oper) (n:Nat):Bool :=
 (List.range ops.size).all fun t=>decide (t < n) || match ops[t]? with | some o=>o.after.toList.all fun e=>!Region.binds md e || decide (e.on < t) | none=>false
theorem wpAny_tail {Q':Exit→Act→World→Prop} {n:Nat} (hq:seqFrom md ops n=true) (hc:Region.chainB md ops n=true):∀ (l:List Oper) (k:Nat) (listed:Array Bool) (a:Act) (w:World) (g:Nat),n≤k→(∀ j,l[j]? = ops[k+j]?)→l.length≤g →
  listed.size=ops.size→(∀ i,i < k→i < ops.size→listed.getD i false=true)→(∀ i,k≤i→i < ops.size→listed.getD i true=false)→wpList P ops Q' l a w→wpAny P md ops Q' g listed a w
 | [],k,listed,a,w,g,hnk,hl,_,hsz,hlo,hhi,h=>by
  have hk:ops.size≤k:=by
   have:=hl 0
   simp at this
   exact this
  have hr:Region.ready md ops listed=[]:=by
   cases hrd:Region.ready md ops listed with
   | nil=>rfl
   | cons i r =>
    exfalso
    obtain ⟨h1,o,ho,_⟩:=mem_ready.1 (show i∈Region.ready md ops listed by rw [hrd];simp)
    have hi:i < ops.size:=(Array.getElem?_eq_some_iff.1 ho).1
    have h2:=hlo i (by omega) hi
    have:=getD_both h1
    rw [h2] at this
    cases this
  unfold wpList at h
  exact wpAny_done hr h g
 | o::l,k,listed,a,w,0,_,_,hg,_,_,_,_=>by simp at hg
 | o::l,k,listed,a,w,g+1,hnk,hl,hg,hsz,hlo,hhi,h=>by
  have h0:ops[k]? = some o:=by simpa using (hl 0).symm
  have hks:k < ops.size:=(Array.getElem?_eq_some_iff.1 h0).1
  have hmem:∀ i,i∈Region.ready md ops listed↔i=k:=by
   ·intro i
    constructor
    ·intro hi
     obtain ⟨h1,oi,hoi,hall⟩:=mem_ready.1 hi
     have hi':i < ops.size:=(Array.getElem?_eq_some_iff.1 hoi).1
     rcases Nat.lt_trichotomy i k with hlt | heq | hgt
     ·have:=getD_both h1;rw [hlo i hlt hi'] at this;cases this
     ·exact heq
     ·exfalso
      have h2:=List.all_eq_true.1 hc i (List.mem_range.2 hi')
      simp only [Bool.or_eq_true,decide_eq_true_eq] at h2
      rcases h2 with h2 | h2
      ·omega
      ·obtain ⟨o',ho',e,he,hb,hon⟩:=Region.waitsFor_spec h2
       have:o'=oi:=Option.some.inj (ho'.symm.trans hoi)
       subst this
       have h3:=hall e he hb
       rw [hon] at h3
       have h4:=getD_both (hhi (i - 1) (by omega) (by omega))
       rw [h3] at h4;cases h4
    ·rintro rfl
     refine mem_ready.2 ⟨hhi _ (Nat.le_refl _) hks,o,h0,fun e he hb=>?_⟩
     have h2:=List.all_eq_true.1 hq i (List.mem_range.2 hks)
     rw [h0] at h2
     have hni:¬ i < n:=by omega
     simp only [hni,decide_false,Bool.false_or] at h2
     have h3:=List.all_eq_true.1 h2 e (by simpa using he)
     simp only [hb,Bool.not_true,Bool.false_or,decide_eq_true_eq] at h3
     exact hlo e.on h3 (by omega)
  refine ⟨fun h0=>absurd ((hmem k).2 rfl) (by rw [h0];simp),fun i hi=>?_⟩
  have hik:i=k:=(hmem i).1 hi
  subst hik
  have hw:wpOp P ops Q' i (wpList P ops Q' l) a w:=by unfold wpOp;simp only [h0];exact h
  refine wpOp_mono (fun a' w' h'=>wpAny_tail hq hc l (i+1) _ a' w' g (by omega) (fun j=>by have:=hl (j+1);simpa [Nat.add_assoc,Nat.add_comm 1 j] using this) (by simpa using hg) (by simp [hsz]) ?_ ?_ h') hw
  ·intro j hj hj'
   by_cases e:i=j
   ·subst e;simp [hsz,hj']
   ·rw [getD_set_ne false e];exact hlo j (by omega) hj'
  ·intro j hj hj'
   rw [getD_set_ne true (by omega)];exact hhi j (by omega) hj'
def headB (ops:Array Oper) (n:Nat):Bool :=
 grdB ops n && Region.sinkB .any ops n && Region.chainB .any ops n && decide (n < ops.size) && upB .any ops n && seqFrom .any ops n && Region.noSelect (cut ops n) && Region.lexFrom .any (cut ops n) n 0 (Array.replicate ops.size false)
theorem drqn {id:Nat} {Q:Exit→Act→World→Prop} {a:Act} {w:World} {l:List Oper} (n:Nat) (S:World→Prop) (hm:P.follows .mixedOrders=true) (hB:headB l.toArray n=true) (hS:S { w with drawn:=w.drawn+1 })
  (h:wpQuiet P l.toArray S (fun a'=>∀ w',S w'→wpList P l.toArray Q (l.drop n) a' w') (l.take n) a):(Code.region id l.toArray true).wp P Q a w:=by
 simp only [headB,Bool.and_eq_true,decide_eq_true_eq] at hB
 obtain ⟨⟨⟨⟨⟨⟨⟨hg,hs⟩,hc⟩,hn⟩,hu⟩,hq⟩,hsel⟩,hlex⟩:=hB
 have hn':n < l.length:=by simpa using hn
 have inv0:HeadInv .any l.toArray n (Array.replicate l.toArray.size false) :=
  ⟨by simp,fun j oj _ hl=>(by rw [getD_replicate_false] at hl;cases hl),fun t _ ht=>getD_in (by simpa using ht) (getD_replicate_false _ _)⟩
 have ecut:cut l.toArray n=(l.take n).toArray:=by simp [cut]
 have htl:(l.take n).length=n:=by simp;omega
 have hcq:wpQuiet P (cut l.toArray n) S (fun a'=>∀ w',S w'→wpList P l.toArray Q (l.drop n) a' w') (l.take n) a:=by
  have key:∀ (m:List Oper) (k:Nat) (a:Act),(∀ j,j < m.length→m[j]? = l[k+j]?)→k+m.length=n→wpQuiet P l.toArray S (fun a'=>∀ w',S w'→wpList P l.toArray Q (l.drop n) a' w') m a →
    wpQuiet P (cut l.toArray n) S (fun a'=>∀ w',S w'→wpList P l.toArray Q (l.drop n) a' w') m a:=by
   intro m
   induction m with
   | nil=>intro k a _ _ h;exact h
   | cons o m ih =>
    intro k a hm' hk h
    have ho:l.toArray[k]? = some o:=by
     have:=hm' 0 (by simp)
     simp only [Nat.add_zero] at this
     simpa using this.symm
    have hkn:k < n:=by simp only [List.length_cons] at hk;omega
    have hrest:∀ a,wpQuiet P l.toArray S (fun a'=>∀ w',S w'→wpList P l.toArray Q (l.drop n) a' w') m a→wpQuiet P (cut l.toArray n) S (fun a'=>∀ w',S w'→wpList P l.toArray Q (l.drop n) a' w') m a :=
     fun a h=>ih (k+1) a (fun j hj=>by have:=hm' (j+1) (by simp;omega);simpa [Nat.add_assoc,Nat.add_comm 1 j] using this) (by simp only [List.length_cons] at hk;omega) h
    unfold wpQuiet at h ⊢
    rw [wanted_cut hg hkn ho]
    split at h
    ·rename_i hw;rw [if_pos hw];exact Oper.quiet_mono hrest h
    ·rename_i hw;rw [if_neg hw];exact hrest _ h
  exact key _ 0 a (fun j hj=>by rw [htl] at hj;simp [hj]) (by rw [htl];omega) h
 have H:=wpAnyQ_lex (P:=P) (md:=.any) (ops:=cut l.toArray n) (C:=S) hsel (l.take n) 0 (Array.replicate l.toArray.size false) a (fun j=>by rw [ecut];simp) (by rw [htl];exact hlex) hcq
 rw [htl] at H
 refine wp_region_any hm ?_
 have:=wpAny_head (P:=P) (md:=.any) (Q':=Q) (g:=l.toArray.size - n) hg hs hc hn
  (fun listed a' w' g' hg' hall inv hQ hw'=>wpAny_tail hq hc (l.drop n) n listed a' w' g' (Nat.le_refl _) (fun j=>by simp [List.getElem?_drop]) (by simpa using hg') inv.size
   (fun i hi _=>hall i hi) (fun i hi hi'=>inv.tail i hi hi') (hQ w' hw'))
  (fun listed inv hr=>stuck hu inv hr) n _ a { w with drawn:=w.drawn+1 } inv0 hS H
 rwa [show n+(l.toArray.size - n)=l.toArray.size by omega] at this
theorem drq {id:Nat} {Q:Exit→Act→World→Prop} {a:Act} {w:World} {l:List Oper} (n:Nat) (S:World→Prop) (hm:P.follows .mixedOrders=true) (hB:headB l.toArray n=true) (hS:∀ w1,Chg [] w w1→S w1)
  (h:wpQuiet P l.toArray S (fun a'=>∀ w',S w'→wpList P l.toArray Q (l.drop n) a' w') (l.take n) a):(Code.region id l.toArray true).wp P Q a w :=
 drqn n S hm hB (hS _ ⟨rfl,rfl,rfl,Nat.le_refl _,fun _ _ _=>rfl⟩) h
theorem drq0 {id:Nat} {Q:Exit→Act→World→Prop} {a:Act} {w:World} {l:List Oper} (S:World→Prop) (hm:P.follows .mixedOrders=true) (hB:Region.lexB .any l.toArray=true) (hS:∀ w1,Chg [] w w1→S w1)
  (h:wpQuiet P l.toArray S (fun a'=>∀ w',S w'→wpList P l.toArray Q [] a' w') l a):(Code.region id l.toArray true).wp P Q a w :=
 wp_region_quiet (C:=S) hm hB (hS _ ⟨rfl,rfl,rfl,Nat.le_refl _,fun _ _ _=>rfl⟩) (by
  refine Eq.mp ?_ h
  have:(fun a'=>∀ w',S w'→wpList P l.toArray Q [] a' w')=(fun a'=>∀ w',S w'→Q .normal a' w'):=by funext a';unfold wpList;rfl
  rw [this])
end
section
variable {P:Program} {n d:Nat} {ops:Array Oper} {Q:Act→Prop} {S:World→Prop} {a:Act} {env:Env} {rest:List Oper} {o:Oper} {v:Value}
 {dd:Option Tmp} {ty:TypeId} {pos:String} {af:Array Edge} {gd:Option (Nat×Bool)}
theorem qv (ha:Has a n env) (hg:gok ops env o.guard=some true) (hd:o.dst=some d) (hdn:Nat.blt d n=true) (hr:∀ w,S w→(execOp a.eval o).run P w=.ok (.value v) w)
  (hk:∀ a',Has a' n ((d,v)::env)→wpQuiet P ops S Q rest a'):wpQuiet P ops S Q (o::rest) a:=by
 unfold wpQuiet
 rw [if_pos (gok_wanted ha hg)]
 refine ⟨v,fun w hw=>?_,?_⟩
 ·unfold Oper.quietAt;rw [hr w hw];exact ⟨rfl,rfl⟩
 ·rw [hd];exact hk _ (ha.put hdn v)
theorem qp (k:Nat) (v:Value) (ha:Has a n env) (hg:gok ops env o.guard=some true) (hd:o.dst=some d) (hdn:Nat.blt d n=true) (hv:hval P (up env) [] k o.op=some v)
  (hk:∀ a',Has a' n ((d,v)::env)→wpQuiet P ops S Q rest a'):wpQuiet P ops S Q (o::rest) a :=
 qv ha hg hd hdn (fun w' _=>hval_run ha.toG (fun p hp=>by cases hp) hv w') hk
theorem qo (ha:Has a n env) (hg:gok ops env o.guard=some false) (hd:o.dst=some d) (hdn:Nat.blt d n=true)
  (hk:∀ a',Has a' n ((d,undef)::env)→wpQuiet P ops S Q rest a'):wpQuiet P ops S Q (o::rest) a:=by
 unfold wpQuiet
 rw [if_neg (by rw [gok_wanted ha hg];simp)]
 rw [hd];exact hk _ (ha.put hdn undef)
end
end Go.E
