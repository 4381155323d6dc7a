/- The rules by which these proofs step through the code, part R. -/
import Derived.Test.YtinakhioihhgfaaGreatDoorEngI
import Derived.ProofKit
import Derived.SizedLaws
import Derived.OpenShut
set_option linter.unusedVariables false
set_option linter.unusedSimpArgs false
namespace Go.E
open Go.RowKit Go.ChangeShapes Go.WideShapes Go.ChangeAt
/-! ### arguments that are read -/
section
variable {H:Type} {enc:TypeId×Value→H} {P:Program}
theorem trodAll_stays (hl:laidOutB P=true) {W W':World} (hb:Below W.heap.size W W'):∀ {ts:List TypeId} {vs:List Value} {ds:List (DataW H)} {ps:List MemPlace},
  (∀ t∈ts,P.readableRec t=true∧t < P.types.size)→DataW.TrodAll enc P W 0 (fun _=>true) true ts vs ds ps→(∀ x∈ps,x.block < W.heap.size) →
  DataW.TrodAll enc P W' 0 (fun b=>decide (b < W.heap.size)) true ts vs ds ps
 | [],[],[],_,_,h,_=>h
 | [],_::_,_,_,_,h,_=>h.elim
 | [],[],_::_,_,_,h,_=>h.elim
 | _::_,[],_,_,_,h,_=>h.elim
 | _::_,_::_,[],_,_,h,_=>h.elim
 | t::ts,v::vs,d::ds,ps,hts,h,hlt=>by
  obtain ⟨p,q,h1,h2,rfl⟩:=h
  obtain ⟨a,b⟩:=hts t (List.mem_cons_self ..)
  exact ⟨p,q,Below.trod hl a b h1 hb (fun x hx=>hlt x (List.mem_append_left _ hx)),trodAll_stays hl hb (fun t ht=>hts t (List.mem_cons_of_mem _ ht)) h2 (fun x hx=>hlt x (List.mem_append_right _ hx)),rfl⟩
theorem trodAll_length:∀ {ts:List TypeId} {vs:List Value} {ds:List (DataW H)} {ps:List MemPlace} {w:World} {b:Nat} {sp:Nat→Bool} {held:Bool},DataW.TrodAll enc P w b sp held ts vs ds ps→ds.length=ts.length
 | [],[],[],_,_,_,_,_,_=>rfl
 | [],_::_,_,_,_,_,_,_,h=>h.elim
 | [],[],_::_,_,_,_,_,_,h=>h.elim
 | _::_,[],_,_,_,_,_,_,h=>h.elim
 | _::_,_::_,[],_,_,_,_,_,h=>h.elim
 | _::_,_::_,_::_,_,_,_,_,_,h=>by
  obtain ⟨p,q,_,h2,_⟩:=h
  simp [trodAll_length h2]
end
/-! ### readings -/
structure Rdr (P:Program) {α:Type} (t:TypeId) (r:Rep α) (ok:α→Prop):Prop where
 cells:P.cellsOf t=r.sz
 open_:∀ {H:Type} {enc:TypeId×Value→H} {w:World} {fuel:Nat} {cs:List Value} {x:DataW H×List MemPlace},DataW.trod enc P w 0 (fun _=>true) true fuel t cs=some x →
  (x.1.weights P t).all (·≤reachBytes)=true→∃ y,r.R w [] cs y∧ok y
def okI (k:IntKind) (n:Int):Prop:=k.min≤n∧n≤k.max
def okB (_:Bool):Prop:=True
def okS (l:List UInt8):Prop:=l.length≤reachBytes
def okL {α:Type} (nb:Nat) (ok:α→Prop) (l:List α):Prop:=l.length*nb≤reachBytes∧∀ y∈l,ok y
theorem rdr_int {P:Program} {t:TypeId} {k:IntKind} (ht:P.underlying t=some (.int k)) (hc:P.cellsOf t=1):Rdr P t (rInt k) (okI k):=by
 refine ⟨hc,fun h _=>?_⟩
 obtain ⟨n,rfl,_,hw⟩:=DataW.trod_int ht h
 exact ⟨n,rfl,by simpa [Lit.wf,okI] using hw⟩
theorem RL_build {α:Type} {r:Rep α} {w:World} {M:List Nat} {ok:α→Prop}:∀ (n:Nat) (L:List Value),(∀ i,i < n→∃ y,r.R w M ((L.drop (i*r.sz)).take r.sz) y∧ok y) →
  ∃ ys,ys.length=n∧RL r w M (L.take (n*r.sz)) ys∧∀ y∈ys,ok y
 | 0,L,_=>⟨[],rfl,by simp [RL],fun _ h=>nomatch h⟩
 | n+1,L,h=>by
  obtain ⟨y,hy,oy⟩:=h 0 (Nat.succ_pos _)
  obtain ⟨ys,e,hl,hok⟩:=RL_build n (L.drop r.sz) (fun i hi=>by
   have:=h (i+1) (Nat.succ_lt_succ hi)
   rw [Nat.add_mul,Nat.one_mul,Nat.add_comm] at this
   rwa [List.drop_drop])
  refine ⟨y::ys,by simp [e],⟨_,_,?_,hy,hl⟩,?_⟩
  ·rw [Nat.zero_mul,List.drop_zero,Nat.add_mul,Nat.one_mul,Nat.add_comm (n*r.sz),List.take_add]
  ·intro z hz
   cases hz with
   | head=>exact oy
   | tail _ hz=>exact hok z hz
theorem weightsAll_mem {H:Type} {P:Program} {e:TypeId} {d:DataW H}:∀ {l:List (DataW H)},d∈l→∀ n∈d.weights P e,n∈DataW.weightsAll P e l
 | _::_,.head _,n,hn=>by unfold DataW.weightsAll;exact List.mem_append_left _ hn
 | _::_,.tail _ h,n,hn=>by unfold DataW.weightsAll;exact List.mem_append_right _ (weightsAll_mem h n hn)
theorem cell_row {w:World} {g o:Nat} {v:Value} (h:w.cell? ⟨g,o,none⟩=some v):∃ cur T fr,w.heap[g]? = some (.cells cur T fr)∧cur[o]? = some v:=by
 unfold World.cell? at h
 split at h
 ·rename_i cur T fr hh
  exact ⟨cur,T,fr,hh,by simpa using h⟩
 ·cases h
theorem rdr_slice {α:Type} {r:Rep α} {ok:α→Prop} {P:Program} {t e:TypeId} (ht:P.underlying t=some (.slice e)) (hc:P.cellsOf t=1) {nb:Nat} (hnb:P.bytesOf e=nb) (he:Rdr P e r ok) (hz:Nat.blt 0 r.sz=true) :
  Rdr P t (rSl e r) (okL nb ok):=by
 subst hnb
 have hz:0 < r.sz:=by simpa [Nat.blt_eq] using hz
 refine ⟨hc,fun {H enc w fuel cs x} h hw=>?_⟩
 rcases DataW.trod_slice ht h with ⟨rfl,_⟩ | ⟨a,len,cap,elems,rest,n,_,rfl,rfl,_,hl,hm,hlen,hel,_,_⟩
 ·exact ⟨[],⟨none,0,rfl,RSl.nil (Nat.zero_le _)⟩,by simp [okL]⟩
 ·have hwt:len*P.bytesOf e≤reachBytes:=by
   have h1:=List.all_eq_true.1 hw ((elems.length+rest.length)*P.bytesOf e) (by simp [DataW.weights,ht])
   simp only [decide_eq_true_eq] at h1
   exact Nat.le_trans (Nat.mul_le_mul_right _ (by omega)) h1
  have each:∀ i,i < len→∃ cs y,cs.length=r.sz∧r.R w [] cs y∧ok y∧∀ j v,cs[j]? = some v→w.cell? (a.add (i*r.sz+j))=some v:=by
   intro i hi
   obtain ⟨z,hz'⟩:∃ z,elems[i]? = some z:=⟨elems[i]'(by omega),by simp⟩
   have h1:=(hel i hi).trans hz'
   cases hcs:w.cells? 0 (a.add (i*P.cellsOf e)) (P.cellsOf e) with
   | none=>rw [hcs] at h1;cases h1
   | some cs =>
    rw [hcs] at h1
    obtain ⟨_,hcl,hcc⟩:=World.cells?_some hcs
    have hwz:(z.1.weights P e).all (·≤reachBytes)=true:=by
     refine List.all_eq_true.2 fun m hmm=>?_
     refine List.all_eq_true.1 hw m ?_
     simp only [DataW.weights,ht]
     exact List.mem_cons_of_mem _ (List.mem_append_left _ (weightsAll_mem (List.mem_map.2 ⟨z,List.mem_of_getElem? hz',rfl⟩) m hmm))
    obtain ⟨y,hy,oy⟩:=he.open_ h1 hwz
    refine ⟨cs,y,hcl.trans he.cells,hy,oy,fun j v hv=>?_⟩
    have hj:j < P.cellsOf e:=by
     rw [← hcl]
     exact (List.getElem?_eq_some_iff.1 hv).1
    rw [he.cells] at hcc hj
    have:=hcc j hj
    rw [hv,Addr.add_add] at this
    exact this
  rcases Nat.eq_zero_or_pos len with rfl | hpos
  ·exact ⟨[],⟨some a,cap,rfl,RSl.nil hm⟩,by simp [okL]⟩
  ·obtain ⟨g,o,sp⟩:=a
   obtain ⟨cs0,y0,hl0,_,_,hc0⟩:=each 0 hpos
   obtain ⟨v0,hv0⟩:∃ v,cs0[0]? = some v:=⟨cs0[0]'(by omega),by simp⟩
   have hc00:=hc0 0 v0 hv0
   have hsp:sp=none:=by simpa [Addr.add] using World.cell?_spot hc00
   subst hsp
   rw [Addr.add_lit] at hc00
   obtain ⟨cur,T,fr,hb,_⟩:=cell_row hc00
   obtain ⟨ys,hyl,hRL,hok⟩:=RL_build (r:=r) (w:=w) (M:=[]) (ok:=ok) len (cur.toList.drop o) (by
    intro i hi
    obtain ⟨cs,y,hcl,hy,oy,hcc⟩:=each i hi
    refine ⟨y,?_,oy⟩
    have ecs:((cur.toList.drop o).drop (i*r.sz)).take r.sz=cs:=by
     apply List.ext_getElem?
     intro j
     by_cases hj:j < r.sz
     ·obtain ⟨v,hv⟩:∃ v,cs[j]? = some v:=⟨cs[j]'(by omega),by simp⟩
      have h2:=hcc j v hv
      rw [Addr.add_lit,cell_of_row w g _ cur T fr hb] at h2
      rw [hv,List.getElem?_take,if_pos hj,List.drop_drop,List.getElem?_drop,Array.getElem?_toList,Nat.add_assoc]
      exact h2
     ·rw [List.getElem?_take,if_neg hj,List.getElem?_eq_none (by rw [hcl];omega)]
    rw [ecs]
    exact hy)
   refine ⟨ys,⟨some ⟨g,o,none⟩,cap,by rw [hyl],by omega,hm,.inr ⟨g,o,cur,(T,fr),rfl,by simp,hb,by rw [hyl];exact hRL⟩⟩,by rw [hyl];exact hwt,hok⟩
/-! arrays of numbers -/
def okA (k:IntKind) (n:Nat) (x:List Int):Prop:=x.length=n∧∀ y∈x,okI k y
section
variable {α:Type} {r:Rep α} {ok:List α→Prop} {H:Type} {enc:TypeId×Value→H} {P:Program} {W:World} {t e:TypeId} {base:Nat} {v:Value} {d:DataW H} {p:List MemPlace}
theorem arg_slice (ht:P.underlying t=some (.slice e)) (hr:Rdr P t (rSl e r) ok) (hval:Value.okWide P W .any base t v) (h:DataW.Trod enc P W 0 (fun _=>true) true t v d p) (hw:(d.weights P t).all (·≤reachBytes)=true) :
  ∃ (xs:List α) (ao:Option Addr) (cap:Nat),v=.slice ao xs.length cap∧RSl r e W [] ao cap xs∧ok xs:=by
 obtain ⟨a,len,cap,rfl⟩:=okWide_slice ht hval
 obtain ⟨fuel,hf⟩:=h
 obtain ⟨xs,⟨ao,cap',e,hR⟩,hok⟩:=hr.open_ hf hw
 simp [Value.cells] at e
 obtain ⟨rfl,rfl,rfl⟩:=e
 exact ⟨xs,a,cap,rfl,hR,hok⟩
end
theorem weights_at {H:Type} {P:Program} {ts:List TypeId} {ds:List (DataW H)} (h:(DataW.weightsEach P ts ds).all (·≤reachBytes)=true) (j:Nat) {t:TypeId} {d:DataW H} (ht:ts[j]? = some t) (hd:ds[j]? = some d) :
  (d.weights P t).all (·≤reachBytes)=true :=
 List.all_eq_true.2 fun n hn=>List.all_eq_true.1 h n (DataW.weights_mem_each ht hd n hn)
end Go.E
