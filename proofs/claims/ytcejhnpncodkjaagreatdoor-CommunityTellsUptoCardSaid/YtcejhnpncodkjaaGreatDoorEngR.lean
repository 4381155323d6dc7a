/- The rules by which these proofs step through the code, part R. -/
import Derived.Test.YtcejhnpncodkjaaGreatDoorEngI
import Derived.ProofKit
import Derived.SizedLaws
import Derived.OpenShut
set_option linter.unusedVariables false
set_option linter.unusedSimpArgs false
namespace Go.E
open Go.RowKit Go.ChangeShapes Go.WideShapes Go.ChangeAt
/-! ### arguments that are read -/
section
variable {H:Type} {enc:TypeId×Value→H} {P:Program}
theorem trodAll_stays (hl:laidOutB P=true) {W W':World} (hb:Below W.heap.size W W'):∀ {ts:List TypeId} {vs:List Value} {ds:List (DataW H)} {ps:List MemPlace},
  (∀ t∈ts,P.readableRec t=true∧t < P.types.size)→DataW.TrodAll enc P W 0 (fun _=>true) true ts vs ds ps→(∀ x∈ps,x.block < W.heap.size) →
  DataW.TrodAll enc P W' 0 (fun b=>decide (b < W.heap.size)) true ts vs ds ps
 | [],[],[],_,_,h,_=>h
 | [],_::_,_,_,_,h,_=>h.elim
 | [],[],_::_,_,_,h,_=>h.elim
 | _::_,[],_,_,_,h,_=>h.elim
 | _::_,_::_,[],_,_,h,_=>h.elim
 | t::ts,v::vs,d::ds,ps,hts,h,hlt=>by
  obtain ⟨p,q,h1,h2,rfl⟩:=h
  obtain ⟨a,b⟩:=hts t (List.mem_cons_self ..)
  exact ⟨p,q,Below.trod hl a b h1 hb (fun x hx=>hlt x (List.mem_append_left _ hx)),trodAll_stays hl hb (fun t ht=>hts t (List.mem_cons_of_mem _ ht)) h2 (fun x hx=>hlt x (List.mem_append_right _ hx)),rfl⟩
theorem trodAll_length:∀ {ts:List TypeId} {vs:List Value} {ds:List (DataW H)} {ps:List MemPlace} {w:World} {b:Nat} {sp:Nat→Bool} {held:Bool},DataW.TrodAll enc P w b sp held ts vs ds ps→ds.length=ts.length
 | [],[],[],_,_,_,_,_,_=>rfl
 | [],_::_,_,_,_,_,_,_,h=>h.elim
 | [],[],_::_,_,_,_,_,_,h=>h.elim
 | _::_,[],_,_,_,_,_,_,h=>h.elim
 | _::_,_::_,[],_,_,_,_,_,h=>h.elim
 | _::_,_::_,_::_,_,_,_,_,_,h=>by
  obtain ⟨p,q,_,h2,_⟩:=h
  simp [trodAll_length h2]
end
/-! ### readings -/
structure Rdr (P:Program) {α:Type} (t:TypeId) (r:Rep α) (ok:α→Prop):Prop where
 cells:P.cellsOf t=r.sz
 open_:∀ {H:Type} {enc:TypeId×Value→H} {w:World} {fuel:Nat} {cs:List Value} {x:DataW H×List MemPlace},DataW.trod enc P w 0 (fun _=>true) true fuel t cs=some x →
  (x.1.weights P t).all (·≤reachBytes)=true→∃ y,r.R w [] cs y∧ok y
def okI (k:IntKind) (n:Int):Prop:=k.min≤n∧n≤k.max
def okB (_:Bool):Prop:=True
def okS (l:List UInt8):Prop:=l.length≤reachBytes
def okL {α:Type} (nb:Nat) (ok:α→Prop) (l:List α):Prop:=l.length*nb≤reachBytes∧∀ y∈l,ok y
/-! arrays of numbers -/
def okA (k:IntKind) (n:Nat) (x:List Int):Prop:=x.length=n∧∀ y∈x,okI k y
theorem rdr_arr {P:Program} {t e:TypeId} {k:IntKind} {n:Nat} (ht:P.underlying t=some (.array n e)) (he:P.underlying e=some (.int k)) (hc1:P.cellsOf e=1) (hc:P.cellsOf t=n):Rdr P t (rArr k n) (okA k n):=by
 refine ⟨hc,fun {H enc w fuel cs x} h _=>?_⟩
 obtain ⟨xs,m,_,_,hcl,hxl,hel⟩:=DataW.trod_array ht h
 rw [hc] at hcl
 have each:∀ i,i < n→∃ z,cs[i]? = some (.int k z)∧okI k z:=by
  intro i hi
  obtain ⟨x,hx⟩:∃ x,xs[i]? = some x:=⟨xs[i]'(by omega),by simp⟩
  have h1:=(hel i hi).trans hx
  rw [hc1,Nat.mul_one] at h1
  obtain ⟨z,hz,_,hw⟩:=DataW.trod_int he h1
  refine ⟨z,?_,by simpa [Lit.wf,okI] using hw⟩
  have h2:((cs.drop i).take 1)[0]? = some (.int k z):=by rw [hz];rfl
  rw [List.getElem?_take,if_pos (by decide),List.getElem?_drop] at h2
  simpa using h2
 obtain ⟨ys,hyl,hys⟩:∃ ys:List Int,ys.length=n∧∀ i,i < n→cs[i]? = some (.int k (ar ys i))∧okI k (ar ys i):=by
  refine ⟨(List.range n).map fun i=>if h:i < n then Classical.choose (each i h) else 0,by simp,fun i hi=>?_⟩
  have:ar ((List.range n).map fun i=>if h:i < n then Classical.choose (each i h) else 0) i=Classical.choose (each i hi):=by simp [ar,hi]
  rw [this]
  exact Classical.choose_spec (each i hi)
 refine ⟨ys,?_,hyl,fun y hy=>?_⟩
 ·show cs=cA k n ys
  apply List.ext_getElem?
  intro i
  by_cases hi:i < n
  ·rw [(hys i hi).1];simp [cA,hi]
  ·rw [List.getElem?_eq_none (by omega),List.getElem?_eq_none (by simp [cA];omega)]
 ·obtain ⟨i,hi,rfl⟩:=List.getElem_of_mem hy
  have:=(hys i (by omega)).2
  have e:ar ys i=ys[i]:=by simp [ar,List.getD,hi]
  rwa [e] at this
section
variable {α:Type} {r:Rep α} {ok:List α→Prop} {H:Type} {enc:TypeId×Value→H} {P:Program} {W:World} {t e:TypeId} {base:Nat} {v:Value} {d:DataW H} {p:List MemPlace}
end
theorem weights_at {H:Type} {P:Program} {ts:List TypeId} {ds:List (DataW H)} (h:(DataW.weightsEach P ts ds).all (·≤reachBytes)=true) (j:Nat) {t:TypeId} {d:DataW H} (ht:ts[j]? = some t) (hd:ds[j]? = some d) :
  (d.weights P t).all (·≤reachBytes)=true :=
 List.all_eq_true.2 fun n hn=>List.all_eq_true.1 h n (DataW.weights_mem_each ht hd n hn)
end Go.E
