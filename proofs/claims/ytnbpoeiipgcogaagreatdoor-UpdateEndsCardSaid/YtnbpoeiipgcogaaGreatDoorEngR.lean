/- The rules by which these proofs step through the code, part R. -/
import Derived.Test.YtnbpoeiipgcogaaGreatDoorEngI
import Derived.ProofKit
import Derived.SizedLaws
import Derived.OpenShut
set_option linter.unusedVariables false
set_option linter.unusedSimpArgs false
namespace Go.E
open Go.RowKit Go.ChangeShapes Go.WideShapes Go.ChangeAt
/-! ### arguments that are read -/
section
variable {H:Type} {enc:TypeId×Value→H} {P:Program}
theorem trodAll_stays (hl:laidOutB P=true) {W W':World} (hb:Below W.heap.size W W'):∀ {ts:List TypeId} {vs:List Value} {ds:List (DataW H)} {ps:List MemPlace},
  (∀ t∈ts,P.readableRec t=true∧t < P.types.size)→DataW.TrodAll enc P W 0 (fun _=>true) true ts vs ds ps→(∀ x∈ps,x.block < W.heap.size) →
  DataW.TrodAll enc P W' 0 (fun b=>decide (b < W.heap.size)) true ts vs ds ps
 | [],[],[],_,_,h,_=>h
 | [],_::_,_,_,_,h,_=>h.elim
 | [],[],_::_,_,_,h,_=>h.elim
 | _::_,[],_,_,_,h,_=>h.elim
 | _::_,_::_,[],_,_,h,_=>h.elim
 | t::ts,v::vs,d::ds,ps,hts,h,hlt=>by
  obtain ⟨p,q,h1,h2,rfl⟩:=h
  obtain ⟨a,b⟩:=hts t (List.mem_cons_self ..)
  exact ⟨p,q,Below.trod hl a b h1 hb (fun x hx=>hlt x (List.mem_append_left _ hx)),trodAll_stays hl hb (fun t ht=>hts t (List.mem_cons_of_mem _ ht)) h2 (fun x hx=>hlt x (List.mem_append_right _ hx)),rfl⟩
theorem trodAll_length:∀ {ts:List TypeId} {vs:List Value} {ds:List (DataW H)} {ps:List MemPlace} {w:World} {b:Nat} {sp:Nat→Bool} {held:Bool},DataW.TrodAll enc P w b sp held ts vs ds ps→ds.length=ts.length
 | [],[],[],_,_,_,_,_,_=>rfl
 | [],_::_,_,_,_,_,_,_,h=>h.elim
 | [],[],_::_,_,_,_,_,_,h=>h.elim
 | _::_,[],_,_,_,_,_,_,h=>h.elim
 | _::_,_::_,[],_,_,_,_,_,h=>h.elim
 | _::_,_::_,_::_,_,_,_,_,_,h=>by
  obtain ⟨p,q,_,h2,_⟩:=h
  simp [trodAll_length h2]
end
def okI (k:IntKind) (n:Int):Prop:=k.min≤n∧n≤k.max
def okB (_:Bool):Prop:=True
def okS (l:List UInt8):Prop:=l.length≤reachBytes
def okL {α:Type} (nb:Nat) (ok:α→Prop) (l:List α):Prop:=l.length*nb≤reachBytes∧∀ y∈l,ok y
/-! arrays of numbers -/
def okA (k:IntKind) (n:Nat) (x:List Int):Prop:=x.length=n∧∀ y∈x,okI k y
section
variable {α:Type} {r:Rep α} {ok:List α→Prop} {H:Type} {enc:TypeId×Value→H} {P:Program} {W:World} {t e:TypeId} {base:Nat} {v:Value} {d:DataW H} {p:List MemPlace}
theorem arg_int {k:IntKind} (ht:P.underlying t=some (.int k)) (hval:Value.okWide P W .any base t v) (h:DataW.Trod enc P W 0 (fun _=>true) true t v d p):∃ n,v=.int k n∧okI k n:=by
 obtain ⟨n,rfl,_,_,hw⟩:=open_int ht hval h
 exact ⟨n,rfl,by simpa [Lit.wf,okI] using hw⟩
end
end Go.E
