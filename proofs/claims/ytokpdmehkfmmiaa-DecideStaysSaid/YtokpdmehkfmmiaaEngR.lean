/- The rules by which these proofs step through the code, part R. -/
import Derived.Test.YtokpdmehkfmmiaaEngI
import Derived.ProofKit
import Derived.SizedLaws
import Derived.OpenShut
set_option linter.unusedVariables false
set_option linter.unusedSimpArgs false
namespace Go.E
open Go.RowKit Go.ChangeShapes Go.WideShapes Go.ChangeAt
/-! ### arguments that are read -/
section
variable {H:Type} {enc:TypeId×Value→H} {P:Program}
theorem trodAll_stays (hl:laidOutB P=true) {W W':World} (hb:Below W.heap.size W W'):∀ {ts:List TypeId} {vs:List Value} {ds:List (DataW H)} {ps:List MemPlace},
  (∀ t∈ts,P.readableRec t=true∧t < P.types.size)→DataW.TrodAll enc P W 0 (fun _=>true) true ts vs ds ps→(∀ x∈ps,x.block < W.heap.size) →
  DataW.TrodAll enc P W' 0 (fun b=>decide (b < W.heap.size)) true ts vs ds ps
 | [],[],[],_,_,h,_=>h
 | [],_::_,_,_,_,h,_=>h.elim
 | [],[],_::_,_,_,h,_=>h.elim
 | _::_,[],_,_,_,h,_=>h.elim
 | _::_,_::_,[],_,_,h,_=>h.elim
 | t::ts,v::vs,d::ds,ps,hts,h,hlt=>by
  obtain ⟨p,q,h1,h2,rfl⟩:=h
  obtain ⟨a,b⟩:=hts t (List.mem_cons_self ..)
  exact ⟨p,q,Below.trod hl a b h1 hb (fun x hx=>hlt x (List.mem_append_left _ hx)),trodAll_stays hl hb (fun t ht=>hts t (List.mem_cons_of_mem _ ht)) h2 (fun x hx=>hlt x (List.mem_append_right _ hx)),rfl⟩
theorem trodAll_length:∀ {ts:List TypeId} {vs:List Value} {ds:List (DataW H)} {ps:List MemPlace} {w:World} {b:Nat} {sp:Nat→Bool} {held:Bool},DataW.TrodAll enc P w b sp held ts vs ds ps→ds.length=ts.length
 | [],[],[],_,_,_,_,_,_=>rfl
 | [],_::_,_,_,_,_,_,_,h=>h.elim
 | [],[],_::_,_,_,_,_,_,h=>h.elim
 | _::_,[],_,_,_,_,_,_,h=>h.elim
 | _::_,_::_,[],_,_,_,_,_,h=>h.elim
 | _::_,_::_,_::_,_,_,_,_,_,h=>by
  obtain ⟨p,q,_,h2,_⟩:=h
  simp [trodAll_length h2]
theorem lift_true {C:Checked} {os:Os} {f:FuncId} {fn:Func} {s:ChangeSpec} {conds:List PathCond} {fresh handsOn:Bool} {tb:TypeId}
  (own:ownKnob C.prog.godebug=none) (started:os.Started) (noInit:C.prog.inits.idxOf? f=none) (hfn:C.prog.funcs[f]? = some fn)
  (witness:∃ (w:World) (tape:Tape) (i:Input),w.os=os∧(w.forCall tape i).Shaped C.prog∧i.vars=[]∧Input.okWide C.prog (w.forCall tape i) .any w.heap.size f i ∧
   s.pre6 enc C.prog fn conds false (w.forCall tape i).memory i.args∧({}:Assume).holds C.prog (lone (Frame.enter C.prog f i.args .normal) [] (w.forCall tape i)))
  (hl:laidOutB C.prog=true) (hts:fn.params.toList.all (fun t=>C.prog.readableRec t && decide (t < C.prog.types.size))=true)
  (hrt:fn.resultTypes=#[tb]) (htb:C.prog.underlying tb=some .bool) (hv:s.vars=[])
  (hs:∀ (ds:List (DataW H)),ds.length=fn.params.size→s.fn H ds={ results:=[.lit (.bool true)],args:=ds })
  (walk:∀ (W:World) (base:Nat) (args:Array Value) (ds:List (DataW H)) (p:List MemPlace),
   (∀ (j:Nat) t v,fn.params[j]? = some t→args[j]? = some v→Value.okWide C.prog W .any base t v) →
   DataW.TrodAll enc C.prog W 0 (fun _=>true) true fn.params.toList args.toList ds p →
   (DataW.weightsEach C.prog fn.params.toList ds).all (·≤reachBytes)=true →
   conds.all (PathCond.test C.prog ⟨fn.params.toList,ds,s.plain.varTypes C.prog,[]⟩)=true →
   To C.prog f args.toList W fun v W'=>v=.bool true∧Chg [] W W') :
  ReturnsInHanded {} C os f .any (s.pre6 enc C.prog fn conds false) (s.post enc C.prog fn false fresh handsOn false):=by
 refine returnsInHanded_of_change_sized own started noInit hfn witness ?_
 intro W base args ds gs before hval hW hcond hsz _
 have hW':=hW
 obtain ⟨p,q,hA,hV,rfl,_,_⟩:=hW
 have hg:gs=[]∧q=[]:=by
  rw [hv] at hV
  cases gs with
  | nil=>exact ⟨rfl,hV⟩
  | cons g gs=>exact hV.elim
 obtain ⟨rfl,rfl⟩:=hg
 have hvt:s.plain.varTypes C.prog=[]:=by
  unfold DataSpec.varTypes ChangeSpec.plain;rw [hv];rfl
 rw [hvt] at hsz
 simp only [List.append_nil] at hsz hW'
 have hlen:ds.length=fn.params.size:=by simpa using trodAll_length hA
 refine Calls.mono (walk W base args ds p hval hA hsz hcond) fun e W' ⟨v,he,hve,hc⟩=>?_
 subst hve
 have hb:=hc.below
 have hlt:∀ x∈p,x.block < W.heap.size:=fun x hx=>by simpa using hW'.lt x hx
 have er:=hs ds hlen
 refine ⟨_,he,ds,[],p,[],p,[],hW',?_,?_,?_,hb.frame _,fun h=>by cases h⟩
 ·simp only [List.append_nil]
  rw [er,hrt]
  exact trodAll_mk1 (shut_bool htb true)
 ·simp only [List.append_nil]
  rw [er]
  refine trodAll_stays hl hb (fun t ht=>?_) hA hlt
  have:=List.all_eq_true.1 hts t ht
  simp only [Bool.and_eq_true,decide_eq_true_eq] at this
  exact this
 ·simp only [List.append_nil]
  rw [er,hv];rfl
end
/-! ### readings -/
structure Rdr (P:Program) {α:Type} (t:TypeId) (r:Rep α) (ok:α→Prop):Prop where
 cells:P.cellsOf t=r.sz
 open_:∀ {H:Type} {enc:TypeId×Value→H} {w:World} {fuel:Nat} {cs:List Value} {x:DataW H×List MemPlace},DataW.trod enc P w 0 (fun _=>true) true fuel t cs=some x →
  (x.1.weights P t).all (·≤reachBytes)=true→∃ y,r.R w [] cs y∧ok y
def okI (k:IntKind) (n:Int):Prop:=k.min≤n∧n≤k.max
def okB (_:Bool):Prop:=True
def okS (l:List UInt8):Prop:=l.length≤reachBytes
def okL {α:Type} (nb:Nat) (ok:α→Prop) (l:List α):Prop:=l.length*nb≤reachBytes∧∀ y∈l,ok y
def okP {α β:Type} (a:α→Prop) (b:β→Prop) (x:α×β):Prop:=a x.1∧b x.2
theorem rdr_int {P:Program} {t:TypeId} {k:IntKind} (ht:P.underlying t=some (.int k)) (hc:P.cellsOf t=1):Rdr P t (rInt k) (okI k):=by
 refine ⟨hc,fun h _=>?_⟩
 obtain ⟨n,rfl,_,hw⟩:=DataW.trod_int ht h
 exact ⟨n,rfl,by simpa [Lit.wf,okI] using hw⟩
theorem rdr_bool {P:Program} {t:TypeId} (ht:P.underlying t=some .bool) (hc:P.cellsOf t=1):Rdr P t rBool okB:=by
 refine ⟨hc,fun h _=>?_⟩
 obtain ⟨n,rfl,_⟩:=DataW.trod_bool ht h
 exact ⟨n,rfl,trivial⟩
theorem rdr_str {P:Program} {t:TypeId} (ht:P.underlying t=some .string) (hc:P.cellsOf t=1):Rdr P t rStr okS:=by
 refine ⟨hc,fun h hw=>?_⟩
 obtain ⟨n,rfl,e,_⟩:=DataW.trod_string ht h
 rw [e] at hw
 refine ⟨n.data.toList,?_,by simpa [DataW.weights,okS] using hw⟩
 show [Value.string n]=[Value.string (bstr n.data.toList)]
 simp [bstr]
theorem RL_build {α:Type} {r:Rep α} {w:World} {M:List Nat} {ok:α→Prop}:∀ (n:Nat) (L:List Value),(∀ i,i < n→∃ y,r.R w M ((L.drop (i*r.sz)).take r.sz) y∧ok y) →
  ∃ ys,ys.length=n∧RL r w M (L.take (n*r.sz)) ys∧∀ y∈ys,ok y
 | 0,L,_=>⟨[],rfl,by simp [RL],fun _ h=>nomatch h⟩
 | n+1,L,h=>by
  obtain ⟨y,hy,oy⟩:=h 0 (Nat.succ_pos _)
  obtain ⟨ys,e,hl,hok⟩:=RL_build n (L.drop r.sz) (fun i hi=>by
   have:=h (i+1) (Nat.succ_lt_succ hi)
   rw [Nat.add_mul,Nat.one_mul,Nat.add_comm] at this
   rwa [List.drop_drop])
  refine ⟨y::ys,by simp [e],⟨_,_,?_,hy,hl⟩,?_⟩
  ·rw [Nat.zero_mul,List.drop_zero,Nat.add_mul,Nat.one_mul,Nat.add_comm (n*r.sz),List.take_add]
  ·intro z hz
   cases hz with
   | head=>exact oy
   | tail _ hz=>exact hok z hz
theorem weightsAll_mem {H:Type} {P:Program} {e:TypeId} {d:DataW H}:∀ {l:List (DataW H)},d∈l→∀ n∈d.weights P e,n∈DataW.weightsAll P e l
 | _::_,.head _,n,hn=>by unfold DataW.weightsAll;exact List.mem_append_left _ hn
 | _::_,.tail _ h,n,hn=>by unfold DataW.weightsAll;exact List.mem_append_right _ (weightsAll_mem h n hn)
theorem cell_row {w:World} {g o:Nat} {v:Value} (h:w.cell? ⟨g,o,none⟩=some v):∃ cur T fr,w.heap[g]? = some (.cells cur T fr)∧cur[o]? = some v:=by
 unfold World.cell? at h
 split at h
 ·rename_i cur T fr hh
  exact ⟨cur,T,fr,hh,by simpa using h⟩
 ·cases h
theorem rdr_slice {α:Type} {r:Rep α} {ok:α→Prop} {P:Program} {t e:TypeId} (ht:P.underlying t=some (.slice e)) (hc:P.cellsOf t=1) {nb:Nat} (hnb:P.bytesOf e=nb) (he:Rdr P e r ok) (hz:Nat.blt 0 r.sz=true) :
  Rdr P t (rSl e r) (okL nb ok):=by
 subst hnb
 have hz:0 < r.sz:=by simpa [Nat.blt_eq] using hz
 refine ⟨hc,fun {H enc w fuel cs x} h hw=>?_⟩
 rcases DataW.trod_slice ht h with ⟨rfl,_⟩ | ⟨a,len,cap,elems,rest,n,_,rfl,rfl,_,hl,hm,hlen,hel,_,_⟩
 ·exact ⟨[],⟨none,0,rfl,RSl.nil (Nat.zero_le _)⟩,by simp [okL]⟩
 ·have hwt:len*P.bytesOf e≤reachBytes:=by
   have h1:=List.all_eq_true.1 hw ((elems.length+rest.length)*P.bytesOf e) (by simp [DataW.weights,ht])
   simp only [decide_eq_true_eq] at h1
   exact Nat.le_trans (Nat.mul_le_mul_right _ (by omega)) h1
  have each:∀ i,i < len→∃ cs y,cs.length=r.sz∧r.R w [] cs y∧ok y∧∀ j v,cs[j]? = some v→w.cell? (a.add (i*r.sz+j))=some v:=by
   intro i hi
   obtain ⟨z,hz'⟩:∃ z,elems[i]? = some z:=⟨elems[i]'(by omega),by simp⟩
   have h1:=(hel i hi).trans hz'
   cases hcs:w.cells? 0 (a.add (i*P.cellsOf e)) (P.cellsOf e) with
   | none=>rw [hcs] at h1;cases h1
   | some cs =>
    rw [hcs] at h1
    obtain ⟨_,hcl,hcc⟩:=World.cells?_some hcs
    have hwz:(z.1.weights P e).all (·≤reachBytes)=true:=by
     refine List.all_eq_true.2 fun m hmm=>?_
     refine List.all_eq_true.1 hw m ?_
     simp only [DataW.weights,ht]
     exact List.mem_cons_of_mem _ (List.mem_append_left _ (weightsAll_mem (List.mem_map.2 ⟨z,List.mem_of_getElem? hz',rfl⟩) m hmm))
    obtain ⟨y,hy,oy⟩:=he.open_ h1 hwz
    refine ⟨cs,y,hcl.trans he.cells,hy,oy,fun j v hv=>?_⟩
    have hj:j < P.cellsOf e:=by
     rw [← hcl]
     exact (List.getElem?_eq_some_iff.1 hv).1
    rw [he.cells] at hcc hj
    have:=hcc j hj
    rw [hv,Addr.add_add] at this
    exact this
  rcases Nat.eq_zero_or_pos len with rfl | hpos
  ·exact ⟨[],⟨some a,cap,rfl,RSl.nil hm⟩,by simp [okL]⟩
  ·obtain ⟨g,o,sp⟩:=a
   obtain ⟨cs0,y0,hl0,_,_,hc0⟩:=each 0 hpos
   obtain ⟨v0,hv0⟩:∃ v,cs0[0]? = some v:=⟨cs0[0]'(by omega),by simp⟩
   have hc00:=hc0 0 v0 hv0
   have hsp:sp=none:=by simpa [Addr.add] using World.cell?_spot hc00
   subst hsp
   rw [Addr.add_lit] at hc00
   obtain ⟨cur,T,fr,hb,_⟩:=cell_row hc00
   obtain ⟨ys,hyl,hRL,hok⟩:=RL_build (r:=r) (w:=w) (M:=[]) (ok:=ok) len (cur.toList.drop o) (by
    intro i hi
    obtain ⟨cs,y,hcl,hy,oy,hcc⟩:=each i hi
    refine ⟨y,?_,oy⟩
    have ecs:((cur.toList.drop o).drop (i*r.sz)).take r.sz=cs:=by
     apply List.ext_getElem?
     intro j
     by_cases hj:j < r.sz
     ·obtain ⟨v,hv⟩:∃ v,cs[j]? = some v:=⟨cs[j]'(by omega),by simp⟩
      have h2:=hcc j v hv
      rw [Addr.add_lit,cell_of_row w g _ cur T fr hb] at h2
      rw [hv,List.getElem?_take,if_pos hj,List.drop_drop,List.getElem?_drop,Array.getElem?_toList,Nat.add_assoc]
      exact h2
     ·rw [List.getElem?_take,if_neg hj,List.getElem?_eq_none (by rw [hcl];omega)]
    rw [ecs]
    exact hy)
   refine ⟨ys,⟨some ⟨g,o,none⟩,cap,by rw [hyl],by omega,hm,.inr ⟨g,o,cur,(T,fr),rfl,by simp,hb,by rw [hyl];exact hRL⟩⟩,by rw [hyl];exact hwt,hok⟩
/-! arrays of numbers -/
def okA (k:IntKind) (n:Nat) (x:List Int):Prop:=x.length=n∧∀ y∈x,okI k y
theorem rdr_arr {P:Program} {t e:TypeId} {k:IntKind} {n:Nat} (ht:P.underlying t=some (.array n e)) (he:P.underlying e=some (.int k)) (hc1:P.cellsOf e=1) (hc:P.cellsOf t=n):Rdr P t (rArr k n) (okA k n):=by
 refine ⟨hc,fun {H enc w fuel cs x} h _=>?_⟩
 obtain ⟨xs,m,_,_,hcl,hxl,hel⟩:=DataW.trod_array ht h
 rw [hc] at hcl
 have each:∀ i,i < n→∃ z,cs[i]? = some (.int k z)∧okI k z:=by
  intro i hi
  obtain ⟨x,hx⟩:∃ x,xs[i]? = some x:=⟨xs[i]'(by omega),by simp⟩
  have h1:=(hel i hi).trans hx
  rw [hc1,Nat.mul_one] at h1
  obtain ⟨z,hz,_,hw⟩:=DataW.trod_int he h1
  refine ⟨z,?_,by simpa [Lit.wf,okI] using hw⟩
  have h2:((cs.drop i).take 1)[0]? = some (.int k z):=by rw [hz];rfl
  rw [List.getElem?_take,if_pos (by decide),List.getElem?_drop] at h2
  simpa using h2
 obtain ⟨ys,hyl,hys⟩:∃ ys:List Int,ys.length=n∧∀ i,i < n→cs[i]? = some (.int k (ar ys i))∧okI k (ar ys i):=by
  refine ⟨(List.range n).map fun i=>if h:i < n then Classical.choose (each i h) else 0,by simp,fun i hi=>?_⟩
  have:ar ((List.range n).map fun i=>if h:i < n then Classical.choose (each i h) else 0) i=Classical.choose (each i hi):=by simp [ar,hi]
  rw [this]
  exact Classical.choose_spec (each i hi)
 refine ⟨ys,?_,hyl,fun y hy=>?_⟩
 ·show cs=cA k n ys
  apply List.ext_getElem?
  intro i
  by_cases hi:i < n
  ·rw [(hys i hi).1];simp [cA,hi]
  ·rw [List.getElem?_eq_none (by omega),List.getElem?_eq_none (by simp [cA];omega)]
 ·obtain ⟨i,hi,rfl⟩:=List.getElem_of_mem hy
  have:=(hys i (by omega)).2
  have e:ar ys i=ys[i]:=by simp [ar,List.getD,hi]
  rwa [e] at this
/-! structs: the fields one behind another -/
def fieldsB (P:Program) (t:TypeId) (l:List (TypeId×Nat)):Bool:=match P.underlying t with | some (.struct fs)=>fs.toList.map (fun f=>(f.type,f.offset))==l | _=>false
structure RdrF (P:Program) {β:Type} (l:List (TypeId×Nat)) (off:Nat) (r:Rep β) (ok:β→Prop):Prop where
 open_:∀ {H:Type} {enc:TypeId×Value→H} {w:World} {n:Nat} {cs:List Value} {xs:List (DataW H×List MemPlace)},cs.length=off+r.sz→xs.length=l.length →
  (∀ (i:Nat) (f:TypeId×Nat),l[i]? = some f→DataW.trod enc P w 0 (fun _=>true) true n f.1 ((cs.drop f.2).take (P.cellsOf f.1))=xs[i]?) →
  (∀ (i:Nat) (x:DataW H×List MemPlace) (f:TypeId×Nat),xs[i]? = some x→l[i]? = some f→(x.1.weights P f.1).all (·≤reachBytes)=true)→∃ y,r.R w [] (cs.drop off) y∧ok y
theorem rdrf_last {β:Type} {P:Program} {t:TypeId} {off:Nat} {r:Rep β} {ok:β→Prop} (h:Rdr P t r ok):RdrF P [(t,off)] off r ok:=by
 refine ⟨fun {H enc w n cs xs} hl hx ht hw=>?_⟩
 obtain ⟨x,hx0⟩:∃ x,xs[0]? = some x:=⟨xs[0]'(by simp at hx;omega),by simp⟩
 have h1:=(ht 0 (t,off) rfl).trans hx0
 have:(cs.drop off).take (P.cellsOf t)=cs.drop off:=List.take_of_length_le (by rw [List.length_drop,h.cells];omega)
 rw [this] at h1
 exact h.open_ h1 (hw 0 x (t,off) hx0 rfl)
theorem rdrf_cons {β γ:Type} {P:Program} {t:TypeId} {off:Nat} {a:Rep β} {b:Rep γ} {oka:β→Prop} {okb:γ→Prop} {l:List (TypeId×Nat)} (h:Rdr P t a oka) (hr:RdrF P l (off+a.sz) b okb) :
  RdrF P ((t,off)::l) off (rPair a b) (okP oka okb):=by
 refine ⟨fun {H enc w n cs xs} hl hx ht hw=>?_⟩
 have hl:cs.length=off+(a.sz+b.sz):=hl
 cases xs with
 | nil=>simp at hx
 | cons x xs =>
  have h1:=ht 0 (t,off) rfl
  obtain ⟨y,hy,oy⟩:=h.open_ h1 (hw 0 x (t,off) rfl rfl)
  obtain ⟨z,hz,oz⟩:=hr.open_ (enc:=enc) (w:=w) (n:=n) (cs:=cs) (xs:=xs) (by omega) (by simpa using hx) (fun i f hf=>ht (i+1) f hf) (fun i x f hx hf=>hw (i+1) x f hx hf)
  refine ⟨(y,z),⟨_,_,?_,hy,hz⟩,oy,oz⟩
  rw [h.cells,← List.drop_drop,List.take_append_drop]
theorem rdr_struct {α β:Type} {P:Program} {t:TypeId} {l:List (TypeId×Nat)} {r:Rep β} {ok:β→Prop} {ok':α→Prop} (hf:fieldsB P t l=true) (hc:P.cellsOf t=r.sz) (hF:RdrF P l 0 r ok) (f:α→β)
  (g:∀ y:β,∃ x:α,f x=y∧(ok y→ok' x)):Rdr P t (rIso f r) ok':=by
 refine ⟨hc,fun {H enc w fuel cs x} h hw=>?_⟩
 unfold fieldsB at hf
 split at hf
 ·rename_i fs hu
  have hf:fs.toList.map (fun f=>(f.type,f.offset))=l:=by simpa using hf
  obtain ⟨xs,n,_,rfl,hcl,hxl,hel⟩:=DataW.trod_struct hu h
  have hfi:∀ (i:Nat) (q:TypeId×Nat),l[i]? = some q→∃ fl:Field,fs[i]? = some fl∧q=(fl.type,fl.offset):=by
   intro i q hq
   rw [← hf,List.getElem?_map] at hq
   cases hfl:fs.toList[i]? with
   | none=>rw [hfl] at hq;cases hq
   | some fl=>rw [hfl] at hq;exact ⟨fl,by simpa using hfl,(Option.some.inj hq).symm⟩
  obtain ⟨y,hy,oy⟩:=hF.open_ (enc:=enc) (w:=w) (n:=n) (cs:=cs) (xs:=xs) (by rw [hcl,hc];simp) (by rw [hxl,← hf];simp)
   (fun i q hq=>by
    obtain ⟨fl,h1,rfl⟩:=hfi i q hq
    exact hel i fl h1)
   (fun i x q hx hq=>by
    obtain ⟨fl,h1,rfl⟩:=hfi i q hq
    refine List.all_eq_true.2 fun m hm=>List.all_eq_true.1 hw m ?_
    simp only [DataW.weights,hu]
    exact DataW.weights_mem_each (j:=i) (t:=fl.type) (by simp [h1]) (d:=x.1) (by simp [hx]) m hm)
  obtain ⟨z,rfl,hz⟩:=g y
  rw [List.drop_zero] at hy
  exact ⟨z,hy,hz oy⟩
 ·cases hf
section
variable {α:Type} {r:Rep α} {ok:List α→Prop} {H:Type} {enc:TypeId×Value→H} {P:Program} {W:World} {t e:TypeId} {base:Nat} {v:Value} {d:DataW H} {p:List MemPlace}
theorem arg_slice (ht:P.underlying t=some (.slice e)) (hr:Rdr P t (rSl e r) ok) (hval:Value.okWide P W .any base t v) (h:DataW.Trod enc P W 0 (fun _=>true) true t v d p) (hw:(d.weights P t).all (·≤reachBytes)=true) :
  ∃ (xs:List α) (ao:Option Addr) (cap:Nat),v=.slice ao xs.length cap∧RSl r e W [] ao cap xs∧ok xs:=by
 obtain ⟨a,len,cap,rfl⟩:=okWide_slice ht hval
 obtain ⟨fuel,hf⟩:=h
 obtain ⟨xs,⟨ao,cap',e,hR⟩,hok⟩:=hr.open_ hf hw
 simp [Value.cells] at e
 obtain ⟨rfl,rfl,rfl⟩:=e
 exact ⟨xs,a,cap,rfl,hR,hok⟩
theorem arg_int {k:IntKind} (ht:P.underlying t=some (.int k)) (hval:Value.okWide P W .any base t v) (h:DataW.Trod enc P W 0 (fun _=>true) true t v d p):∃ n,v=.int k n∧okI k n:=by
 obtain ⟨n,rfl,_,_,hw⟩:=open_int ht hval h
 exact ⟨n,rfl,by simpa [Lit.wf,okI] using hw⟩
end
theorem weights_at {H:Type} {P:Program} {ts:List TypeId} {ds:List (DataW H)} (h:(DataW.weightsEach P ts ds).all (·≤reachBytes)=true) (j:Nat) {t:TypeId} {d:DataW H} (ht:ts[j]? = some t) (hd:ds[j]? = some d) :
  (d.weights P t).all (·≤reachBytes)=true :=
 List.all_eq_true.2 fun n hn=>List.all_eq_true.1 h n (DataW.weights_mem_each ht hd n hn)
end Go.E
