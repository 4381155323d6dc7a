/- The rules by which these proofs step through the code, part Y. -/
import Derived.Test.YtcejhnpncodkjaaGreatDoorEngQ
import Derived.Shelf.SlSortCmp.KitK
set_option linter.unusedVariables false
set_option linter.unusedSimpArgs false
namespace Go.E
open Go.RowKit Go.Sort Go.Proofs
/-! rows of flat elements: as the kit's sort wants them, and back -/
structure Flat {α:Type} (r:Rep α) (enc:α→List Value):Prop where
 iff:∀ w M cs x,r.R w M cs x↔cs=enc x
theorem Flat.arr (k:IntKind) (n:Nat):Flat (rArr k n) (cA k n):=⟨fun _ _ _ _=>Iff.rfl⟩
section
variable {α:Type} {r:Rep α} {enc:α→List Value}
theorem RL.flat (hf:Flat r enc) {w:World} {M:List Nat}:∀ {xs:List α} {cs:List Value},RL r w M cs xs↔cs=xs.flatMap enc
 | [],cs=>Iff.rfl
 | x::xs,cs=>by
  constructor
  ·rintro ⟨c1,c2,rfl,h1,h2⟩
   rw [List.flatMap_cons,(hf.iff _ _ _ _).1 h1,(RL.flat hf).1 h2]
  ·rintro rfl
   exact ⟨enc x,xs.flatMap enc,rfl,(hf.iff _ _ _ _).2 rfl,(RL.flat hf).2 rfl⟩
theorem flat_len {k:Nat} (hk:∀ x,(enc x).length=k):∀ (xs:List α),(xs.flatMap enc).length=xs.length*k
 | []=>by simp
 | x::xs=>by rw [List.flatMap_cons,List.length_append,flat_len hk xs,hk,List.length_cons,Nat.add_mul,Nat.one_mul,Nat.add_comm]
theorem flat_get [Inhabited α] {k:Nat} (hk:∀ x,(enc x).length=k):∀ (xs:List α) (t:Nat),t < xs.length*k→(xs.flatMap enc)[t]? = some (enc xs[t / k]!)[t % k]!
  | [],t,h=>by simp at h
  | x::xs,t,h=>by
    have k0 : 0 < k := by rcases Nat.eq_zero_or_pos k with e | e; · subst e; simp at h
                          · exact e
    rw [List.flatMap_cons]
    by_cases ht:t < k
    · rw [List.getElem?_append_left (by rw [hk];exact ht),Nat.div_eq_of_lt ht,Nat.mod_eq_of_lt ht]
      have hl:t < (enc x).length:=by rw [hk];exact ht
      simp [hl]
    · have hle:k≤t:=by omega
      rw [List.getElem?_append_right (by rw [hk];exact hle),hk,flat_get hk xs (t - k) (by rw [List.length_cons,Nat.add_mul,Nat.one_mul] at h;omega)]
      have e1:t / k=(t - k) / k+1:=by rw [← Nat.add_div_right _ k0,Nat.sub_add_cancel hle]
      have e2:t % k=(t - k) % k:=by rw [← Nat.add_mod_right (t - k) k,Nat.sub_add_cancel hle]
      rw [e1,e2]
      simp
theorem flatK_list [Inhabited α] {k:Nat} (hk:∀ x,(enc x).length=k) (xs:List α):(flatK enc k xs.toArray).toList=xs.flatMap enc:=by
 apply List.ext_getElem?
 intro t
 by_cases ht:t < xs.length*k
 ·rw [flat_get hk xs t ht]
  have h1:t < (flatK enc k xs.toArray).size:=by rw [size_flatK];simpa using ht
  have:=get_flatK enc k xs.toArray t (by simpa using ht)
  rw [Array.getElem?_toList,Array.getElem?_eq_getElem h1,← getElem!_pos _ t h1,this]
  simp
 ·rw [List.getElem?_eq_none (l:=(flatK enc k xs.toArray).toList) (by rw [Array.length_toList,size_flatK];simpa using ht),List.getElem?_eq_none (by rw [flat_len hk];omega)]
theorem Own.holds [Inhabited α] (hf:Flat r enc) {k:Nat} (hz:r.sz=k) (hk:∀ x,(enc x).length=k) {T:TypeId} {w:World} {M:List Nat} {g cap:Nat} {xs:List α} (h:Own r T w M (some ⟨g,0,none⟩) cap xs):HoldsK enc k w g 0 xs.toArray:=by
 rcases h with ⟨e,_⟩ | ⟨g',cur,e,hg,hb,h1,h2,h3,hl⟩
 ·cases e
 ·cases e
  intro j hj
  rw [size_flatK] at hj
  refine ⟨?_,frozen_of_row w g (0+j) cur T hb⟩
  rw [cell_of_row w g (0+j) cur T (0,0) hb,Nat.zero_add]
  have hj':j < xs.length*k:=by simpa using hj
  have e1:=(RL.flat hf).1 hl
  rw [hz] at e1
  have e2:cur[j]? = (xs.flatMap enc)[j]? := by rw [← e1,List.getElem?_take,if_pos hj',Array.getElem?_toList]
  rw [e2,flat_get hk xs j hj',get_flatK enc k xs.toArray j (by simpa using hj')]
  simp
theorem sort_block [Inhabited α] {k:Nat} {w:World} {g:Nat} {cur:Array Value} {T:TypeId} (hb:w.heap[g]? = some (.cells cur T (0,0))) (d:Array α) (n:Nat) (os:Array Obj) :
  (sortWorldK enc k w g 0 n d os).heap[g]? = some (.cells (putCells id 0 (flatK enc k d) cur) T (0,0)):=by
 have hlt:=lt_size hb
 unfold sortWorldK
 have e:(putRowK enc k (Sort.ahead w n) g 0 d).heap[g]? = some (.cells (putCells id 0 (flatK enc k d) cur) T (0,0)):=by
  show (w.heap.modify g (onCells (putCells id 0 (flatK enc k d))))[g]? = _
  rw [Array.getElem?_modify,if_pos rfl,hb]
  rfl
 show ((putRowK enc k (Sort.ahead w n) g 0 d).heap++os)[g]? = _
 rw [Array.getElem?_append_left (lt_size e)]
 exact e
theorem sort_chg [Inhabited α] {k:Nat} (w:World) (g:Nat) (d:Array α) (n:Nat) (os:Array Obj):Chg [g] w (sortWorldK enc k w g 0 n d os):=by
 have hs:(putRowK enc k (Sort.ahead w n) g 0 d).heap.size=w.heap.size:=size_putRowK enc k (Sort.ahead w n) g 0 d
 refine ⟨rfl,rfl,rfl,?_,fun j hj hn=>?_⟩
 ·show _≤((putRowK enc k (Sort.ahead w n) g 0 d).heap++os).size
  rw [Array.size_append,hs];omega
 ·show ((putRowK enc k (Sort.ahead w n) g 0 d).heap++os)[j]? = _
  rw [Array.getElem?_append_left (by rw [hs];exact hj)]
  show (w.heap.modify g (onCells (putCells id 0 (flatK enc k d))))[j]? = _
  rw [Array.getElem?_modify,if_neg (fun e=>hn (by simp [e]))]
theorem Own.sorted [Inhabited α] (hf:Flat r enc) {k:Nat} (hz:r.sz=k) (hk:∀ x,(enc x).length=k) {T:TypeId} {w:World} {M:List Nat} {g cap:Nat} {xs:List α} (h:Own r T w M (some ⟨g,0,none⟩) cap xs) (d:Array α) (hd:d.size=xs.length) (n:Nat) (os:Array Obj) :
  Own r T (sortWorldK enc k w g 0 n d os) M (some ⟨g,0,none⟩) cap d.toList:=by
 rcases h with ⟨e,_⟩ | ⟨g',cur,e,hg,hb,h1,h2,h3,hl⟩
 ·cases e
 ·cases e
  have hdl:d.toList.length=xs.length:=by rw [Array.length_toList,hd]
  refine .inr ⟨g,putCells id 0 (flatK enc k d) cur,rfl,hg,sort_block hb d n os,by simp [putCells,h1],by rw [hdl];exact h2,h3,?_⟩
  rw [RL.flat hf,← flatK_list hk d.toList,hdl,hz]
  apply List.ext_getElem?
  intro t
  have hcs:xs.length*k≤cur.size:=by rw [h1,hz];exact Nat.mul_le_mul_right k h2
  rw [List.getElem?_take]
  by_cases ht:t < xs.length*k
  ·rw [if_pos ht,Array.getElem?_toList,Array.getElem?_toList]
   have hfl:t < (flatK enc k d).size:=by rw [size_flatK,hd];exact ht
   have hc:t < cur.size:=by omega
   simp only [putCells,Array.getElem?_mapIdx]
   rw [Array.getElem?_eq_getElem hc,Option.map_some,if_pos ⟨Nat.zero_le _,by omega⟩,Nat.sub_zero]
   show some (flatK enc k d)[t]! = (flatK enc k d.toList.toArray)[t]?
   rw [Array.toArray_toList,Array.getElem?_eq_getElem hfl,getElem!_pos _ t hfl]
  ·rw [if_neg ht,Array.getElem?_toList,Array.toArray_toList,Array.getElem?_eq_none (by rw [size_flatK,hd];omega)]
end
def BoxT (T:TypeId) (w:World) (g:Nat) (cs:List Value):Prop:=w.heap[g]? = some (.cells cs.toArray T (0,0))
theorem BoxT.box {T:TypeId} {w:World} {g:Nat} {cs:List Value} (h:BoxT T w g cs):Box w g cs:=⟨T,h⟩
theorem BoxT.chg {T:TypeId} {w w':World} {g:Nat} {cs:List Value} {gs:List Nat} (h:BoxT T w g cs) (hc:Chg gs w w') (hn:g∉gs):BoxT T w' g cs:=hc.at h hn
section
variable {P:Program} {n d:Nat} {ops:Array Oper} {Q:Exit→Act→World→Prop} {w w':World} {a:Act} {env:Env} {rest:List Oper} {o:Oper} {v:Value}
 {dd:Option Tmp} {ty:TypeId} {pos:String} {af:Array Edge} {gd:Option (Nat×Bool)}
theorem bxE {t:TypeId} {x:Operand} {cs:List Value} (ha:Has a n env) (hx:ev env x=some v) (hcs:v.cells=cs.toArray)
  (hg:gok ops env gd=some true) (hd:dd=some d) (hdn:Nat.blt d n=true)
  (hk:∀ a',Has a' n ((d,.pointer (some ⟨w.heap.size,0,none⟩))::env)→wpList P ops Q rest a' (w.alloc (.cells cs.toArray t))):wpList P ops Q (⟨dd,.box t x,ty,pos,af,gd⟩::rest) a w:=by
 refine hop (o:=⟨dd,.box t x,ty,pos,af,gd⟩) (w':=w.alloc (.cells v.cells t)) (v:=.pointer (some ⟨w.heap.size,0,none⟩)) ha hg hd hdn ?_ ?_
 ·simp [execOp,ha.ev hx,Instr.box,newVar,newRow,newObj,Sem.run]
 ·intro a' ha'
  rw [hcs]
  exact hk a' ha'
theorem slcE_run {α:Type} {r:Rep α} {t T:TypeId} {x:Operand} {lo hi:Option Operand} {M:List Nat} {ao:Option Addr} {cap:Nat} {xs:List α} {l h:Int}
  (ha:Has a n env) (ht:P.underlying t=some (.slice T)) (hs:(P.info? T).map (·.size)=some r.sz) (hx:ev env x=some (.slice ao xs.length cap))
  (hlo:(match lo with | none=>some 0 | some y=>(ev env y).bind fun | .int _ l=>some l | _=>none)=some l)
  (hhi:(match hi with | none=>some (xs.length:Int) | some y=>(ev env y).bind fun | .int _ l=>some l | _=>none)=some h)
  (hR:RSl r T w M ao cap xs) (h0:0≤l) (h1:l≤h) (h2:h≤xs.length) :
  ∀ w,(execOp a.eval ⟨dd,.slice t x lo hi none,ty,pos,af,gd⟩).run P w=.ok (.value (.slice (if cap=l.toNat then ao else ao.map (·.add (l.toNat*r.sz))) ((xs.take h.toNat).drop l.toNat).length (cap - l.toNat))) w:=by
 obtain ⟨inf,hi',hs⟩:=Option.map_eq_some_iff.1 hs
 have hcap:=hR.1
 have hlen:((xs.take h.toNat).drop l.toNat).length=h.toNat - l.toNat:=by simp;omega
 intro w
 have hlo':lo=none∧l=0∨∃ y k,lo=some y∧ev env y=some (.int k l):=by
  cases lo with
  | none=>exact .inl ⟨rfl,(Option.some.inj hlo).symm⟩
  | some y =>
   simp only at hlo
   cases he:ev env y with
   | none=>rw [he] at hlo;cases hlo
   | some u =>
    rw [he] at hlo
    cases u<;>first | (simp at hlo;done) | (simp at hlo;subst hlo;exact .inr ⟨y,_,rfl,he⟩)
 have hhi':hi=none∧h=xs.length∨∃ y k,hi=some y∧ev env y=some (.int k h):=by
  cases hi with
  | none=>exact .inl ⟨rfl,(Option.some.inj hhi).symm⟩
  | some y =>
   simp only at hhi
   cases he:ev env y with
   | none=>rw [he] at hhi;cases hhi
   | some u =>
    rw [he] at hhi
    cases u<;>first | (simp at hhi;done) | (simp at hhi;subst hhi;exact .inr ⟨y,_,rfl,he⟩)
 have hn1:((h.toNat:Nat):Int)=h:=by omega
 have hn2:((l.toNat:Nat):Int)=l:=by omega
 rw [hlen]
 rcases hlo' with ⟨rfl,rfl⟩ | ⟨y,k,rfl,ey⟩<;>rcases hhi' with ⟨rfl,rfl⟩ | ⟨z,k',rfl,ez⟩
 ·have e1:execOp a.eval ⟨dd,.slice t x none none none,ty,pos,af,gd⟩=(Instr.sliceAt t (.slice ao xs.length cap) none none none >>= fun v=>pure (Next.value v)):=by
   simp [execOp,ha.ev hx]
  refine execOp_val' e1 ?_
  simp [Instr.sliceAt,Instr.slice,Instr.sliceBounds,run_underlying ht,sizeOf,typeInfo,hi',hs]
 ·have e1:execOp a.eval ⟨dd,.slice t x none (some z) none,ty,pos,af,gd⟩=(Instr.sliceAt t (.slice ao xs.length cap) none (some (.int k' h)) none >>= fun v=>pure (Next.value v)):=by
   simp [execOp,ha.ev hx,ha.ev ez]
  refine execOp_val' e1 ?_
  simp [Instr.sliceAt,Instr.slice,Instr.sliceBounds,run_underlying ht,sizeOf,typeInfo,hi',hs,run_sliceBound w k' h cap _ (by omega) (by omega)]
 ·have e1:execOp a.eval ⟨dd,.slice t x (some y) none none,ty,pos,af,gd⟩=(Instr.sliceAt t (.slice ao xs.length cap) (some (.int k l)) none none >>= fun v=>pure (Next.value v)):=by
   simp [execOp,ha.ev hx,ha.ev ey]
  refine execOp_val' e1 ?_
  simp [Instr.sliceAt,Instr.slice,Instr.sliceBounds,run_underlying ht,sizeOf,typeInfo,hi',hs,run_sliceBound w k l xs.length _ (by omega) (by omega)]
 ·have e1:execOp a.eval ⟨dd,.slice t x (some y) (some z) none,ty,pos,af,gd⟩=(Instr.sliceAt t (.slice ao xs.length cap) (some (.int k l)) (some (.int k' h)) none >>= fun v=>pure (Next.value v)):=by
   simp [execOp,ha.ev hx,ha.ev ey,ha.ev ez]
  refine execOp_val' e1 ?_
  simp [Instr.sliceAt,Instr.slice,Instr.sliceBounds,run_underlying ht,sizeOf,typeInfo,hi',hs,run_sliceBound w k' h cap _ (by omega) (by omega),run_sliceBound w k l h.toNat _ (by omega) (by omega)]
theorem drqE {id:Nat} {Q:Exit→Act→World→Prop} {a:Act} {w:World} {l:List Oper} (S:World→Prop) (hm:P.follows .mixedOrders=true) (hB:Region.lexB .any l.toArray=true) (hS:S { w with drawn:=w.drawn+1 })
  (h:wpQuiet P l.toArray S (fun a'=>∀ w',S w'→wpList P l.toArray Q [] a' w') l a):(Code.region id l.toArray true).wp P Q a w :=
 wp_region_quiet (C:=S) hm hB hS (by
  refine Eq.mp ?_ h
  have:(fun a'=>∀ w',S w'→wpList P l.toArray Q [] a' w')=(fun a'=>∀ w',S w'→Q .normal a' w'):=by funext a';unfold wpList;rfl
  rw [this])
theorem clr {t e:TypeId} {x:Operand} {g o' nn cap s:Nat} {cs:List Value} {z:Value} {T:TypeId} (ha:Has a n env) (ht:P.underlying t=some (.slice e)) (hx:ev env x=some (.slice (some ⟨g,o',none⟩) nn cap))
  (hz:∀ w,(zeroValue e).run P w=.ok z w) (hs:z.cells.size=s) (h1:∀ v∈(Builtin.zeroCells z.cells nn).toList,v.oneCell'=true)
  (hg:gok ops env gd=some true) (hb:BoxT T w g cs) (ho:o'+(Builtin.zeroCells z.cells nn).toList.length≤cs.length)
  (hk:∀ a' w' cs',Has a' n env→BoxT T w' g cs'→cs'.take o'=cs.take o'→cs'.length=cs.length→Chg [g] w w'→wpList P ops Q rest a' w'):wpList P ops Q (⟨none,.call ⟨.builtin .clear,#[x],#[t]⟩,ty,pos,af,gd⟩::rest) a w:=by
 by_cases h0:nn=0
 ·subst h0
  refine hopn (o:=⟨none,.call ⟨.builtin .clear,#[x],#[t]⟩,ty,pos,af,gd⟩) (w':=w) (v:=.tuple #[]) ha hg rfl ?_ fun a' ha'=>hk a' w cs ha' hb rfl rfl (Chg.refl _ _)
  simp [execOp,ha.ev hx,builtin,Builtin.clear_,run_underlying ht,Sem.run,resolve,Deferred.ofValue,invoke]
 obtain ⟨m,rfl⟩:∃ m,nn=m+1:=⟨nn - 1,by omega⟩
 generalize hl:(Builtin.zeroCells z.cells (m+1)).toList=l at h1 ho
 have hst:=run_storeCells_at P g o' T l 0 cs.toArray w hb (by simpa using ho) h1
 rw [Nat.add_zero] at hst
 simp only [List.toList_toArray] at hst
 have hheap:(w.setRow g (cs.take o'++l++cs.drop (o'+l.length)).toArray).heap[g]? = some (.cells (cs.take o'++l++cs.drop (o'+l.length)).toArray T (0,0)):=setRow_heap w g _ _ T _ hb
 refine hopn (o:=⟨none,.call ⟨.builtin .clear,#[x],#[t]⟩,ty,pos,af,gd⟩) (w':=w.setRow g (cs.take o'++l++cs.drop (o'+l.length)).toArray) (v:=.tuple #[]) ha hg rfl ?_ fun a' ha'=>hk a' _ _ ha' hheap ?_ ?_ ?_
 ·simp [execOp,ha.ev hx,builtin,Builtin.clear_,run_underlying ht,resolve,Deferred.ofValue,invoke,hz w,hl,hst]
 ·rw [List.append_assoc,List.take_append_of_le_length (by rw [List.length_take];omega),List.take_of_length_le (by rw [List.length_take];omega)]
 ·simp;omega
 ·refine ⟨rfl,rfl,rfl,by simp [World.setRow],?_⟩
  intro k hk' hn
  simp only [World.setRow,Array.getElem?_modify]
  rw [if_neg (fun e=>hn (by simp [e]))]
theorem stAT {t:TypeId} {x y:Operand} {g o':Nat} {ad:Addr} {cs l:List Value} {ty:TypeId} {pos:String} {af:Array Edge} {gd:Option (Nat×Bool)} {T:TypeId} (ha:Has a n env) (hx:ev env x=some (.pointer (some ad))) (hy:ev env y=some (.agg l.toArray))
  (he:ad=⟨g,o',none⟩) (hsz:((P.info? t).map (·.size))=some l.length) (h1:l.all (·.oneCell')=true)
  (hg:gok ops env gd=some true) (hb:BoxT T w g cs) (ho:Nat.ble (o'+l.length) cs.length=true)
  (hk:∀ a' w',Has a' n env→BoxT T w' g (cs.take o'++l++cs.drop (o'+l.length))→Chg [g] w w'→w'.heap.size=w.heap.size→wpList P ops Q rest a' w'):wpList P ops Q (⟨none,.store t x y,ty,pos,af,gd⟩::rest) a w:=by
 subst he
 obtain ⟨i,hi,hs⟩:=Option.map_eq_some_iff.1 hsz
 have ho':o'+l.length≤cs.length:=Nat.le_of_ble_eq_true ho
 have hv:(Value.agg l.toArray).cells=l.toArray:=rfl
 have hrun:(Instr.storeAt t (.pointer (some ⟨g,o',none⟩)) (.agg l.toArray)).run P w=.ok () (w.setRow g (cs.take o'++l++cs.drop (o'+l.length)).toArray):=by
  have hst:=run_storeCells_at P g o' T l 0 cs.toArray w hb (by simpa using ho') (fun v hv=>List.all_eq_true.1 h1 v hv)
  rw [Nat.add_zero] at hst
  simp only [List.toList_toArray] at hst
  simp [Instr.storeAt,Instr.sureAddr,storeVar,sizeOf,typeInfo,hi,hs,hv,hst]
 have hheap:(w.setRow g (cs.take o'++l++cs.drop (o'+l.length)).toArray).heap[g]? = some (.cells (cs.take o'++l++cs.drop (o'+l.length)).toArray T (0,0)):=setRow_heap w g _ _ T _ hb
 refine hops (o:=⟨none,.store t x y,ty,pos,af,gd⟩) (w':=w.setRow g (cs.take o'++l++cs.drop (o'+l.length)).toArray) ha hg rfl ?_ ?_
 ·simp [execOp,ha.ev hx,ha.ev hy,hrun]
 ·intro a' ha'
  refine hk a' _ ha' hheap ?_ ?_
  ·refine ⟨rfl,rfl,rfl,by simp [World.setRow],?_⟩
   intro k hk' hn
   simp only [World.setRow,Array.getElem?_modify]
   rw [if_neg (fun e=>hn (by simp [e]))]
  ·simp [World.setRow]
end
end Go.E
