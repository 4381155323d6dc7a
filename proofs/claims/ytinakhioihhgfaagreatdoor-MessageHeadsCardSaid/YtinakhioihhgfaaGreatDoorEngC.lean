/- The rules by which these proofs step through the code, part C. -/
import Derived.Test.YtinakhioihhgfaaGreatDoorEngB
import Derived.Deep.LoopGhost
import Derived.Laws.IdiomStrings
set_option linter.unusedVariables false
set_option linter.unusedSimpArgs false
namespace Go.E
open Go.RowKit
def gok (ops:Array Oper) (env:Env):Option (Nat×Bool)→Option Bool
 | none=>some true
 | some (j,want) =>
  match (ops[j]?).bind (·.dst) with
  | some t=>match look env t with
   | some (.bool b)=>some (b==want)
   | some (.tuple _)=>some false
   | _=>none
  | none=>none
theorem gok_wanted {a:Act} {n:Nat} {env:Env} (ha:Has a n env) {ops:Array Oper} {o:Oper} {b:Bool} (h:gok ops env o.guard=some b):Region.wanted o (yielded ops a.tmps)=b:=by
 unfold Region.wanted
 cases hg:o.guard with
 | none=>rw [hg] at h;exact Option.some.inj h
 | some jw =>
  obtain ⟨j,want⟩:=jw
  rw [hg] at h
  simp only [gok] at h
  split at h
  ·rename_i t ht
   split at h
   ·rename_i c hl
    obtain rfl:=Option.some.inj h
    have hlt:=ha.lt t _ hl
    have hget:a.tmps[t]? = some (.bool c):=by
     have h1:t < a.tmps.size:=by rw [ha.size];exact hlt
     have h2:=ha.vals t _ hl
     simp only [Array.getD,h1,dif_pos] at h2
     rw [Array.getElem?_eq_getElem h1];exact congrArg some h2
    have hy:yielded ops a.tmps j=some c:=by
     unfold yielded;rw [ht];simp only [Option.bind_some,hget]
    simp only [hy]
    cases c<;>cases want<;>rfl
   ·rename_i c hl
    obtain rfl:=Option.some.inj h
    have hlt:=ha.lt t _ hl
    have hget:a.tmps[t]? = some (.tuple c):=by
     have h1:t < a.tmps.size:=by rw [ha.size];exact hlt
     have h2:=ha.vals t _ hl
     simp only [Array.getD,h1,dif_pos] at h2
     rw [Array.getElem?_eq_getElem h1];exact congrArg some h2
    have hy:yielded ops a.tmps j=none:=by
     unfold yielded;rw [ht];simp only [Option.bind_some,hget]
    simp only [hy]
    rfl
   ·cases h
  ·cases h
section
variable {P:Program} {n d:Nat} {ops:Array Oper} {Q:Exit→Act→World→Prop} {w w':World} {a:Act} {env:Env} {rest:List Oper} {o:Oper} {v:Value}
theorem hop (ha:Has a n env) (hg:gok ops env o.guard=some true) (hd:o.dst=some d) (hdn:Nat.blt d n=true) (hrun:(execOp a.eval o).run P w=.ok (.value v) w')
  (hk:∀ a',Has a' n ((d,v)::env)→wpList P ops Q rest a' w'):wpList P ops Q (o::rest) a w:=by
 unfold wpList
 rw [if_pos (gok_wanted ha hg)]
 refine .inl ?_
 unfold Oper.wp
 rw [hrun,Oper.upon_value,hd]
 exact hk _ (ha.put hdn v)
theorem hops (ha:Has a n env) (hg:gok ops env o.guard=some true) (hd:o.dst=none) (hrun:(execOp a.eval o).run P w=.ok .skip w')
  (hk:∀ a',Has a' n env→wpList P ops Q rest a' w'):wpList P ops Q (o::rest) a w:=by
 unfold wpList
 rw [if_pos (gok_wanted ha hg)]
 refine .inl ?_
 unfold Oper.wp
 rw [hrun,Oper.upon_skip,hd]
 exact hk _ (ha.put_none _)
def oneB (P:Program) (t:TypeId):Bool:=match P.underlying t with | some (.struct _) | some (.array ..) | none=>false | _=>true
theorem isAgg_one {t:TypeId} (h:oneB P t=true) (w:World):(isAgg t).run P w=.ok false w:=by
 unfold oneB at h
 split at h
 ·cases h
 ·cases h
 ·cases h
 ·rename_i hs ha hn
  cases hu:P.underlying t with
  | none=>exact absurd hu hn
  | some d =>
   unfold isAgg
   rw [run_bind (run_underlying hu w)]
   cases d with
   | struct f=>exact absurd hu (hs f)
   | array l e=>exact absurd hu (ha l e)
   | _=>rfl
theorem ld {t:TypeId} {x:Operand} {ad:Addr} {dd:Option Tmp} {ty:TypeId} {pos:String} {af:Array Edge} {gd:Option (Nat×Bool)} (ha:Has a n env) (hx:ev env x=some (.pointer (some ad))) (ht:oneB P t=true)
  (hg:gok ops env gd=some true) (hd:dd=some d) (hdn:Nat.blt d n=true) (hc:w.cell? ad=some v)
  (hk:∀ a',Has a' n ((d,v)::env)→wpList P ops Q rest a' w):wpList P ops Q (⟨dd,.load t x,ty,pos,af,gd⟩::rest) a w:=by
 refine hop (o:=⟨dd,.load t x,ty,pos,af,gd⟩) ha hg hd hdn ?_ hk
 refine execOp_val (s:=Instr.loadAt t (.pointer (some ad))) (by simp [execOp,ha.ev hx]) ?_
 simp [Instr.loadAt,Instr.sureAddr,loadVar,isAgg_one ht,load,Sem.run,hc]
def Box (w:World) (g:Nat) (cs:List Value):Prop:=∃ T,w.heap[g]? = some (.cells cs.toArray T (0,0))
theorem Box.chg {g:Nat} {cs:List Value} {gs:List Nat} (h:Box w g cs) (hc:Chg gs w w') (hn:g∉gs):Box w' g cs:=by
 obtain ⟨T,h⟩:=h;exact ⟨T,hc.at h hn⟩
theorem Box.lt {g:Nat} {cs:List Value} (h:Box w g cs):g < w.heap.size:=by obtain ⟨T,h⟩:=h;exact lt_size h
theorem Box.cell {g:Nat} {cs:List Value} (h:Box w g cs) {o:Nat} (hv:cs[o]? = some v):w.cell? ⟨g,o,none⟩=some v:=by
 obtain ⟨T,h⟩:=h
 rw [cell_of_row w g o _ T (0,0) h];simpa using hv
theorem Box.cell' {g:Nat} {cs:List Value} (h:Box w g cs) {ad:Addr} {o:Nat} (he:ad=⟨g,o,none⟩) (hv:cs[o]? = some v):w.cell? ad=some v:=he ▸ h.cell hv
theorem st {t:TypeId} {x y:Operand} {g o':Nat} {ad:Addr} {cs:List Value} {ty:TypeId} {pos:String} {af:Array Edge} {gd:Option (Nat×Bool)} (ha:Has a n env) (hx:ev env x=some (.pointer (some ad))) (hy:ev env y=some v)
  (he:ad=⟨g,o',none⟩) (hsz:((P.info? t).map (·.size))=some 1) (h1:v.oneCell'=true)
  (hg:gok ops env gd=some true) (hb:Box w g cs) (ho:o' < cs.length)
  (hk:∀ a' w',Has a' n env→Box w' g (cs.set o' v)→Chg [g] w w'→w'.heap.size=w.heap.size→wpList P ops Q rest a' w'):wpList P ops Q (⟨none,.store t x y,ty,pos,af,gd⟩::rest) a w:=by
 subst he
 obtain ⟨T,hb⟩:=hb
 obtain ⟨i,hi,hs⟩:=Option.map_eq_some_iff.1 hsz
 have hv:v.cells=#[v]:=by cases v<;>first | rfl | simp [Value.oneCell'] at h1
 have hrun:(Instr.storeAt t (.pointer (some ⟨g,o',none⟩)) v).run P w=.ok () (w.setRow g (cs.set o' v).toArray):=by
  have hst:=run_storeCells_at P g o' T [v] 0 cs.toArray w hb (by simp;omega) (by simpa using h1)
  have e:(cs.toArray.toList.take (o'+0)++[v]++cs.toArray.toList.drop (o'+0+[v].length))=cs.set o' v:=by
   simp [List.set_eq_take_append_cons_drop,ho]
  rw [e] at hst
  simp [Instr.storeAt,Instr.sureAddr,storeVar,sizeOf,typeInfo,hi,hs,hv,hst]
 have hheap:(w.setRow g (cs.set o' v).toArray).heap[g]? = some (.cells (cs.set o' v).toArray T (0,0)):=setRow_heap w g _ _ T _ hb
 refine hops (o:=⟨none,.store t x y,ty,pos,af,gd⟩) (w':=w.setRow g (cs.set o' v).toArray) ha hg rfl ?_ ?_
 ·simp [execOp,ha.ev hx,ha.ev hy,hrun]
 ·intro a' ha'
  refine hk a' _ ha' ⟨T,hheap⟩ ?_ ?_
  ·refine ⟨rfl,rfl,rfl,by simp [World.setRow],?_⟩
   intro k hk' hn
   simp only [World.setRow,Array.getElem?_modify]
   rw [if_neg (fun e=>hn (by simp [e]))]
  ·simp [World.setRow]
structure New (w w':World) (g:Nat) (o:Obj):Prop where
 idx:g=w.heap.size
 at_:w'.heap[g]? = some o
 chg:Chg [] w w'
 size:w'.heap.size=g+1
theorem New.alloc (w:World) (o:Obj):New w (w.alloc o) w.heap.size o:=by
 refine ⟨rfl,heap_alloc_new w o,⟨rfl,rfl,rfl,by simp,fun k hk _=>heap_alloc_old w o hk⟩,by simp⟩
theorem New.box {g:Nat} {cs:List Value} {T:TypeId} (h:New w w' g (.cells cs.toArray T (0,0))):Box w' g cs:=⟨T,h.at_⟩
theorem New.ge {g:Nat} {ob:Obj} (h:New w w' g ob):w.heap.size≤g:=by rw [h.idx];exact Nat.le_refl _
theorem bx {t:TypeId} {x:Operand} {dd:Option Tmp} {cs:List Value} {ty:TypeId} {pos:String} {af:Array Edge} {gd:Option (Nat×Bool)} (ha:Has a n env) (hx:ev env x=some v) (hcs:v.cells=cs.toArray)
  (hg:gok ops env gd=some true) (hd:dd=some d) (hdn:Nat.blt d n=true)
  (hk:∀ a' w' g,New w w' g (.cells cs.toArray t (0,0))→Has a' n ((d,.pointer (some ⟨g,0,none⟩))::env)→wpList P ops Q rest a' w'):wpList P ops Q (⟨dd,.box t x,ty,pos,af,gd⟩::rest) a w:=by
 refine hop (o:=⟨dd,.box t x,ty,pos,af,gd⟩) (w':=w.alloc (.cells v.cells t)) (v:=.pointer (some ⟨w.heap.size,0,none⟩)) ha hg hd hdn ?_ ?_
 ·simp [execOp,ha.ev hx,Instr.box,newVar,newRow,newObj,Sem.run]
 ·intro a' ha'
  rw [hcs]
  exact hk a' _ _ (New.alloc w _) ha'
theorem parts_eq (ha:Has a n env) {parts:Array (Nat×Operand)} {vals:List Value} (hp:parts.toList.map (fun p=>ev env p.2)=vals.map some) :
  (parts.map fun p=>(p.1,a.eval p.2))=(parts.toList.zip vals |>.map fun p=>(p.1.1,p.2)).toArray:=by
 apply Array.ext'
 simp only [Array.toList_map]
 generalize parts.toList=l at *
 induction l generalizing vals with
 | nil=>simp
 | cons p l ih =>
  cases vals with
  | nil=>simp at hp
  | cons u vals =>
   simp only [List.map_cons,List.cons.injEq] at hp
   simp only [List.map_cons,List.zip_cons_cons,List.cons.injEq,Prod.mk.injEq,true_and]
   exact ⟨ha.ev hp.1,ih hp.2⟩
theorem bsl {t T:TypeId} {len:Nat} {parts:Array (Nat×Operand)} {vals:List Value} {dd:Option Tmp} {ty:TypeId} {pos:String} {af:Array Edge} {gd:Option (Nat×Bool)} (ha:Has a n env)
  (hp:parts.toList.map (fun p=>ev env p.2)=vals.map some) (cs:List Value)
  (hrun:∀ w,(Instr.buildSlice t len (parts.toList.zip vals |>.map fun p=>(p.1.1,p.2)).toArray).run P w=.ok (.slice (some ⟨w.heap.size,0,none⟩) len len) (w.alloc (.cells cs.toArray T)))
  (hg:gok ops env gd=some true) (hd:dd=some d) (hdn:Nat.blt d n=true)
  (hk:∀ a' w' g,New w w' g (.cells cs.toArray T (0,0))→Has a' n ((d,.slice (some ⟨g,0,none⟩) len len)::env)→wpList P ops Q rest a' w'):wpList P ops Q (⟨dd,.buildSlice t len parts,ty,pos,af,gd⟩::rest) a w:=by
 have hr:(execOp a.eval ⟨dd,.buildSlice t len parts,ty,pos,af,gd⟩).run P w=.ok (.value (.slice (some ⟨w.heap.size,0,none⟩) len len)) (w.alloc (.cells cs.toArray T)):=by
  have e:execOp a.eval ⟨dd,.buildSlice t len parts,ty,pos,af,gd⟩=(Instr.buildSlice t len (parts.toList.zip vals |>.map fun p=>(p.1.1,p.2)).toArray >>= fun v=>pure (Next.value v)):=by
   rw [← parts_eq ha hp];rfl
  exact execOp_val' e (hrun w)
 exact hop ha hg hd hdn hr (fun a' ha'=>hk a' _ _ (New.alloc w _) ha')
end
end Go.E
