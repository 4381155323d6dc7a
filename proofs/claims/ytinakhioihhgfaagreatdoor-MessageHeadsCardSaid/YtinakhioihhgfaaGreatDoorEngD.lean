/- The rules by which these proofs step through the code, part D. -/
import Derived.Test.YtinakhioihhgfaaGreatDoorEngC
import Derived.Deep.OwnRows
set_option linter.unusedVariables false
set_option linter.unusedSimpArgs false
namespace Go.E
open Go.RowKit
section
variable {P:Program} {n d:Nat} {ops:Array Oper} {Q:Exit→Act→World→Prop} {w w':World} {a:Act} {env:Env} {rest:List Oper} {o:Oper} {v:Value}
 {dd:Option Tmp} {ty:TypeId} {pos:String} {af:Array Edge} {gd:Option (Nat×Bool)}
def evF (env:Env) (x:Operand):Value:=(ev env x).getD undef
def allB (env:Env) (o:Oper):Bool:=o.op.operands.toList.all fun x=>(ev env x).isSome
def selB (o:Oper):Bool:=match o.op with | .select ..=>true | _=>false
theorem opk (ha:Has a n env) (hd:o.dst=some d) (hdn:Nat.blt d n=true) (hg:gok ops env o.guard=some true) (hall:allB env o=true) (hsel:selB o=false)
  (hrun:∀ w,(execOp (evF env) o).run P w=.ok (.value v) w)
  (hk:∀ a',Has a' n ((d,v)::env)→wpList P ops Q rest a' w):wpList P ops Q (o::rest) a w:=by
 refine hop (v:=v) (w':=w) ha hg hd hdn ?_ hk
 rw [execOp_congr o (fun cs b e=>by rw [selB,e] at hsel;cases hsel) (ρ':=evF env) ?_]
 ·exact hrun w
 ·intro x hx
  have h1:(ev env x).isSome=true:=by
   exact List.all_eq_true.1 hall x (by simpa using hx)
  cases h2:ev env x with
  | none=>rw [h2] at h1;cases h1
  | some u=>rw [ha.ev h2];simp [evF,h2]
theorem app {α:Type} {r:Rep α} {t T:TypeId} {bytes:Nat} {x y:Operand} {M:List Nat} {ao ao2:Option Addr} {cap cap2:Nat} {xs ys:List α}
  (ha:Has a n env) (ht:ElemT P t T r.sz bytes) (hx:ev env x=some (.slice ao xs.length cap)) (hy:ev env y=some (.slice ao2 ys.length cap2))
  (hg:gok ops env gd=some true) (hd:dd=some d) (hdn:Nat.blt d n=true) (h:Own r T w M ao cap xs) (h2:Src r T w M ao2 cap2 ys)
  (hb:(xs.length+ys.length)*bytes≤140737488355328) (hb1:0 < bytes)
  (hk:∀ a' w' ao' cap',Own r T w' (blkL ao'++M) ao' cap' (xs++ys)→Chg (blkL ao) w w'→Ok (blkL ao') (blkL ao) w.heap.size→(∀ g∈blkL ao',g < w'.heap.size) →
   Has a' n ((d,.slice ao' (xs++ys).length cap')::env)→wpList P ops Q rest a' w') :
  wpList P ops Q (⟨dd,.call ⟨.builtin .append,#[x,y],#[t,t]⟩,ty,pos,af,gd⟩::rest) a w:=by
 have h63:xs.length+ys.length≤maxLen:=by
  have:(xs.length+ys.length)*1≤(xs.length+ys.length)*bytes:=Nat.mul_le_mul_left _ hb1
  simp only [maxLen];omega
 obtain ⟨ao',cap',w',hrun,q1,q2,q3,q4⟩:=run_append ht ty h h2 hb h63
 have hr:(execOp a.eval ⟨dd,.call ⟨.builtin .append,#[x,y],#[t,t]⟩,ty,pos,af,gd⟩).run P w=.ok (.value (.slice ao' (xs++ys).length cap')) w':=by
  have e:execOp a.eval ⟨dd,.call ⟨.builtin .append,#[x,y],#[t,t]⟩,ty,pos,af,gd⟩=(Builtin.append_ #[t,t] ty #[.slice ao xs.length cap,.slice ao2 ys.length cap2] >>= fun v=>pure (Next.value v)):=by
   simp [execOp,resolve,invoke,builtin,ha.ev hx,ha.ev hy]
  exact execOp_val' e hrun
 exact hop ha hg hd hdn hr (fun a' ha'=>hk a' _ _ _ q1 q2 q3 q4 ha')
theorem ix {α:Type} {r:Rep α} {t T:TypeId} {x y:Operand} {M:List Nat} {ao:Option Addr} {cap:Nat} {xs:List α} {k:IntKind} {i:Int}
  (ha:Has a n env) (ht:P.underlying t=some (.slice T)) (hs:(P.info? T).map (·.size)=some r.sz) (hx:ev env x=some (.slice ao xs.length cap)) (hy:ev env y=some (.int k i))
  (hg:gok ops env gd=some true) (hd:dd=some d) (hdn:Nat.blt d n=true) (h:RSl r T w M ao cap xs) (h0:0≤i) (h1:i < xs.length)
  (hk:∀ a' g o cs,g∉M→r.R w M cs (xs[i.toNat]'(by omega))→(∀ j v,cs[j]? = some v→w.cell? ⟨g,o+j,none⟩=some v)→Has a' n ((d,.pointer (some ⟨g,o,none⟩))::env)→wpList P ops Q rest a' w) :
  wpList P ops Q (⟨dd,.indexAddr t x y,ty,pos,af,gd⟩::rest) a w:=by
 obtain ⟨g,o,cs,e,q1,q2,q3⟩:=h.elem i.toNat (by omega)
 obtain ⟨inf,hi,hs⟩:=Option.map_eq_some_iff.1 hs
 have hr:(execOp a.eval ⟨dd,.indexAddr t x y,ty,pos,af,gd⟩).run P w=.ok (.value (.pointer (some ⟨g,o+i.toNat*r.sz,none⟩))) w:=by
  have e1:execOp a.eval ⟨dd,.indexAddr t x y,ty,pos,af,gd⟩=(Instr.indexAt t (.slice ao xs.length cap) (.int k i) >>= fun v=>pure (Next.value v)):=by
   simp [execOp,ha.ev hx,ha.ev hy]
  refine execOp_val' e1 ?_
  subst e
  simp [Instr.indexAt,asIntOf,run_underlying ht,sizeOf,typeInfo,hi,hs,h0,h1,Addr.add_lit]
 exact hop ha hg hd hdn hr (fun a' ha'=>hk a' g _ cs q1 q2 q3 ha')
theorem slc_run {α:Type} {r:Rep α} {t T:TypeId} {x:Operand} {lo hi:Option Operand} {M:List Nat} {ao:Option Addr} {cap:Nat} {xs:List α} {l h:Int}
  (ha:Has a n env) (ht:P.underlying t=some (.slice T)) (hs:(P.info? T).map (·.size)=some r.sz) (hx:ev env x=some (.slice ao xs.length cap))
  (hlo:(match lo with | none=>some 0 | some y=>(ev env y).bind fun | .int _ l=>some l | _=>none)=some l)
  (hhi:(match hi with | none=>some (xs.length:Int) | some y=>(ev env y).bind fun | .int _ l=>some l | _=>none)=some h)
  (hR:RSl r T w M ao cap xs) (h0:0≤l) (h1:l≤h) (h2:h≤xs.length) :
  ∃ ao' cap',RSl r T w M ao' cap' ((xs.take h.toNat).drop l.toNat)∧∀ w,(execOp a.eval ⟨dd,.slice t x lo hi none,ty,pos,af,gd⟩).run P w=.ok (.value (.slice ao' ((xs.take h.toNat).drop l.toNat).length cap')) w:=by
 obtain ⟨inf,hi',hs⟩:=Option.map_eq_some_iff.1 hs
 have hcap:=hR.1
 have hlen:((xs.take h.toNat).drop l.toNat).length=h.toNat - l.toNat:=by simp;omega
 refine ⟨_,_,hR.slice l.toNat h.toNat (by omega) (by omega),fun w=>?_⟩
 have hlo':lo=none∧l=0∨∃ y k,lo=some y∧ev env y=some (.int k l):=by
  cases lo with
  | none=>exact .inl ⟨rfl,(Option.some.inj hlo).symm⟩
  | some y =>
   simp only at hlo
   cases he:ev env y with
   | none=>rw [he] at hlo;cases hlo
   | some u =>
    rw [he] at hlo
    cases u<;>first | (simp at hlo;done) | (simp at hlo;subst hlo;exact .inr ⟨y,_,rfl,he⟩)
 have hhi':hi=none∧h=xs.length∨∃ y k,hi=some y∧ev env y=some (.int k h):=by
  cases hi with
  | none=>exact .inl ⟨rfl,(Option.some.inj hhi).symm⟩
  | some y =>
   simp only at hhi
   cases he:ev env y with
   | none=>rw [he] at hhi;cases hhi
   | some u =>
    rw [he] at hhi
    cases u<;>first | (simp at hhi;done) | (simp at hhi;subst hhi;exact .inr ⟨y,_,rfl,he⟩)
 have hn1:((h.toNat:Nat):Int)=h:=by omega
 have hn2:((l.toNat:Nat):Int)=l:=by omega
 rw [hlen]
 rcases hlo' with ⟨rfl,rfl⟩ | ⟨y,k,rfl,ey⟩<;>rcases hhi' with ⟨rfl,rfl⟩ | ⟨z,k',rfl,ez⟩
 ·have e1:execOp a.eval ⟨dd,.slice t x none none none,ty,pos,af,gd⟩=(Instr.sliceAt t (.slice ao xs.length cap) none none none >>= fun v=>pure (Next.value v)):=by
   simp [execOp,ha.ev hx]
  refine execOp_val' e1 ?_
  simp [Instr.sliceAt,Instr.slice,Instr.sliceBounds,run_underlying ht,sizeOf,typeInfo,hi',hs]
 ·have e1:execOp a.eval ⟨dd,.slice t x none (some z) none,ty,pos,af,gd⟩=(Instr.sliceAt t (.slice ao xs.length cap) none (some (.int k' h)) none >>= fun v=>pure (Next.value v)):=by
   simp [execOp,ha.ev hx,ha.ev ez]
  refine execOp_val' e1 ?_
  simp [Instr.sliceAt,Instr.slice,Instr.sliceBounds,run_underlying ht,sizeOf,typeInfo,hi',hs,run_sliceBound w k' h cap _ (by omega) (by omega)]
 ·have e1:execOp a.eval ⟨dd,.slice t x (some y) none none,ty,pos,af,gd⟩=(Instr.sliceAt t (.slice ao xs.length cap) (some (.int k l)) none none >>= fun v=>pure (Next.value v)):=by
   simp [execOp,ha.ev hx,ha.ev ey]
  refine execOp_val' e1 ?_
  simp [Instr.sliceAt,Instr.slice,Instr.sliceBounds,run_underlying ht,sizeOf,typeInfo,hi',hs,run_sliceBound w k l xs.length _ (by omega) (by omega)]
 ·have e1:execOp a.eval ⟨dd,.slice t x (some y) (some z) none,ty,pos,af,gd⟩=(Instr.sliceAt t (.slice ao xs.length cap) (some (.int k l)) (some (.int k' h)) none >>= fun v=>pure (Next.value v)):=by
   simp [execOp,ha.ev hx,ha.ev ey,ha.ev ez]
  refine execOp_val' e1 ?_
  simp [Instr.sliceAt,Instr.slice,Instr.sliceBounds,run_underlying ht,sizeOf,typeInfo,hi',hs,run_sliceBound w k' h cap _ (by omega) (by omega),run_sliceBound w k l h.toNat _ (by omega) (by omega)]
theorem slc {α:Type} {r:Rep α} {t T:TypeId} {x:Operand} {lo hi:Option Operand} {M:List Nat} {ao:Option Addr} {cap:Nat} {xs:List α} {l h:Int}
  (ha:Has a n env) (ht:P.underlying t=some (.slice T)) (hs:(P.info? T).map (·.size)=some r.sz) (hx:ev env x=some (.slice ao xs.length cap))
  (hlo:(match lo with | none=>some 0 | some y=>(ev env y).bind fun | .int _ l=>some l | _=>none)=some l)
  (hhi:(match hi with | none=>some (xs.length:Int) | some y=>(ev env y).bind fun | .int _ l=>some l | _=>none)=some h)
  (hg:gok ops env gd=some true) (hd:dd=some d) (hdn:Nat.blt d n=true) (hR:RSl r T w M ao cap xs) (h0:0≤l) (h1:l≤h) (h2:h≤xs.length)
  (hk:∀ a' ao' cap',RSl r T w M ao' cap' ((xs.take h.toNat).drop l.toNat)→Has a' n ((d,.slice ao' ((xs.take h.toNat).drop l.toNat).length cap')::env)→wpList P ops Q rest a' w) :
  wpList P ops Q (⟨dd,.slice t x lo hi none,ty,pos,af,gd⟩::rest) a w:=by
 obtain ⟨ao',cap',hR',hr⟩:=slc_run (dd:=dd) (ty:=ty) (pos:=pos) (af:=af) (gd:=gd) ha ht hs hx hlo hhi hR h0 h1 h2
 exact hop ha hg hd hdn (hr w) (fun a' ha'=>hk a' _ _ hR' ha')
def bodyB (P:Program) (f:FuncId):Bool:=match P.funcs[f]? with | some fn=>!(fn.name == "runtime.NumGoroutine") && fn.body.isSome | none=>false
theorem run_callFunc {f:FuncId} (h:bodyB P f=true) (args:Array Value) (w:World):(callFunc f args).run P w=.ok (.enter f args) w:=by
 unfold bodyB at h
 split at h
 ·rename_i fn hf
  simp only [Bool.and_eq_true,Bool.not_eq_true'] at h
  obtain ⟨h1,h2⟩:=h
  have h3:fn.body.isNone=false:=by cases hb:fn.body<;>simp_all
  have h1':fn.name ≠ "runtime.NumGoroutine" := by simpa using h1
  have h2':fn.body≠none:=by intro e;rw [e] at h3;cases h3
  simp [callFunc,program,Sem.run,hf,h1',h2']
 ·cases h
def To (P:Program) (f:FuncId) (args:List Value) (w:World) (R:Value→World→Prop):Prop:=Calls P f args.toArray w fun e w'=>∃ v,e=.returned v∧R v w'
theorem To.mono {f:FuncId} {args:List Value} {R R':Value→World→Prop} (h:To P f args w R) (hr:∀ v w',R v w'→R' v w'):To P f args w R' :=
 Calls.mono h fun _ _ ⟨v,e,hv⟩=>⟨v,e,hr _ _ hv⟩
theorem args_eq (ha:Has a n env) {xs:Array Operand} {vals:List Value} (hv:xs.toList.map (ev env)=vals.map some):xs.map a.eval=vals.toArray:=by
 have hargs:∀ (l:List Operand) (vals:List Value),l.map (ev env)=vals.map some→l.map a.eval=vals:=by
  intro l
  induction l with
  | nil=>intro vals hv;cases vals with
   | nil=>rfl
   | cons _ _=>simp at hv
  | cons x l ih =>
   intro vals hv
   cases vals with
   | nil=>simp at hv
   | cons u vals =>
    simp only [List.map_cons,List.cons.injEq] at hv
    simp only [List.map_cons,List.cons.injEq]
    exact ⟨ha.ev hv.1,ih vals hv.2⟩
 apply Array.ext'
 simp only [Array.toList_map]
 exact hargs _ _ hv
theorem cl {f:FuncId} {xs:Array Operand} {tys:Array TypeId} {vals:List Value} {R:Value→World→Prop} (ha:Has a n env)
  (hv:xs.toList.map (ev env)=vals.map some) (hB:bodyB P f=true)
  (hg:gok ops env gd=some true) (hd:dd=some d) (hdn:Nat.blt d n=true) (hC:To P f vals w R)
  (hk:∀ v w',R v w'→∀ a',Has a' n ((d,v)::env)→wpList P ops Q rest a' w') :
  wpList P ops Q (⟨dd,.call ⟨.value (.func f),xs,tys⟩,ty,pos,af,gd⟩::rest) a w:=by
 have hargs:=args_eq ha hv
 have hrun:(execOp a.eval ⟨dd,.call ⟨.value (.func f),xs,tys⟩,ty,pos,af,gd⟩).run P w=.ok (.enter f vals.toArray) w:=by
  have e:execOp a.eval ⟨dd,.call ⟨.value (.func f),xs,tys⟩,ty,pos,af,gd⟩=callFunc f vals.toArray:=by
   simp [execOp,resolve,Act.eval,Deferred.ofValue,invoke,hargs]
  rw [e];exact run_callFunc hB _ w
 unfold wpList
 rw [if_pos (gok_wanted ha hg)]
 refine .inl ?_
 unfold Oper.wp
 rw [hrun,Oper.upon_enter]
 refine Calls.mono hC fun e w' ⟨v,he,hR⟩=>?_
 subst he
 subst hd
 exact hk v w' hR _ (ha.put hdn v)
/-! ### the forms of code -/
theorem look_args {args:List Value} {env:Env} (he:env.map (fun p=>args[p.1]?)=env.map (fun p=>some p.2)):∀ i v,look env i=some v→args[i]? = some v:=by
 intro i v hv
 induction env with
 | nil=>simp [look] at hv
 | cons p r ih =>
  obtain ⟨j,u⟩:=p
  simp only [List.map_cons,List.cons.injEq] at he
  rw [look_cons] at hv
  split at hv
  ·rename_i e;subst e;obtain rfl:=Option.some.inj hv;exact he.1
  ·exact ih he.2 hv
theorem ent {f:FuncId} {fn:Func} {c:Code} {args:List Value} {R:Value→World→Prop} (hf:P.funcs[f]? = some fn) (hb:fn.body=some c) (env:Env)
  (he:env.map (fun p=>args[p.1]?)=env.map (fun p=>some p.2)) (hl:Nat.ble args.length fn.ntmps=true)
  (h:∀ a,Has a fn.ntmps env→c.wp P (bodyPost P fn fun e w'=>∃ v,e=.returned v∧R v w') a w):To P f args w R:=by
 have hl':args.length≤fn.ntmps:=Nat.le_of_ble_eq_true hl
 refine calls_of_wp hf hb (h _ ⟨rfl,by simp;omega,fun i v hv=>?_,fun i v hv=>?_⟩)
 ·have:=look_args he i v hv
  have hlt:=(List.getElem?_eq_some_iff.1 this).1
  simp only [Array.getD_eq_getD_getElem?]
  rw [Array.getElem?_append_left (by simpa using hlt)]
  simp [this]
 ·have:=(List.getElem?_eq_some_iff.1 (look_args he i v hv)).1
  omega
theorem cnd {c:Operand} {x y:Code} {b:Bool} (ha:Has a n env) (h:ev env c=some (.bool b)) (ht:b=true→x.wp P Q a w) (hf:b=false→y.wp P Q a w):(Code.cond c x y).wp P Q a w :=
 wp_cond_split (ha.ev h) ht hf
theorem rt1 {fn:Func} {t:Tmp} {R:Value→World→Prop} (ha:Has a n env) (hr:fn.results=#[.tmp t]) (h:look env t=some v) (hR:R v w) :
  bodyPost P fn (fun e w'=>∃ v,e=.returned v∧R v w') .ret a w:=by
 refine bodyPost_ret (results_tmp hr _ _ _) ha.defers ⟨_,rfl,?_⟩
 rw [ha.vals t v h];exact hR
theorem rt2 {fn:Func} {t u:Tmp} {v1 v2:Value} {R:Value→World→Prop} (ha:Has a n env) (hr:fn.results=#[.tmp t,.tmp u]) (h:look env t=some v1) (h2:look env u=some v2) (hR:R (.tuple #[v1,v2]) w) :
  bodyPost P fn (fun e w'=>∃ v,e=.returned v∧R v w') .ret a w:=by
 refine bodyPost_ret (results_tmp2 hr _ _ _) ha.defers ⟨_,rfl,?_⟩
 rw [ha.vals t v1 h,ha.vals u v2 h2];exact hR
theorem rt0 {fn:Func} {R:Value→World→Prop} (ha:Has a n env) (hr:fn.results=#[]) (hR:R (.tuple #[]) w) :
  bodyPost P fn (fun e w'=>∃ v,e=.returned v∧R v w') .normal a w :=
 bodyPost_end (results_none hr _ _ _) ha.defers ⟨_,rfl,hR⟩
end
end Go.E
