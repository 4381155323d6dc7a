/- The rules by which these proofs step through the code, part O. -/
import Derived.Test.YtcejhnpncodkjaaGreatDoorEngN
import Derived.ArgAppend
set_option linter.unusedVariables false
set_option linter.unusedSimpArgs false
namespace Go.E
open Go.RowKit
def pr (e:MapEntry):Value×Value:=(e.key,e.val)
def pq {α β:Type} (kv:α→Value) (vv:β→Value) (p:α×β):Value×Value:=(kv p.1,vv p.2)
def Stamps (es:List MapEntry) (clock:Nat):Prop:=(es.map (·.born)).Nodup∧∀ e∈es,e.born < clock
def MapR {α β:Type} (kv:α→Value) (vv:β→Value) (w:World) (g:Nat) (l:List (α×β)):Prop :=
 ∃ es clock,w.heap[g]? = some (.map es clock)∧es.toList.map pr=l.map (pq kv vv)∧Stamps es.toList clock
theorem MapR.chg {α β:Type} {kv:α→Value} {vv:β→Value} {w w':World} {g:Nat} {l:List (α×β)} {gs:List Nat} (h:MapR kv vv w g l) (hc:Chg gs w w') (hn:g∉gs):MapR kv vv w' g l:=by
 obtain ⟨es,c,h1,h2,h3⟩:=h
 exact ⟨es,c,hc.at h1 hn,h2,h3⟩
section
variable {α β:Type} [BEq α] {P:Program} {kv:α→Value} {vv:β→Value} {n d:Nat} {ops:Array Oper} {Q:Exit→Act→World→Prop} {w w':World} {a:Act} {env:Env} {rest:List Oper} {o:Oper} {v:Value}
 {dd:Option Tmp} {ty:TypeId} {pos:String} {af:Array Edge} {gd:Option (Nat×Bool)}
end
/-! an element of an array that is a value; four results -/
section
variable {P:Program} {n:Nat} {ops:Array Oper} {Q:Exit→Act→World→Prop} {a:Act} {env:List (Nat×Value)} {w:World} {dd:Option Tmp} {ty:TypeId} {pos:String} {af:Array Edge} {gd:Option (Nat×Bool)}
theorem aidx_run {t T:TypeId} {x y:Operand} {l:List Int} {k kk:IntKind} {N:Nat} {i:Int} (ha:Has a n env) (ht:P.underlying t=some (.array N T)) (hs:(P.info? T).map (·.size)=some 1) (hb:P.underlying T=some (.int kk))
  (hx:ev env x=some (.agg (cA kk N l).toArray)) (hy:ev env y=some (.int k i)) (h0:0≤i) (h1:i < N) (w:World) :
  (execOp a.eval ⟨dd,.index t x y,ty,pos,af,gd⟩).run P w=.ok (.value (.int kk (ar l i.toNat))) w:=by
 obtain ⟨inf,hi,hs⟩:=Option.map_eq_some_iff.1 hs
 have e1:execOp a.eval ⟨dd,.index t x y,ty,pos,af,gd⟩=(Instr.index t (.agg (cA kk N l).toArray) (.int k i) >>= fun v=>pure (Next.value v)):=by
  simp [execOp,ha.ev hx,ha.ev hy]
 refine execOp_val' e1 ?_
 have hlt:i.toNat < N:=by omega
 have hg:(cA kk N l)[i.toNat]? = some (.int kk (ar l i.toNat)):=by
  simp [cA,hlt]
 simp [Instr.index,asIntOf,run_underlying ht,run_underlying hb,sizeOf,typeInfo,hi,hs,h0,h1,part,isAgg,hg]
theorem mapM_four (f:ResultVar→Sem Value) (r1 r2 r3 r4:ResultVar):#[r1,r2,r3,r4].mapM f=(do let v ← f r1;let u ← f r2;let x ← f r3;let y ← f r4;pure #[v,u,x,y]):=by
 rw [Array.mapM_eq_mapM_toList];simp
theorem res4 {fn:Func} {r1 r2 r3 r4:ResultVar} {v1 v2 v3 v4:Value} (hr:fn.results=#[r1,r2,r3,r4]) (h1:(resOne a.tmps r1).run P w=.ok v1 w) (h2:(resOne a.tmps r2).run P w=.ok v2 w) (h3:(resOne a.tmps r3).run P w=.ok v3 w) (h4:(resOne a.tmps r4).run P w=.ok v4 w):(results fn a.tmps).run P w=.ok (.tuple #[v1,v2,v3,v4]) w:=by
 unfold results
 rw [hr,mapM_four]
 cases r1<;>cases r2<;>cases r3<;>cases r4<;>simp only [resOne] at h1 h2 h3 h4<;>simp only [Sem.run_bind,h1,h2,h3,h4,Sem.run_pure,Result.andThen] at*<;> simp_all
theorem rt4 {fn:Func} {t u s z:Tmp} {v1 v2 v3 v4:Value} {R:Value→World→Prop} (ha:Has a n env) (hr:fn.results=#[.tmp t,.tmp u,.tmp s,.tmp z]) (h:look env t=some v1) (h2:look env u=some v2) (h3:look env s=some v3) (h4:look env z=some v4) (hR:R (.tuple #[v1,v2,v3,v4]) w) :
  bodyPost P fn (fun e w'=>∃ v,e=.returned v∧R v w') .ret a w:=rtr ha (res4 hr (roT ha h) (roT ha h2) (roT ha h3) (roT ha h4)) hR
end
/-! all blocks but one -/
def butL (g:Nat) (w:World):List Nat:=(List.range w.heap.size).filter (fun x=>x != g)
theorem butL_self {g:Nat} {w:World}:g∉butL g w:=fun h=>by simp [butL] at h
theorem butL_ok {g:Nat} {w:World} {M:List Nat} (h:∀ x∈M,x≠g):Ok M (butL g w) w.heap.size:=fun x hx=>by
 by_cases hl:x < w.heap.size
 ·exact .inl (List.mem_filter.2 ⟨List.mem_range.2 hl,by simpa using h x hx⟩)
 ·exact .inr (Nat.not_lt.1 hl)
theorem butL_chg {g:Nat} {w w':World}:Ok (butL g w') (butL g w) w.heap.size:=butL_ok fun x hx=>by simpa using (List.mem_filter.1 hx).2
/-! numbers that are the call's own, or the marked block of a literal, full to its end -/
def OwnW (k:IntKind) (T:TypeId) (w:World) (M:List Nat) (ao:Option Addr) (cap:Nat) (xs:List Int):Prop :=
 Own (rInt k) T w M ao cap xs∨(xs.length=cap∧∃ g,ao=some ⟨g,0,none⟩∧g∈M∧g < w.heap.size∧RSl (rInt k) T w (butL g w) ao cap xs)
section
variable {P:Program} {n d:Nat} {ops:Array Oper} {Q:Exit→Act→World→Prop} {a:Act} {env:List (Nat×Value)} {rest:List Oper} {dd:Option Tmp} {ty:TypeId} {pos:String} {af:Array Edge} {gd:Option (Nat×Bool)}
variable {k:IntKind} {T:TypeId} {w w':World} {M M' gs:List Nat} {ao:Option Addr} {cap:Nat} {xs:List Int}
theorem OwnW.own (h:Own (rInt k) T w M ao cap xs):OwnW k T w M ao cap xs:=.inl h
theorem OwnW.chg (h:OwnW k T w M ao cap xs) (hc:Chg gs w w') (ho:Ok gs M w.heap.size) (hm:Ok M' M w.heap.size) (hn:∀ g∈blkL ao,g∉gs) (hM:∀ g∈blkL ao,g∈M'):OwnW k T w' M' ao cap xs:=by
 rcases h with h | ⟨h1,g,rfl,h2,h3,h4⟩
 ·exact .inl (h.chg hc ho hm hn hM)
 ·have hg:g∈blkL (some (⟨g,0,none⟩:Addr)):=by simp [blkL]
  exact .inr ⟨h1,g,rfl,hM g hg,Nat.lt_of_lt_of_le h3 hc.size,h4.chg hc (butL_ok fun x hx e=>hn g hg (e ▸ hx)) butL_chg⟩
theorem OwnW.toRSl (h:OwnW k T w M ao cap xs) (hm:Ok M' M w.heap.size) (hn:∀ g∈blkL ao,g∉M'):RSl (rInt k) T w M' ao cap xs:=by
 rcases h with h | ⟨h1,g,rfl,h2,h3,h4⟩
 ·exact h.toRSl hm hn
 ·have hg:g∈blkL (some (⟨g,0,none⟩:Addr)):=by simp [blkL]
  exact h4.chg (Chg.refl [] w) (Ok.nil _ _) (butL_ok fun x hx e=>hn g hg (e ▸ hx))
theorem OwnW.src (h:OwnW k T w M ao cap xs):Src (rInt k) T w [] ao cap xs:=(h.toRSl (M':=[]) (Ok.nil _ _) (fun _ _ h=>nomatch h)).src
theorem Src.told {α:Type} {r:Rep α} {ao2:Option Addr} {cap2:Nat} {ys:List α} (h2:Src r T w M ao2 cap2 ys):∃ news,RL r w M news ys∧(∀ ad,ao2=some ad→∀ j u,news[j]? = some u→w.cell? (ad.add j)=some u)∧(ao2=none→ys=[]):=by
 obtain ⟨_,_,h3⟩:=h2
 rcases h3 with rfl | ⟨g,o,cur,fr,rfl,hb,hl⟩
 ·exact ⟨[],rfl,fun _ _ j u hu=>by simp at hu,fun _=>rfl⟩
 ·refine ⟨_,hl,?_,fun e=>by cases e⟩
  intro ad had j u hu
  obtain rfl:=Option.some.inj had
  rw [Addr.add_lit,cell_of_row w g _ cur fr.1 fr.2 hb]
  rw [List.getElem?_take] at hu
  split at hu
  ·rw [List.getElem?_drop] at hu;rw [← Array.getElem?_toList];exact hu
  ·cases hu
theorem run_appendW {t:TypeId} {bytes:Nat} (ht:ElemT P t T 1 bytes) (ty:TypeId) {ao2:Option Addr} {cap2:Nat} {ys:List Int}
  (h:OwnW k T w M ao cap xs) (h2:Src (rInt k) T w M ao2 cap2 ys) (hb:(xs.length+ys.length)*bytes≤140737488355328) (h63:xs.length+ys.length≤maxLen) (hy:0 < ys.length) :
  ∃ ao' cap' w',(Builtin.append_ #[t,t] ty #[.slice ao xs.length cap,.slice ao2 ys.length cap2]).run P w=.ok (.slice ao' (xs++ys).length cap') w' ∧
   OwnW k T w' (blkL ao'++M) ao' cap' (xs++ys)∧Chg (blkL ao) w w'∧Ok (blkL ao') (blkL ao) w.heap.size∧(∀ g∈blkL ao',g < w'.heap.size):=by
 rcases h with h | ⟨h1,g,rfl,hgM,hgs,h4⟩
 ·obtain ⟨ao',cap',w',q0,q1,q2,q3,q4⟩:=run_append (r:=rInt k) ht ty h h2 hb h63
  exact ⟨ao',cap',w',q0,.inl q1,q2,q3,q4⟩
 ·obtain ⟨i,z,hi,hz,hs,hby,hzs⟩:=ht.info
  obtain ⟨news,hnews,hcell,hnone⟩:=h2.told
  obtain ⟨olds,holds,hocell,_⟩:=(h4.src).told
  cases ao2 with
  | none=>rw [hnone rfl] at hy;exact absurd hy (by simp)
  | some ad =>
   have hlo:olds.length=xs.length*1:=holds.len
   have hln:news.length=ys.length*1:=hnews.len
   obtain ⟨v',w',hrun,hown,hgr⟩:=run_append_arg_grows (P:=P) w t ty T i z 1 bytes ht.under hi hz hs hby hzs ht.pos ⟨g,0,none⟩ xs.length cap olds hlo (hocell _ rfl) ad ys.length cap2 news hln (hcell ad rfl) (by omega) h63 hb
   have hc0:Chg [] w w':=Chg.grown hgr
   have hchg:Chg (blkL (some (⟨g,0,none⟩:Addr))) w w':=hc0.mono (Ok.nil _ _)
   obtain ⟨hlen,hcase⟩:=hown
   rcases hcase with ⟨rfl,hz0⟩ | ⟨g2,cap',cur,rfl,hge,hhb,hnc,hcm,hsz,htk⟩
   ·omega
   ·refine ⟨some ⟨g2,0,none⟩,cap',w',by rw [List.length_append];exact hrun,.inl (.inr ⟨g2,cur,rfl,by simp [blkL],hhb,hsz,by rw [List.length_append];exact hnc,hcm,?_⟩),hchg,fun x hx=>?_,fun x hx=>?_⟩
    ·rw [List.length_append,show (rInt k).sz=1 from rfl,htk,RL_int holds,RL_int hnews,← List.map_append]
     exact RL_int_mk _
    ·simp [blkL] at hx;subst hx;exact .inr hge
    ·simp [blkL] at hx;subst hx;exact lt_size hhb
theorem appW {t:TypeId} {bytes:Nat} {x y:Operand} {ao2:Option Addr} {cap2:Nat} {ys:List Int}
  (ha:Has a n env) (ht:ElemT P t T 1 bytes) (hx:ev env x=some (.slice ao xs.length cap)) (hy:ev env y=some (.slice ao2 ys.length cap2))
  (hg:gok ops env gd=some true) (hd:dd=some d) (hdn:Nat.blt d n=true) (h:OwnW k T w M ao cap xs) (h2:Src (rInt k) T w M ao2 cap2 ys)
  (hb:(xs.length+ys.length)*bytes≤140737488355328) (hb1:0 < bytes) (hy0:0 < ys.length)
  (hk:∀ a' w' ao' cap',OwnW k T w' (blkL ao'++M) ao' cap' (xs++ys)→Chg (blkL ao) w w'→Ok (blkL ao') (blkL ao) w.heap.size→(∀ g∈blkL ao',g < w'.heap.size) →
   Has a' n ((d,.slice ao' (xs++ys).length cap')::env)→wpList P ops Q rest a' w') :
  wpList P ops Q (⟨dd,.call ⟨.builtin .append,#[x,y],#[t,t]⟩,ty,pos,af,gd⟩::rest) a w:=by
 have h63:xs.length+ys.length≤maxLen:=by
  have:(xs.length+ys.length)*1≤(xs.length+ys.length)*bytes:=Nat.mul_le_mul_left _ hb1
  simp only [maxLen];omega
 obtain ⟨ao',cap',w',hrun,q1,q2,q3,q4⟩:=run_appendW ht ty h h2 hb h63 hy0
 have hr:(execOp a.eval ⟨dd,.call ⟨.builtin .append,#[x,y],#[t,t]⟩,ty,pos,af,gd⟩).run P w=.ok (.value (.slice ao' (xs++ys).length cap')) w':=by
  have e:execOp a.eval ⟨dd,.call ⟨.builtin .append,#[x,y],#[t,t]⟩,ty,pos,af,gd⟩=(Builtin.append_ #[t,t] ty #[.slice ao xs.length cap,.slice ao2 ys.length cap2] >>= fun v=>pure (Next.value v)):=by
   simp [execOp,resolve,invoke,builtin,ha.ev hx,ha.ev hy]
  exact execOp_val' e hrun
 exact hop ha hg hd hdn hr (fun a' ha'=>hk a' _ _ _ q1 q2 q3 q4 ha')
end
end Go.E
