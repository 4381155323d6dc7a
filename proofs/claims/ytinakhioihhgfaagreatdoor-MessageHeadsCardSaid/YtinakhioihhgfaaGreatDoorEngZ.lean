/- The rules by which these proofs step through the code, part Z. -/
import Derived.Test.YtinakhioihhgfaaGreatDoorEngY
import Derived.ArgAppend
import Derived.Lib.AppendZerosOnto
import Derived.Lib.Overlaps
set_option linter.unusedVariables false
set_option linter.unusedSimpArgs false
namespace Go.E
open Go.RowKit Go.Sort Go.Proofs
/-! rows of flat elements, cell by cell: copied within themselves, grown by zeros -/
section
variable {α:Type} {r:Rep α} {enc:α→List Value}
theorem BoxT.cell {T:TypeId} {w:World} {g o:Nat} {cs:List Value} {v:Value} (h:BoxT T w g cs) (hv:cs[o]? = some v):w.cell? ⟨g,o,none⟩=some v:=h.box.cell hv
theorem BoxT.sub {T:TypeId} {w:World} {g o m:Nat} {cs vs:List Value} (h:BoxT T w g cs) (hv:vs=(cs.drop o).take m):∀ j v,vs[j]? = some v→w.cell? ((⟨g,o,none⟩:Addr).add j)=some v:=by
 intro j v hj
 rw [Addr.add_lit]
 subst hv
 rw [List.getElem?_take] at hj
 split at hj
 ·rw [List.getElem?_drop] at hj;exact h.cell hj
 ·cases hj
end
theorem run_copyK {P:Program} (w:World) (dT sT ty elem:TypeId) (k g o dLen dCap:Nat) (a:Addr) (sLen sCap:Nat) (cs:List Value) (t:TypeId) (vs:List Value)
  (hu:P.underlying dT=some (.slice elem)) (hs:(P.info? elem).map (·.size)=some k)
  (hg:w.heap[g]? = some (.cells cs.toArray t (0,0))) (hn:vs.length=Nat.min sLen dLen*k)
  (hsrc:∀ j v,vs[j]? = some v→w.cell? (a.add j)=some v) (hfit:o+vs.length≤cs.length) (h1:∀ v∈vs,v.oneCell'=true) :
  (Builtin.copy_ #[dT,sT] ty #[.slice (some ⟨g,o,none⟩) dLen dCap,.slice (some a) sLen sCap]).run P w =
   .ok (.int .i64 (Nat.min sLen dLen)) (w.setRow g (cs.take o++vs++cs.drop (o+vs.length)).toArray):=by
 have hl:=run_loadCells_list (P:=P) w a vs hsrc
 have hst:=run_storeCells_at P g o t vs 0 cs.toArray w hg (by simpa using hfit) h1
 simp only [Nat.add_zero,List.toList_toArray] at hst
 obtain ⟨i,hi,hs⟩:=Option.map_eq_some_iff.1 hs
 simp [Builtin.copy_,run_underlying hu,Builtin.lenOf,Builtin.firstCells,sizeOf,typeInfo,hi,hs,← hn,hl,hst,goInt]
section
variable {P:Program} {n d:Nat} {ops:Array Oper} {Q:Exit→Act→World→Prop} {w w':World} {a:Act} {env:Env} {rest:List Oper} {o:Oper} {v:Value}
 {dd:Option Tmp} {ty:TypeId} {pos:String} {af:Array Edge} {gd:Option (Nat×Bool)}
theorem setRow_chg {g:Nat} {row:Array Value}:Chg [g] w (w.setRow g row) :=
 ⟨rfl,rfl,rfl,by simp [World.setRow],fun k hk' hn=>by
  simp only [World.setRow,Array.getElem?_modify]
  rw [if_neg (fun e=>hn (by simp [e]))]⟩
theorem cpK {tD tS T T0:TypeId} {x y:Operand} {g o' L cap1 n2 cap2 k:Nat} {ad:Addr} {cs vs:List Value} (ha:Has a n env) (hu:P.underlying tD=some (.slice T)) (hs:(P.info? T).map (·.size)=some k)
  (hx:ev env x=some (.slice (some ⟨g,o',none⟩) L cap1)) (hy:ev env y=some (.slice (some ad) n2 cap2))
  (hg:gok ops env gd=some true) (hd:dd=some d) (hdn:Nat.blt d n=true) (hb:BoxT T0 w g cs) (hn:vs.length=Nat.min n2 L*k)
  (hsrc:∀ j v,vs[j]? = some v→w.cell? (ad.add j)=some v) (hfit:o'+vs.length≤cs.length) (h1:∀ v∈vs,v.oneCell'=true)
  (hk:∀ a' w',BoxT T0 w' g (cs.take o'++vs++cs.drop (o'+vs.length))→Chg [g] w w'→Has a' n ((d,.int .i64 (Nat.min n2 L))::env)→wpList P ops Q rest a' w') :
  wpList P ops Q (⟨dd,.call ⟨.builtin .copy,#[x,y],#[tD,tS]⟩,ty,pos,af,gd⟩::rest) a w:=by
 have hr:=run_copyK (P:=P) w tD tS ty T k g o' L cap1 ad n2 cap2 cs T0 vs hu hs hb hn hsrc hfit h1
 refine hop (o:=⟨dd,.call ⟨.builtin .copy,#[x,y],#[tD,tS]⟩,ty,pos,af,gd⟩) (w':=w.setRow g (cs.take o'++vs++cs.drop (o'+vs.length)).toArray) (v:=.int .i64 (Nat.min n2 L)) ha hg hd hdn ?_ ?_
 ·simp [execOp,ha.ev hx,ha.ev hy,builtin,hr,resolve,Deferred.ofValue,invoke]
 ·intro a' ha'
  exact hk a' _ (setRow_heap w g _ _ T0 _ hb) setRow_chg ha'
theorem slR_run {t T:TypeId} {x:Operand} {lo hi mx:Option Operand} {ad:Addr} {len cap l h m s:Nat} (ha:Has a n env) (ht:P.underlying t=some (.slice T)) (hs:(P.info? T).map (·.size)=some s)
  (hx:ev env x=some (.slice (some ad) len cap)) (hlo:lo=none∧l=0∨∃ y k,lo=some y∧ev env y=some (.int k (l:Int)))
  (hhi:hi=none∧h=len∧mx=none∨∃ y k,hi=some y∧ev env y=some (.int k (h:Int))) (hmx:mx=none∧m=cap∨∃ y k,mx=some y∧ev env y=some (.int k (m:Int)))
  (h1:l≤h) (h2:h≤m) (h3:m≤cap) (w:World) :
  (execOp a.eval ⟨dd,.slice t x lo hi mx,ty,pos,af,gd⟩).run P w=.ok (.value (.slice (if m=l then some ad else some (ad.add (l*s))) (h - l) (m - l))) w:=by
 obtain ⟨inf,hi',hs⟩:=Option.map_eq_some_iff.1 hs
 rcases hlo with ⟨rfl,rfl⟩ | ⟨y,k,rfl,ey⟩<;>rcases hhi with ⟨rfl,rfl,rfl⟩ | ⟨z,k',rfl,ez⟩<;>rcases hmx with ⟨e,e'⟩ | ⟨u,k2,e,eu⟩<;>(try cases e)<;>(try subst e')
 ·refine execOp_val' (s:=Instr.sliceAt t (.slice (some ad) h m) none none none) (by simp [execOp,ha.ev hx]) ?_
  simp [Instr.sliceAt,Instr.slice,Instr.sliceBounds,run_underlying ht,sizeOf,typeInfo,hi',hs]
 ·refine execOp_val' (s:=Instr.sliceAt t (.slice (some ad) len m) none (some (.int k' (h:Int))) none) (by simp [execOp,ha.ev hx,ha.ev ez]) ?_
  simp [Instr.sliceAt,Instr.slice,Instr.sliceBounds,run_underlying ht,sizeOf,typeInfo,hi',hs,run_sliceBound w k' h m _ (by omega) (by omega)]
 ·refine execOp_val' (s:=Instr.sliceAt t (.slice (some ad) len cap) none (some (.int k' (h:Int))) (some (.int k2 (m:Int)))) (by simp [execOp,ha.ev hx,ha.ev ez,ha.ev eu]) ?_
  simp [Instr.sliceAt,Instr.slice,Instr.sliceBounds,run_underlying ht,sizeOf,typeInfo,hi',hs,run_sliceBound w k' h m _ (by omega) (by omega),run_sliceBound w k2 m cap _ (by omega) (by omega)]
 ·refine execOp_val' (s:=Instr.sliceAt t (.slice (some ad) h m) (some (.int k (l:Int))) none none) (by simp [execOp,ha.ev hx,ha.ev ey]) ?_
  simp [Instr.sliceAt,Instr.slice,Instr.sliceBounds,run_underlying ht,sizeOf,typeInfo,hi',hs,run_sliceBound w k l h _ (by omega) (by omega)]
 ·refine execOp_val' (s:=Instr.sliceAt t (.slice (some ad) len m) (some (.int k (l:Int))) (some (.int k' (h:Int))) none) (by simp [execOp,ha.ev hx,ha.ev ey,ha.ev ez]) ?_
  simp [Instr.sliceAt,Instr.slice,Instr.sliceBounds,run_underlying ht,sizeOf,typeInfo,hi',hs,run_sliceBound w k' h m _ (by omega) (by omega),run_sliceBound w k l h _ (by omega) (by omega)]
 ·refine execOp_val' (s:=Instr.sliceAt t (.slice (some ad) len cap) (some (.int k (l:Int))) (some (.int k' (h:Int))) (some (.int k2 (m:Int)))) (by simp [execOp,ha.ev hx,ha.ev ey,ha.ev ez,ha.ev eu]) ?_
  simp [Instr.sliceAt,Instr.slice,Instr.sliceBounds,run_underlying ht,sizeOf,typeInfo,hi',hs,run_sliceBound w k' h m _ (by omega) (by omega),run_sliceBound w k2 m cap _ (by omega) (by omega),run_sliceBound w k l h _ (by omega) (by omega)]
end
/-! one cell an element: the kit's sort there and the sort of several cells are one -/
section
variable {α:Type} [Inhabited α] {enc:α→Value}
end
end Go.E
