/- The rules by which these proofs step through the code, part K. -/
import Derived.Test.YtinakhioihhgfaaGreatDoorEngJ
import Derived.Test.YtinakhioihhgfaaGreatDoorEngR
import Derived.Deep.LoopGhost
set_option linter.unusedVariables false
set_option linter.unusedSimpArgs false
namespace Go.E
open Go.RowKit
/-! rows of bytes that are written whole -/
structure Row where
 g:Option Nat
 len:Nat
 cap:Nat
def Row.ao (r:Row):Option Addr:=r.g.map fun g=>⟨g,0,none⟩
def Row.v (r:Row):Value:=.slice r.ao r.len r.cap
structure Rows (w:World) (gr:Nat) (rows:List Row):Prop where
 row:Box w gr (rows.map Row.v)
 cap:∀ r∈rows,r.len≤r.cap∧r.cap≤maxLen∧(r.g=none→r.cap=0)
 one:∀ (i j:Nat) (ri rj:Row) (g:Nat),rows[i]? = some ri→rows[j]? = some rj→ri.g=some g→rj.g=some g→i=j
 out:∀ r∈rows,r.g≠some gr
def Cells (w:World) (rows:List Row) (S:Nat→List Value→Prop):Prop:=∀ (i:Nat) (r:Row) (g:Nat),rows[i]? = some r→r.g=some g→∃ cur,Box w g cur∧cur.length=r.cap∧S i cur
def gsOf (rows:List Row):List Nat:=rows.filterMap (·.g)
section
variable {P:Program} {n d:Nat} {ops:Array Oper} {Q:Exit→Act→World→Prop} {w w':World} {a:Act} {env:Env} {rest:List Oper} {o:Oper} {v:Value}
 {dd:Option Tmp} {ty:TypeId} {pos:String} {af:Array Edge} {gd:Option (Nat×Bool)}
theorem slx_run {t T:TypeId} {x y:Operand} {r:Row} {k:IntKind} {s:Nat} (ha:Has a n env) (ht:P.underlying t=some (.slice T)) (hs:(P.info? T).map (·.size)=some s)
  (hx:ev env x=some r.v) (hy:ev env y=some (.int k (r.cap:Int))) (w:World) :
  (execOp a.eval ⟨dd,.slice t x none (some y) none,ty,pos,af,gd⟩).run P w=.ok (.value (.slice r.ao r.cap r.cap)) w:=by
 obtain ⟨inf,hi,hs⟩:=Option.map_eq_some_iff.1 hs
 have e1:execOp a.eval ⟨dd,.slice t x none (some y) none,ty,pos,af,gd⟩=(Instr.sliceAt t r.v none (some (.int k (r.cap:Int))) none >>= fun v=>pure (Next.value v)):=by
  simp [execOp,ha.ev hx,ha.ev hy]
 refine execOp_val' e1 ?_
 obtain ⟨g,len,cap⟩:=r
 cases g<;>simp [Row.v,Row.ao,Instr.sliceAt,Instr.slice,Instr.sliceBounds,run_underlying ht,sizeOf,typeInfo,hi,hs,run_sliceBound w k cap cap _ (by omega) (by omega),Addr.add_lit]
theorem ixa {t T:TypeId} {x y:Operand} {g o' len cap:Nat} {k:IntKind} {i:Int} (ha:Has a n env) (ht:P.underlying t=some (.slice T)) (hs:(P.info? T).map (·.size)=some 1)
  (hx:ev env x=some (.slice (some ⟨g,o',none⟩) len cap)) (hy:ev env y=some (.int k i)) (h0:0≤i) (h1:i < len) (w:World) :
  (execOp a.eval ⟨dd,.indexAddr t x y,ty,pos,af,gd⟩).run P w=.ok (.value (.pointer (some ⟨g,o'+i.toNat,none⟩))) w:=by
 have hl:(List.replicate len (0:Int)).length=len:=by simp
 have:=ix_run (P:=P) (w:=w) (dd:=dd) (ty:=ty) (pos:=pos) (af:=af) (gd:=gd) (r:=rInt .u8) (T:=T) (xs:=List.replicate len (0:Int)) (k:=k) (i:=i) (cap:=cap) ha ht hs (by rw [hl];exact hx) hy rfl h0 (by rw [hl];exact h1)
 simpa [rInt] using this
end
theorem gs_mem {rows:List Row} {i:Nat} {r:Row} {g:Nat} (h:rows[i]? = some r) (hg:r.g=some g):g∈gsOf rows :=
 List.mem_filterMap.2 ⟨r,List.mem_of_getElem? h,hg⟩
theorem Rows.keep {w w':World} {gr:Nat} {rows:List Row} (h:Rows w gr rows) (hc:Chg (gsOf rows) w w'):Rows w' gr rows :=
 ⟨h.row.chg hc (fun hm=>by
  obtain ⟨r,hr,hg⟩:=List.mem_filterMap.1 hm
  exact h.out r hr hg),h.cap,h.one,h.out⟩
/-! bytes with a cell behind them, in which 77 stands -/
def Len (w:World) (M:List Nat) (ao:Option Addr) (cap:Nat) (xs:List Int):Prop :=
 ∃ g,ao=some ⟨g,0,none⟩∧g∈M∧cap=xs.length+1∧xs.length≤281474976710655∧Box w g (xs.map (.int .u8)++[.int .u8 77])
theorem Box.bytes {w:World} {g T:Nat} {xs:List Int} {tl:List Value} {M:List Nat} {cap:Nat} (h:Box w g (xs.map (.int .u8)++tl)) (hg:g∉M) (h1:xs.length≤cap) (h2:cap≤maxLen):RSl (rInt .u8) T w M (some ⟨g,0,none⟩) cap xs:=by
 obtain ⟨T',hb⟩:=h
 refine ⟨h1,h2,.inr ⟨g,0,_,(T',(0,0)),rfl,hg,hb,?_⟩⟩
 have:((xs.map (Value.int .u8)++tl).toArray.toList.drop 0).take (xs.length*(rInt .u8).sz)=xs.map (Value.int .u8):=by simp [rInt]
 rw [this]
 exact RL_int_mk xs
section
variable {w w':World} {M M' gs:List Nat} {ao:Option Addr} {cap:Nat} {xs:List Int}
theorem Len.chg (h:Len w M ao cap xs) (hc:Chg gs w w') (_:Ok gs M w.heap.size) (_:Ok M' M w.heap.size) (hn:∀ g∈blkL ao,g∉gs) (hM:∀ g∈blkL ao,g∈M'):Len w' M' ao cap xs:=by
 obtain ⟨g,rfl,_,h2,h3,hb⟩:=h
 exact ⟨g,rfl,hM g (by simp [blkL]),h2,h3,hb.chg hc (hn g (by simp [blkL]))⟩
theorem Len.toRSl {T:TypeId} (h:Len w M ao cap xs) (_:Ok M' M w.heap.size) (hn:∀ g∈blkL ao,g∉M'):RSl (rInt .u8) T w M' ao cap xs:=by
 have hm:maxLen=9223372036854775807:=rfl
 obtain ⟨g,rfl,_,h2,h3,hb⟩:=h
 exact hb.bytes (hn g (by simp [blkL])) (by omega) (by omega)
theorem Len.src {T:TypeId} (h:Len w M ao cap xs):Src (rInt .u8) T w M ao cap xs:=by
 have hm:maxLen=9223372036854775807:=rfl
 obtain ⟨g,rfl,_,h2,h3,hb⟩:=id h
 obtain ⟨h1,h2,h4⟩:=(hb.bytes (T:=T) (M:=[]) (cap:=cap) (by simp) (by omega) (by omega)).src
 refine ⟨h1,h2,h4.imp id fun ⟨g',o,cur,fr,e,hb',hl⟩=>⟨g',o,cur,fr,e,hb',?_⟩⟩
 rw [RL_int hl]
 exact RL_int_mk xs
theorem Own.re {α:Type} {r:Rep α} {T:TypeId} {xs:List α} (hf:∀ w M M' cs x,r.R w M cs x→r.R w M' cs x) (h:Own r T w M ao cap xs) (hM:∀ g∈blkL ao,g∈M'):Own r T w M' ao cap xs:=by
 rcases h with h | ⟨g,cur,rfl,hg,hb,h1,h2,h3,hl⟩
 ·exact .inl h
 ·refine .inr ⟨g,cur,rfl,hM g (by simp [blkL]),hb,h1,h2,h3,?_⟩
  generalize cur.toList.take (xs.length*r.sz)=cs at hl
  clear hb h1 h2
  induction xs generalizing cs with
  | nil=>exact hl
  | cons x xs ih =>
   obtain ⟨c1,c2,e,a1,a2⟩:=hl
   exact ⟨c1,c2,e,hf _ _ _ _ _ a1,ih _ a2⟩
def RowOk (w:World) (q:Option Addr×Nat×Nat):Prop :=
 (q.1=none∧q.2.1=0∧q.2.2=0)∨∃ g cur,q.1=some ⟨g,0,none⟩∧Box w g cur∧cur.length=q.2.2∧q.2.1≤q.2.2∧q.2.2≤maxLen
theorem Len.rowOk (h:Len w M ao cap xs):RowOk w (ao,xs.length,cap):=by
 have hm:maxLen=9223372036854775807:=rfl
 obtain ⟨g,rfl,_,h2,h3,hb⟩:=h
 exact .inr ⟨g,_,rfl,hb,by simp [h2],by simp [h2],by simp only;omega⟩
theorem Own.rowOk {k:IntKind} {T:TypeId} (h:Own (rInt k) T w M ao cap xs):RowOk w (ao,xs.length,cap):=by
 rcases h with ⟨rfl,rfl,rfl⟩ | ⟨g,cur,rfl,hg,hb,h1,h2,h3,hl⟩
 ·exact .inl ⟨rfl,rfl,rfl⟩
 ·exact .inr ⟨g,cur.toList,rfl,⟨T,by simpa using hb⟩,by simpa [rInt] using h1,h2,h3⟩
theorem RowOk.nil {w:World}:RowOk w (none,0,0):=.inl ⟨rfl,rfl,rfl⟩
theorem RowOk.chg {q:Option Addr×Nat×Nat} (h:RowOk w q) (hc:Chg [] w w'):RowOk w' q:=by
 rcases h with h | ⟨g,cur,h1,h2,h3⟩
 ·exact .inl h
 ·exact .inr ⟨g,cur,h1,h2.chg hc (by simp),h3⟩
end
def rowOf (q:Option Addr×Nat×Nat):Row:=⟨q.1.map (·.block),q.2.1,q.2.2⟩
theorem rowOf_blk {q:Option Addr×Nat×Nat} {g:Nat} (h:(rowOf q).g=some g):g∈blkL q.1:=by
 obtain ⟨ao,l,c⟩:=q
 cases ao with
 | none=>cases h
 | some a=>simp [rowOf] at h;simp [blkL,h]
theorem rows_of {w:World} {gr:Nat} (l:List (Option Addr×Nat×Nat)) (h:∀ q∈l,RowOk w q) (hp:l.Pairwise (fun p q=>∀ x∈blkL p.1,x∉blkL q.1)) (ho:∀ q∈l,gr∉blkL q.1) (hB:Box w gr (l.map fun q=>.slice q.1 q.2.1 q.2.2)) :
  Rows w gr (l.map rowOf)∧Cells w (l.map rowOf) (fun _ _=>True)∧∀ gs:List Nat,(∀ q∈l,∀ x∈blkL q.1,x∈gs)→∀ x∈gsOf (l.map rowOf),x∈gs:=by
 have hv:(l.map rowOf).map Row.v=l.map fun q=>.slice q.1 q.2.1 q.2.2:=by
  rw [List.map_map]
  apply List.map_congr_left
  rintro ⟨ao,len,cap⟩ hq
  rcases h _ hq with ⟨h1,_⟩ | ⟨g,cur,h1,_⟩<;>simp only at h1<;>subst h1<;>rfl
 refine ⟨⟨hv ▸ hB,?_,?_,?_⟩,?_,?_⟩
 ·intro r hr
  obtain ⟨⟨ao,len,cap⟩,hq,rfl⟩:=List.mem_map.1 hr
  rcases h _ hq with ⟨h1,h2,h3⟩ | ⟨g,cur,h1,_,_,h4,h5⟩
  ·simp only at h1 h2 h3;subst h1 h2 h3;exact ⟨Nat.le_refl _,Nat.zero_le _,fun _=>rfl⟩
  ·simp only at h1 h4 h5;subst h1;exact ⟨h4,h5,fun h=>nomatch h⟩
 ·have key:∀ (i j:Nat) (p q:Option Addr×Nat×Nat) (g:Nat),l[i]? = some p→l[j]? = some q→(rowOf p).g=some g→(rowOf q).g=some g→¬ i < j:=by
   intro i j p q g hi hj hpg hqg hij
   obtain ⟨hi',rfl⟩:=List.getElem?_eq_some_iff.1 hi
   obtain ⟨hj',rfl⟩:=List.getElem?_eq_some_iff.1 hj
   exact List.pairwise_iff_getElem.1 hp i j hi' hj' hij g (rowOf_blk hpg) (rowOf_blk hqg)
  intro i j ri rj g hi hj hri hrj
  rw [List.getElem?_map] at hi hj
  obtain ⟨p,hp1,rfl⟩:=Option.map_eq_some_iff.1 hi
  obtain ⟨q,hq1,rfl⟩:=Option.map_eq_some_iff.1 hj
  have h1:=key i j p q g hp1 hq1 hri hrj
  have h2:=key j i q p g hq1 hp1 hrj hri
  omega
 ·intro r hr hg
  obtain ⟨q,hq,rfl⟩:=List.mem_map.1 hr
  exact ho q hq (rowOf_blk hg)
 ·intro i r g hi hg
  rw [List.getElem?_map] at hi
  obtain ⟨⟨ao,len,cap⟩,hq,rfl⟩:=Option.map_eq_some_iff.1 hi
  rcases h _ (List.mem_of_getElem? hq) with ⟨h1,_⟩ | ⟨g',cur,h1,h2,h3,_⟩
  ·simp only at h1;subst h1;cases hg
  ·simp only at h1;subst h1;simp [rowOf] at hg;subst hg;exact ⟨cur,h2,h3,trivial⟩
 ·intro gs hgs x hx
  obtain ⟨r,hr,hg⟩:=List.mem_filterMap.1 hx
  obtain ⟨q,hq,rfl⟩:=List.mem_map.1 hr
  exact hgs q hq x (rowOf_blk hg)
theorem MS.rest {M M':List Nat} {w:World} (h:MS M w) (hs:∀ g∈M',g∈M):MS M' w:=fun g hg=>h g (hs g hg)
end Go.E
