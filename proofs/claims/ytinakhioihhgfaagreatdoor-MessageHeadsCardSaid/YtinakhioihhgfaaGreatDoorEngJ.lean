/- The rules by which these proofs step through the code, part J. -/
import Derived.Test.YtinakhioihhgfaaGreatDoorEngI
import Derived.Laws.MakeOwn
import Derived.Laws.CopyRow
import Derived.Laws.IdiomCopy
set_option linter.unusedVariables false
set_option linter.unusedSimpArgs false
namespace Go.E
open Go.RowKit
section
variable {P:Program} {n d:Nat} {ops:Array Oper} {Q:Exit→Act→World→Prop} {w w':World} {a:Act} {env:Env} {rest:List Oper} {o:Oper} {v:Value}
 {dd:Option Tmp} {ty:TypeId} {pos:String} {af:Array Edge} {gd:Option (Nat×Bool)}
theorem New.alloc' {w:World} {C:Array Value} {T:TypeId} (l:List Value) (h:C.toList=l):New w (w.alloc (.cells C T)) w.heap.size (.cells l.toArray T (0,0)):=by
 subst h
 simpa using New.alloc w (.cells C T)
theorem mks {t e:TypeId} {x y:Operand} {z:Value} {l c:Nat} {kl kc:IntKind} {nb:Nat} (ha:Has a n env) (ht:P.underlying t=some (.slice e)) (hi:(P.info? e).map (fun i=>(i.size,i.bytes))=some (1,nb)) (hz:(P.info? e).bind (·.zero)=some z) (h1:z.cells=#[z])
  (hx:ev env x=some (.int kl (l:Int))) (hy:ev env y=some (.int kc (c:Int))) (hlc:l≤c) (hb:nb*c≤281474976710656) (hc:c≤maxLen)
  (hg:gok ops env gd=some true) (hd:dd=some d) (hdn:Nat.blt d n=true)
  (hk:∀ a' w' g,New w w' g (.cells (List.replicate c z).toArray e (0,0))→Has a' n ((d,.slice (some ⟨g,0,none⟩) l c)::env)→wpList P ops Q rest a' w'):wpList P ops Q (⟨dd,.makeSlice t x y,ty,pos,af,gd⟩::rest) a w:=by
 obtain ⟨i,hi1,hi2⟩:=Option.map_eq_some_iff.1 hi
 simp only [Prod.mk.injEq] at hi2
 obtain ⟨hs,hbb⟩:=hi2
 have hz':i.zero=some z:=by rw [hi1] at hz;exact hz
 have hm:maxLen=9223372036854775807:=rfl
 have hbi:(i.bytes:Int)*(c:Int)≤281474976710656:=by
  rw [hbb]
  have h:((nb*c:Nat):Int)≤281474976710656:=by omega
  rwa [Int.natCast_mul] at h
 have hr:=run_make (P:=P) w t e i z ht hi1 hz' kl kc l c (by omega) (by omega) hbi (by omega)
 simp only [Int.toNat_natCast] at hr
 refine hop (o:=⟨dd,.makeSlice t x y,ty,pos,af,gd⟩) (w':=w.alloc (.cells (madeCells z.cells (c*i.size)) e)) (v:=.slice (some ⟨w.heap.size,0,none⟩) l c) ha hg hd hdn ?_ ?_
 ·simp [execOp,ha.ev hx,ha.ev hy,hr]
 ·intro a' ha'
  refine hk a' _ _ (New.alloc' _ ?_) ha'
  rw [h1,hs]
  simp only [madeCells,Nat.mul_one]
  apply List.ext_getElem?
  intro j
  by_cases hj:j < c
  ·simp [hj,Nat.mod_one]
  ·rw [List.getElem?_eq_none (by simp;omega),List.getElem?_eq_none (by simp;omega)]
theorem cpy {tD tS T:TypeId} {x y:Operand} {g cap1 cap2 L:Nat} {ao:Option Addr} {M:List Nat} {cs:List Value} {xs:List Int} {k:IntKind} (ha:Has a n env) (hu:P.underlying tD=some (.slice T)) (hs:(P.info? T).map (·.size)=some 1)
  (hx:ev env x=some (.slice (some ⟨g,0,none⟩) L cap1)) (hy:ev env y=some (.slice ao xs.length cap2))
  (hg:gok ops env gd=some true) (hd:dd=some d) (hdn:Nat.blt d n=true) (hb:Box w g cs) (hR:RSl (rInt k) T w M ao cap2 xs) (hl:xs.length≤L) (hL:L≤cs.length)
  (hk:∀ a' w',Box w' g (xs.map (.int k)++cs.drop xs.length)→Chg [g] w w'→Has a' n ((d,.int .i64 xs.length)::env)→wpList P ops Q rest a' w') :
  wpList P ops Q (⟨dd,.call ⟨.builtin .copy,#[x,y],#[tD,tS]⟩,ty,pos,af,gd⟩::rest) a w:=by
 obtain ⟨T0,hb⟩:=hb
 have fin:∀ (ad:Addr),ao=some ad→(∀ j v,(xs.map (Value.int k))[j]? = some v→w.cell? (ad.add j)=some v)→wpList P ops Q (⟨dd,.call ⟨.builtin .copy,#[x,y],#[tD,tS]⟩,ty,pos,af,gd⟩::rest) a w:=by
  intro ad e hsrc
  subst e
  have hmin:Nat.min xs.length L=xs.length:=Nat.min_eq_left hl
  have hr:=run_copy_row (P:=P) w tD tS ty T g 0 L cap1 ad xs.length cap2 cs.toArray T0 (xs.map (.int k)) hu hs hb (by simp [hmin]) hsrc (by simp;omega) (by
   intro v hv
   obtain ⟨_,_,rfl⟩:=List.mem_map.1 hv
   rfl)
  simp only [List.take_zero,List.nil_append,Nat.zero_add,List.length_map,List.toList_toArray] at hr
  refine hop (o:=⟨dd,.call ⟨.builtin .copy,#[x,y],#[tD,tS]⟩,ty,pos,af,gd⟩) (w':=w.setRow g (xs.map (Value.int k)++cs.drop xs.length).toArray) (v:=.int .i64 xs.length) ha hg hd hdn ?_ ?_
  ·simp [execOp,ha.ev hx,ha.ev hy,builtin,hr,goInt,resolve,Deferred.ofValue,invoke]
  ·intro a' ha'
   refine hk a' _ ⟨T0,setRow_heap w g _ _ T0 _ hb⟩ ⟨rfl,rfl,rfl,by simp [World.setRow],fun k hk' hn=>?_⟩ ha'
   simp only [World.setRow,Array.getElem?_modify]
   rw [if_neg (fun e=>hn (by simp [e]))]
 cases ao with
 | none =>
  have hxs:xs=[]:=by
   obtain ⟨_,_,h3⟩:=hR
   rcases h3 with h3 | ⟨_,_,_,_,e,_⟩
   ·exact h3
   ·cases e
  subst hxs
  have hr:=run_copy_none (P:=P) w tD tS ty T (some ⟨g,0,none⟩) none L cap1 0 cap2 hu hs (Nat.zero_min _)
  refine hop (o:=⟨dd,.call ⟨.builtin .copy,#[x,y],#[tD,tS]⟩,ty,pos,af,gd⟩) (w':=w) (v:=.int .i64 (([]:List Int).length)) ha hg hd hdn ?_ ?_
  ·simp [execOp,ha.ev hx,ha.ev hy,builtin,hr,goInt,resolve,Deferred.ofValue,invoke]
  ·intro a' ha'
   exact hk a' _ ⟨T0,hb⟩ (Chg.refl _ _) ha'
 | some ad =>
  obtain ⟨_,_,h3⟩:=id hR
  rcases h3 with rfl | ⟨g2,o2,cur,fr,e,_,hb2,hl2⟩
  ·exact fin ad rfl (fun j v hv=>by simp at hv)
  ·refine fin ad rfl ?_
   obtain rfl:=Option.some.inj e
   intro j v hv
   have hcs:=RL_int hl2
   rw [Addr.add_lit,cell_of_row w g2 _ cur fr.1 fr.2 hb2,← Array.getElem?_toList]
   rw [← hcs] at hv
   rw [List.getElem?_take] at hv
   split at hv
   ·rw [List.getElem?_drop] at hv;exact hv
   ·cases hv
theorem slx {t T:TypeId} {x y:Operand} {g o' len cap h:Nat} {k:IntKind} {s:Nat} (ha:Has a n env) (ht:P.underlying t=some (.slice T)) (hs:(P.info? T).map (·.size)=some s)
  (hx:ev env x=some (.slice (some ⟨g,o',none⟩) len cap)) (hy:ev env y=some (.int k (h:Int))) (hh:h≤cap)
  (hg:gok ops env gd=some true) (hd:dd=some d) (hdn:Nat.blt d n=true)
  (hk:∀ a',Has a' n ((d,.slice (some ⟨g,o',none⟩) h cap)::env)→wpList P ops Q rest a' w):wpList P ops Q (⟨dd,.slice t x none (some y) none,ty,pos,af,gd⟩::rest) a w:=by
 obtain ⟨inf,hi,hs⟩:=Option.map_eq_some_iff.1 hs
 refine hop (o:=⟨dd,.slice t x none (some y) none,ty,pos,af,gd⟩) (w':=w) (v:=.slice (some ⟨g,o',none⟩) h cap) ha hg hd hdn ?_ hk
 have e1:execOp a.eval ⟨dd,.slice t x none (some y) none,ty,pos,af,gd⟩=(Instr.sliceAt t (.slice (some ⟨g,o',none⟩) len cap) none (some (.int k (h:Int))) none >>= fun v=>pure (Next.value v)):=by
  simp [execOp,ha.ev hx,ha.ev hy]
 refine execOp_val' e1 ?_
 simp [Instr.sliceAt,Instr.slice,Instr.sliceBounds,run_underlying ht,sizeOf,typeInfo,hi,hs,run_sliceBound w k h cap _ (by omega) (by omega),Addr.add_lit]
end
end Go.E
