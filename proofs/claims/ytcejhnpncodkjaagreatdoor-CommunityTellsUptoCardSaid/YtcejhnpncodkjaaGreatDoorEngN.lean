/- The rules by which these proofs step through the code, part N. -/
import Derived.Test.YtcejhnpncodkjaaGreatDoorEngM
set_option linter.unusedVariables false
set_option linter.unusedSimpArgs false
namespace Go.E
open Go.RowKit
def topQ (K:Act→World→Prop) (Q:Exit→Act→World→Prop):Exit→Act→World→Prop
 | .normal=>K
 | e=>Q e
theorem wp_top_k {P:Program} {c:Code} {Q:Exit→Act→World→Prop} {a:Act} {w:World} (h:∀ K:Act→World→Prop,(∀ a w,Q .normal a w→K a w)→c.wp P (topQ K Q) a w):c.wp P Q a w :=
 Code.wp_mono (fun e a w hh=>by cases e<;>exact hh) (h (Q .normal) fun _ _ h=>h)
/-! strings: parts, sums, ranging -/
theorem bstr_extract (l:List UInt8) (i j:Nat) (_:i≤j) (_:j≤l.length):(bstr l).extract i j=bstr ((l.take j).drop i):=by
 apply ByteArray.ext
 rw [ByteArray.data_extract]
 apply Array.toList_inj.1
 rw [Array.toList_extract]
 simp [bstr,List.extract,List.drop_take]
section
variable {P:Program} {n d:Nat} {ops:Array Oper} {Q:Exit→Act→World→Prop} {w w':World} {a:Act} {env:Env} {rest:List Oper} {o:Oper} {v:Value}
 {dd:Option Tmp} {ty:TypeId} {pos:String} {af:Array Edge} {gd:Option (Nat×Bool)}
theorem ssl_run {t:TypeId} {x:Operand} {lo hi:Option Operand} {s:List UInt8} {l h:Int}
  (ha:Has a n env) (ht:P.underlying t=some .string) (hx:ev env x=some (.string (bstr s)))
  (hlo:(match lo with | none=>some 0 | some y=>(ev env y).bind fun | .int _ l=>some l | _=>none)=some l)
  (hhi:(match hi with | none=>some (s.length:Int) | some y=>(ev env y).bind fun | .int _ l=>some l | _=>none)=some h)
  (h0:0≤l) (h1:l≤h) (h2:h≤s.length) (w:World) :
  (execOp a.eval ⟨dd,.slice t x lo hi none,ty,pos,af,gd⟩).run P w=.ok (.value (.string (bstr ((s.take h.toNat).drop l.toNat)))) w:=by
 have hsz:(bstr s).size=s.length:=rfl
 have hlo':lo=none∧l=0∨∃ y k,lo=some y∧ev env y=some (.int k l):=by
  cases lo with
  | none=>exact .inl ⟨rfl,(Option.some.inj hlo).symm⟩
  | some y =>
   simp only at hlo
   cases he:ev env y with
   | none=>rw [he] at hlo;cases hlo
   | some u =>
    rw [he] at hlo
    cases u<;>first | (simp at hlo;done) | (simp at hlo;subst hlo;exact .inr ⟨y,_,rfl,he⟩)
 have hhi':hi=none∧h=s.length∨∃ y k,hi=some y∧ev env y=some (.int k h):=by
  cases hi with
  | none=>exact .inl ⟨rfl,(Option.some.inj hhi).symm⟩
  | some y =>
   simp only at hhi
   cases he:ev env y with
   | none=>rw [he] at hhi;cases hhi
   | some u =>
    rw [he] at hhi
    cases u<;>first | (simp at hhi;done) | (simp at hhi;subst hhi;exact .inr ⟨y,_,rfl,he⟩)
 have hn1:((h.toNat:Nat):Int)=h:=by omega
 have hn2:((l.toNat:Nat):Int)=l:=by omega
 rcases hlo' with ⟨rfl,rfl⟩ | ⟨y,k,rfl,ey⟩<;>rcases hhi' with ⟨rfl,rfl⟩ | ⟨z,k',rfl,ez⟩
 ·have e1:execOp a.eval ⟨dd,.slice t x none none none,ty,pos,af,gd⟩=(Instr.sliceAt t (.string (bstr s)) none none none >>= fun v=>pure (Next.value v)):=by
   simp [execOp,ha.ev hx]
  refine execOp_val' e1 ?_
  rw [← bstr_extract s _ _ (by omega) (by omega)]
  simp [Instr.sliceAt,Instr.slice,Instr.sliceBounds,run_underlying ht,hsz]
  rw [bstr_extract s _ _ (Nat.zero_le _) (Nat.le_refl _)]
  simp
 ·have e1:execOp a.eval ⟨dd,.slice t x none (some z) none,ty,pos,af,gd⟩=(Instr.sliceAt t (.string (bstr s)) none (some (.int k' h)) none >>= fun v=>pure (Next.value v)):=by
   simp [execOp,ha.ev hx,ha.ev ez]
  refine execOp_val' e1 ?_
  rw [← bstr_extract s _ _ (by omega) (by omega)]
  simp [Instr.sliceAt,Instr.slice,Instr.sliceBounds,run_underlying ht,hsz,run_sliceBound w k' h s.length _ (by omega) (by omega)]
 ·have e1:execOp a.eval ⟨dd,.slice t x (some y) none none,ty,pos,af,gd⟩=(Instr.sliceAt t (.string (bstr s)) (some (.int k l)) none none >>= fun v=>pure (Next.value v)):=by
   simp [execOp,ha.ev hx,ha.ev ey]
  refine execOp_val' e1 ?_
  rw [← bstr_extract s _ _ (by omega) (by omega)]
  simp [Instr.sliceAt,Instr.slice,Instr.sliceBounds,run_underlying ht,hsz,run_sliceBound w k l s.length _ (by omega) (by omega)]
 ·have e1:execOp a.eval ⟨dd,.slice t x (some y) (some z) none,ty,pos,af,gd⟩=(Instr.sliceAt t (.string (bstr s)) (some (.int k l)) (some (.int k' h)) none >>= fun v=>pure (Next.value v)):=by
   simp [execOp,ha.ev hx,ha.ev ey,ha.ev ez]
  refine execOp_val' e1 ?_
  rw [← bstr_extract s _ _ (by omega) (by omega)]
  simp [Instr.sliceAt,Instr.slice,Instr.sliceBounds,run_underlying ht,hsz,run_sliceBound w k' h s.length _ (by omega) (by omega),run_sliceBound w k l h.toNat _ (by omega) (by omega)]
theorem sadd_run {t t':TypeId} {x y:Operand} {l m:List UInt8} (ha:Has a n env) (hx:ev env x=some (.string (bstr l))) (hy:ev env y=some (.string (bstr m))) (h:(l++m).length≤9223372036854775807) (w:World) :
  (execOp a.eval ⟨dd,.binOp .add t x y t',ty,pos,af,gd⟩).run P w=.ok (.value (.string (bstr (l++m)))) w:=by
 refine execOp_val (s:=do eqGuard .add t x y (.string (bstr l)) (.string (bstr m));Go.binOp .add t (.string (bstr l)) (.string (bstr m))) (by simp [execOp,ha.ev hx,ha.ev hy]) ?_
 rw [run_bind (eqGuard_plain (fun _ e=>by cases e) (fun e=>by cases e) w)]
 have hs:(bstr l).size=l.length:=rfl
 have hs':(bstr m).size=m.length:=rfl
 have e:bstr l++bstr m=bstr (l++m):=by
  apply ByteArray.ext
  rw [ByteArray.data_append]
  simp [bstr]
 have hm:IntKind.i64.max=9223372036854775807:=rfl
 have:¬ (((bstr l).size+(bstr m).size:Nat):Int) > IntKind.i64.max:=by
  rw [hs,hs',hm];rw [List.length_append] at h;omega
 simp only [Go.binOp,Op.stringOp,if_neg this,e]
 rfl
theorem shl_run {t t':TypeId} {x y:Operand} {k k':IntKind} {i j:Int} (ha:Has a n env) (hx:ev env x=some (.int k i)) (hy:ev env y=some (.int k' j)) (h:0≤j) (w:World) :
  (execOp a.eval ⟨dd,.binOp .shl t x y t',ty,pos,af,gd⟩).run P w=.ok (.value (.int k (k.wrap (i*2^(min j.toNat k.bits))))) w:=by
 refine execOp_val (s:=do eqGuard .shl t x y (.int k i) (.int k' j);Go.binOp .shl t (.int k i) (.int k' j)) (by simp [execOp,ha.ev hx,ha.ev hy]) ?_
 rw [run_bind (eqGuard_plain (fun _ e=>by cases e) (fun e=>by cases e) w)]
 exact ishift_run (by simp [ishift,Int.not_lt.2 h]) w
theorem shr_run {t t':TypeId} {x y:Operand} {k k':IntKind} {i j:Int} (ha:Has a n env) (hx:ev env x=some (.int k i)) (hy:ev env y=some (.int k' j)) (h:0≤j) (w:World) :
  (execOp a.eval ⟨dd,.binOp .shr t x y t',ty,pos,af,gd⟩).run P w=.ok (.value (.int k (i.fdiv (2^(min j.toNat k.bits))))) w:=by
 refine execOp_val (s:=do eqGuard .shr t x y (.int k i) (.int k' j);Go.binOp .shr t (.int k i) (.int k' j)) (by simp [execOp,ha.ev hx,ha.ev hy]) ?_
 rw [run_bind (eqGuard_plain (fun _ e=>by cases e) (fun e=>by cases e) w)]
 exact ishift_run (by simp [ishift,Int.not_lt.2 h]) w
theorem quo_run {t t':TypeId} {x y:Operand} {k:IntKind} {i j:Int} (ha:Has a n env) (hx:ev env x=some (.int k i)) (hy:ev env y=some (.int k j)) (h:j≠0) (w:World) :
  (execOp a.eval ⟨dd,.binOp .quo t x y t',ty,pos,af,gd⟩).run P w=.ok (.value (.int k (k.wrap (i.tdiv j)))) w:=by
 refine execOp_val (s:=do eqGuard .quo t x y (.int k i) (.int k j);Go.binOp .quo t (.int k i) (.int k j)) (by simp [execOp,ha.ev hx,ha.ev hy]) ?_
 rw [run_bind (eqGuard_plain (fun _ e=>by cases e) (fun e=>by cases e) w)]
 exact ibin_run (by simp [ibin,h]) (fun e=>by cases e) (fun e=>by cases e) w
theorem rem_run {t t':TypeId} {x y:Operand} {k:IntKind} {i j:Int} (ha:Has a n env) (hx:ev env x=some (.int k i)) (hy:ev env y=some (.int k j)) (h:j≠0) (w:World) :
  (execOp a.eval ⟨dd,.binOp .rem t x y t',ty,pos,af,gd⟩).run P w=.ok (.value (.int k (i.tmod j))) w:=by
 refine execOp_val (s:=do eqGuard .rem t x y (.int k i) (.int k j);Go.binOp .rem t (.int k i) (.int k j)) (by simp [execOp,ha.ev hx,ha.ev hy]) ?_
 rw [run_bind (eqGuard_plain (fun _ e=>by cases e) (fun e=>by cases e) w)]
 exact ibin_run (by simp [ibin,h]) (fun e=>by cases e) (fun e=>by cases e) w
def Iter (w:World) (g:Nat) (s:List UInt8) (p:Nat):Prop:=w.heap[g]? = some (.stringIter (bstr s) p)
theorem Iter.chg {g:Nat} {s:List UInt8} {p:Nat} {gs:List Nat} (h:Iter w g s p) (hc:Chg gs w w') (hn:g∉gs):Iter w' g s p:=hc.at h hn
theorem Iter.c0 {g:Nat} {s:List UInt8} {p:Nat} (h:Iter w g s p) (hc:Chg [] w w'):Iter w' g s p:=h.chg hc (fun h=>nomatch h)
def dec (s:List UInt8) (p:Nat):Nat×Nat:=Utf8.decode (bstr s) p
theorem rng {t:TypeId} {x:Operand} {s:List UInt8} (ha:Has a n env) (ht:P.underlying t=some .string) (hx:ev env x=some (.string (bstr s)))
  (hg:gok ops env gd=some true) (hd:dd=some d) (hdn:Nat.blt d n=true)
  (hk:∀ a' w' g,New w w' g (.stringIter (bstr s) 0)→Has a' n ((d,.pointer (some ⟨g,0,none⟩))::env)→wpList P ops Q rest a' w'):wpList P ops Q (⟨dd,.range t x,ty,pos,af,gd⟩::rest) a w:=by
 refine hop (o:=⟨dd,.range t x,ty,pos,af,gd⟩) (w':=w.alloc (.stringIter (bstr s) 0)) (v:=.pointer (some ⟨w.heap.size,0,none⟩)) ha hg hd hdn ?_ ?_
 ·have e1:execOp a.eval ⟨dd,.range t x,ty,pos,af,gd⟩=(Instr.range t (.string (bstr s)) >>= fun v=>pure (Next.value v)):=by
   simp [execOp,ha.ev hx]
  rw [e1]
  simp [Instr.range,run_underlying ht,newObj,Sem.run]
 ·intro a' ha'
  exact hk a' _ _ (New.alloc _ _) ha'
theorem nxt_more {x:Operand} {g p:Nat} {s:List UInt8} (ha:Has a n env) (hx:ev env x=some (.pointer (some ⟨g,0,none⟩)))
  (hg:gok ops env gd=some true) (hd:dd=some d) (hdn:Nat.blt d n=true) (hI:Iter w g s p) (hp:p < s.length)
  (hk:∀ a' w',Iter w' g s (p+(dec s p).2)→Chg [g] w w'→Has a' n ((d,.tuple #[.bool true,.int .i64 (p:Int),.int .i32 ((dec s p).1:Int)])::env)→wpList P ops Q rest a' w'):wpList P ops Q (⟨dd,.next x true,ty,pos,af,gd⟩::rest) a w:=by
 have hlt:=lt_size hI
 have hsz:(bstr s).size=s.length:=rfl
 refine hop (o:=⟨dd,.next x true,ty,pos,af,gd⟩) (w':={ w with heap:=w.heap.set! g (.stringIter (bstr s) (p+(dec s p).2)) }) (v:=.tuple #[.bool true,.int .i64 (p:Int),.int .i32 ((dec s p).1:Int)]) ha hg hd hdn ?_ ?_
 ·have e1:execOp a.eval ⟨dd,.next x true,ty,pos,af,gd⟩=(Instr.next (.pointer (some ⟨g,0,none⟩)) true ty >>= fun v=>pure (Next.value v)):=by
   simp [execOp,ha.ev hx]
  rw [e1]
  unfold Iter at hI
  simp [Instr.next,getObj,setObj,Sem.run,hI,hsz,hp,goInt,dec]
 ·intro a' ha'
  refine hk a' _ ?_ ?_ ha'
  ·unfold Iter
   simp [hlt]
  ·refine ⟨rfl,rfl,rfl,by simp,fun k hk' hn=>?_⟩
   have:g≠k:=fun e=>hn (by simp [e])
   simp [Array.getElem?_setIfInBounds,this]
theorem nxt_over {x:Operand} {g p:Nat} {s:List UInt8} (ha:Has a n env) (hx:ev env x=some (.pointer (some ⟨g,0,none⟩)))
  (hg:gok ops env gd=some true) (hd:dd=some d) (hdn:Nat.blt d n=true) (hI:Iter w g s p) (hp:¬ p < s.length)
  (hk:∀ a',Has a' n ((d,.tuple #[.bool false])::env)→wpList P ops Q rest a' w):wpList P ops Q (⟨dd,.next x true,ty,pos,af,gd⟩::rest) a w:=by
 have hsz:(bstr s).size=s.length:=rfl
 refine hop (o:=⟨dd,.next x true,ty,pos,af,gd⟩) (w':=w) (v:=.tuple #[.bool false]) ha hg hd hdn ?_ hk
 have e1:execOp a.eval ⟨dd,.next x true,ty,pos,af,gd⟩=(Instr.next (.pointer (some ⟨g,0,none⟩)) true ty >>= fun v=>pure (Next.value v)):=by
  simp [execOp,ha.ev hx]
 rw [e1]
 unfold Iter at hI
 simp [Instr.next,getObj,Sem.run,hI,hsz,hp]
end
end Go.E
