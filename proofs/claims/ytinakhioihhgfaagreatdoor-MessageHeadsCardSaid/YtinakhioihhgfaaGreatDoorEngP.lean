/- The rules by which these proofs step through the code, part P. -/
import Derived.Test.YtinakhioihhgfaaGreatDoorEngI
set_option linter.unusedVariables false
set_option linter.unusedSimpArgs false
namespace Go.E
open Go.RowKit
def kq (ds:List Nat) (as:Env) (k:Nat):Bool:=ds.elem k || as.any fun p=>Nat.beq p.1 k
inductive Kq (ds:List Nat) (as:Env):Env→Env→Prop
 | nil:Kq ds as [] []
 | keep {k:Nat} {v:Value} {e e':Env} (h:kq ds as k=false) (t:Kq ds as e e'):Kq ds as ((k,v)::e) ((k,v)::e')
 | drop {k:Nat} {v:Value} {e e':Env} (h:kq ds as k=true) (t:Kq ds as e e'):Kq ds as ((k,v)::e) e'
inductive Kp:Env→Env→Env→Prop
 | nil {e:Env}:Kp [] e e
 | cons {p:Nat×Value} {as e e':Env} (t:Kp as e e'):Kp (p::as) e (p::e')
abbrev pt (g o:Nat):Value:=.pointer (some ⟨g,o,none⟩)
abbrev Cs (w:World) (g o:Nat) (cs:List Value):Prop:=∀ j v,cs[j]? = some v→w.cell? ⟨g,o+j,none⟩=some v
theorem oj {α:Type} {x y:α} (h:some x=some y):x=y:=Option.some.inj h
section
variable {P:Program} {n d:Nat} {ops:Array Oper} {Q:Exit→Act→World→Prop} {w w':World} {a:Act} {env:Env} {rest l:List Oper} {o:Oper} {v:Value}
 {dd:Option Tmp} {ty:TypeId} {pos:String} {af:Array Edge} {gd:Option (Nat×Bool)}
theorem sd {e1 env':Env} (ha:Has a n env) (m:Nat) (ds:List Nat) (as:Env)
  (hk:∀ a',Has a' n env'→wpList P ops Q (l.drop m) a' w)
  (h1:Kq ds as env e1:=by repeat' (first | exact Kq.nil | apply Kq.keep rfl | apply Kq.drop rfl))
  (h2:Kp as e1 env':=by repeat' (first | exact Kp.nil | apply Kp.cons))
  (h:((segF n P ops (l.take m) (up env)).map fun e=>env'.map fun p=>glook e p.1)=some (env'.map fun p=>some ([],p.2)):=by kernel_rfl):wpList P ops Q l a w:=seg ha m env' h hk
theorem sf (ha:Has a n env) (m:Nat) (env':Env)
  (hk:∀ a',Has a' n env'→wpList P ops Q (l.drop m) a' w)
  (h:((segF n P ops (l.take m) (up env)).map fun e=>env'.map fun p=>glook e p.1)=some (env'.map fun p=>some ([],p.2)):=by kernel_rfl):wpList P ops Q l a w:=seg ha m env' h hk
theorem sgd {e1 env':Env} (ha:Has a n env) (m:Nat) (hs:List Nat) (ds:List Nat) (as:Env)
  (hk:∀ a',Has a' n env'→wpList P ops Q (l.drop m) a' w)
  (h1:Kq ds as env e1:=by repeat' (first | exact Kq.nil | apply Kq.keep rfl | apply Kq.drop rfl))
  (h2:Kp as e1 env':=by repeat' (first | exact Kp.nil | apply Kp.cons))
  (h:((segH n P ops hs (l.take m) (up env)).map fun e=>env'.map fun p=>glook e p.1)=some (env'.map fun p=>some ([],p.2)):=by kernel_rfl):wpList P ops Q l a w:=sgh ha m hs env' h hk
theorem sgf (ha:Has a n env) (m:Nat) (hs:List Nat) (env':Env)
  (hk:∀ a',Has a' n env'→wpList P ops Q (l.drop m) a' w)
  (h:((segH n P ops hs (l.take m) (up env)).map fun e=>env'.map fun p=>glook e p.1)=some (env'.map fun p=>some ([],p.2)):=by kernel_rfl):wpList P ops Q l a w:=sgh ha m hs env' h hk
theorem wsr {id:Nat} {y:Code} (h:∀ K:Act→World→Prop,(∀ a w,y.wp P Q a w→K a w)→wpList P l.toArray (Exit.then K Q) l a w) :
  (Code.seq (.region id l.toArray false) y).wp P Q a w:=wp_seq_k fun K hK=>wp_region_lit (h K hK)
theorem sq {id:Nat} {y:Code} (ha:Has a n env) (m:Nat) (env':Env)
  (hk:∀ a',Has a' n env'→y.wp P Q a' w)
  (h:((segF n P l.toArray (l.take m) (up env)).map fun e=>env'.map fun p=>glook e p.1)=some (env'.map fun p=>some ([],p.2)):=by kernel_rfl)
  (hl:l.drop m=[]:=by rfl):(Code.seq (.region id l.toArray false) y).wp P Q a w :=
 wp_seq_k fun K hK=>wp_region_lit (seg ha m env' h fun a' ha'=>by rw [hl];exact hK _ _ (hk a' ha'))
theorem sqd {id:Nat} {y:Code} {e1 env':Env} (ha:Has a n env) (m:Nat) (ds:List Nat) (as:Env)
  (hk:∀ a',Has a' n env'→y.wp P Q a' w)
  (h1:Kq ds as env e1:=by repeat' (first | exact Kq.nil | apply Kq.keep rfl | apply Kq.drop rfl))
  (h2:Kp as e1 env':=by repeat' (first | exact Kp.nil | apply Kp.cons))
  (h:((segF n P l.toArray (l.take m) (up env)).map fun e=>env'.map fun p=>glook e p.1)=some (env'.map fun p=>some ([],p.2)):=by kernel_rfl)
  (hl:l.drop m=[]:=by rfl):(Code.seq (.region id l.toArray false) y).wp P Q a w:=sq ha m env' hk h hl
theorem cL {f:FuncId} {xs:Array Operand} {tys:Array TypeId} {vals:List Value} {R:Value→World→Prop} (ha:Has a n env) (hC:To P f vals w R)
  (hk:∀ v w',R v w'→∀ a',Has a' n ((d,v)::env)→wpList P ops Q rest a' w')
  (hv:xs.toList.map (ev env)=vals.map some:=by rfl) (hB:bodyB P f=true:=by kernel_rfl)
  (hg:gok ops env gd=some true:=by rfl) (hd:dd=some d:=by rfl) (hdn:Nat.blt d n=true:=by rfl) :
  wpList P ops Q (⟨dd,.call ⟨.value (.func f),xs,tys⟩,ty,pos,af,gd⟩::rest) a w:=cl ha hv hB hg hd hdn hC hk
theorem ldE {t:TypeId} {x:Operand} {g o':Nat} {cs:List Value} (hc:Cs w g o' cs) (ha:Has a n env)
  (hk:∀ a',Has a' n ((d,.agg cs.toArray)::env)→wpList P ops Q rest a' w)
  (hx:ev env x=some (.pointer (some ⟨g,o'+0,none⟩)):=by rfl) (ht:aggB P t cs.length=true:=by kernel_rfl)
  (hg:gok ops env gd=some true:=by rfl) (hd:dd=some d:=by rfl) (hdn:Nat.blt d n=true:=by rfl):wpList P ops Q (⟨dd,.load t x,ty,pos,af,gd⟩::rest) a w :=
 ldA ha hx ht hg hd hdn (cells_sub hc (all:=cs) [] [] (by simp)) hk
theorem alE {t:TypeId} (cs:List Value) (ha:Has a n env)
  (hk:∀ a' w' g,New w w' g (.cells cs.toArray t (0,0))→Has a' n ((d,.pointer (some ⟨g,0,none⟩))::env)→wpList P ops Q rest a' w')
  (hz:∀ w,(zeroValue t).run P w=.ok (.agg cs.toArray) w:=by intro w;kernel_rfl)
  (hg:gok ops env gd=some true:=by rfl) (hd:dd=some d:=by rfl) (hdn:Nat.blt d n=true:=by rfl):wpList P ops Q (⟨dd,.alloc t,ty,pos,af,gd⟩::rest) a w :=
 al (z:=.agg cs.toArray) ha hz rfl hg hd hdn hk
theorem take_all {g:Nat} {cs l:List Value} (h:l.length=cs.length) (hb:Box w g (cs.take 0++l++cs.drop (0+l.length))):Box w g l:=by
 simpa [h] using hb
theorem stE {t:TypeId} {x y:Operand} {g:Nat} {cs:List Value} (l:List Value) (ha:Has a n env) (hb:Box w g cs)
  (hk:∀ a' w',Has a' n env→Box w' g l→Chg [g] w w'→w'.heap.size=w.heap.size→wpList P ops Q rest a' w')
  (hx:ev env x=some (.pointer (some ⟨g,0,none⟩)):=by rfl) (hy:ev env y=some (.agg l.toArray):=by rfl)
  (hsz:((P.info? t).map (·.size))=some l.length:=by kernel_rfl) (h1:l.all (·.oneCell')=true:=by rfl)
  (hg:gok ops env gd=some true:=by rfl) (ho:l.length=cs.length:=by rfl):wpList P ops Q (⟨none,.store t x y,ty,pos,af,gd⟩::rest) a w :=
 stA (l:=l) ha hx hy rfl hsz h1 hg hb (by simp [ho]) fun a' w' h2 h3 h4 h5=>hk a' w' h2 (take_all ho h3) h4 h5
theorem oP (v:Value) (ha:Has a n env) (hk:∀ a',Has a' n ((d,v)::env)→wpList P ops Q rest a' w)
  (hd:o.dst=some d:=by rfl) (hdn:Nat.blt d n=true:=by rfl) (hg:gok ops env o.guard=some true:=by rfl) (hall:allB env o=true:=by rfl) (hsel:selB o=false:=by rfl)
  (hr:∀ w,(execOp (evF env) o).run P w=.ok (.value v) w:=by intro w;kernel_rfl):wpList P ops Q (o::rest) a w:=opk ha hd hdn hg hall hsel hr hk
theorem ck {gs M:List Nat} {g o:Nat} {cs:List Value} (hc:Chg gs w w') (ho:Ok gs M w.heap.size) (hn:g∉M) (h:Cs w g o cs):Cs w' g o cs :=
 fun j v hv=>cell_keep hc ho hn (h j v hv)
theorem pn {A B L:List Nat} (hM:MS L w) (ne:∀ x∈A,w.heap.size≤x) (hs:∀ x,x∈B→x∈L):∀ x∈A,x∉B :=
 fun x hx hy=>absurd (hM x (hs x hy)) (Nat.not_lt.2 (ne x hx))
theorem eN {w0:World} {gs A:List Nat} (hC:Chg gs w0 w) (h:∀ x∈A,w.heap.size≤x):∀ x∈A,w0.heap.size≤x:=fun x hx=>Nat.le_trans hC.size (h x hx)
theorem oR (M:List Nat) (w:World):Ok M M w.heap.size:=Ok.refl _ _
theorem oA {g:Nat} {ob:Obj} (h:New w w' g ob) (B:List Nat):Ok ([g]++B) B w.heap.size:=Ok.app (h.ok _) (Ok.refl _ _)
theorem _root_.Go.E.Box.c0 {g:Nat} {cs:List Value} (h:Box w g cs) (hc:Chg [] w w'):Box w' g cs:=h.chg hc (fun h=>nomatch h)
theorem _root_.Go.E.Chg.t0 {gs:List Nat} {w0:World} (h:Chg gs w0 w) (hc:Chg [] w w'):Chg gs w0 w':=h.trans hc (Ok.nil _ _)
theorem _root_.Go.E.Chg.t1 {gs gs':List Nat} {w0:World} (h:Chg gs w0 w) (hc:Chg gs' w w') (e:∀ x∈gs',w0.heap.size≤x):Chg gs w0 w':=h.trans hc (fun x h=>.inr (e x h))
theorem _root_.Go.E.MS.sb {A L:List Nat} (h:MS L w) (s:∀ x,x∈A→x∈L):MS A w:=fun x hx=>h x (s x hx)
theorem qn {A B:List Nat} {g o:Nat} (ho:Ok A B w.heap.size) (hn:g∉B) (hc:w.cell? ⟨g,o,none⟩=some v):g∉A:=fun h=>(ho g h).elim hn (fun h=>absurd (lt_cell hc) (Nat.not_lt.2 h))
theorem pf {A A0 B L:List Nat} (hk:∀ x∈A,x∈A0∨w.heap.size≤x) (p:∀ x∈A0,x∉B) (hM:MS L w) (hs:∀ x,x∈B→x∈L):∀ x∈A,x∉B :=
 fun x hx hy=>(hk x hx).elim (fun h=>p x h hy) (fun h=>absurd (hM x (hs x hy)) (Nat.not_lt.2 h))
theorem ef {A A0 gs:List Nat} {w0:World} (hk:∀ x∈A,x∈A0∨w.heap.size≤x) (e:∀ x∈A0,w0.heap.size≤x) (hC:Chg gs w0 w):∀ x∈A,w0.heap.size≤x :=
 fun x hx=>(hk x hx).elim (e x) (Nat.le_trans hC.size)
theorem ldR {t:TypeId} {x:Operand} {g o':Nat} {cs:List Value} (hc:Cs w g o' cs) (ha:Has a n env)
  (hx:ev env x=some (.pointer (some ⟨g,o'+0,none⟩)):=by rfl) (ht:aggB P t cs.length=true:=by kernel_rfl) :
  (execOp a.eval ⟨dd,.load t x,ty,pos,af,gd⟩).run P w=.ok (.value (.agg cs.toArray)) w:=ldA_run ha hx ht (cells_sub hc (all:=cs) [] [] (by simp))
theorem cnH {c:Operand} {x y:Code} {b:Bool} {α:Type} {p q z:α} (H:(if b=true then p else q)=z) (ha:Has a n env)
  (ht:b=true→p=z→x.wp P Q a w) (hf:b=false→q=z→y.wp P Q a w) (h:ev env c=some (.bool b):=by rfl):(Code.cond c x y).wp P Q a w :=
 cnd ha h (fun e=>ht e (ite_t e H)) (fun e=>hf e (ite_f e H))
theorem wrt {R:Prop} (h:R) (e:Q .ret a w=R:=by first | ((conv=>lhs;simp only [Exit.then,Exit.inBlock])<;>exact rfl) | exact rfl):Code.ret.wp P Q a w:=wp_ret (e ▸ h)
theorem wx {R:Prop} {k:Nat} (h:R) (e:Q (.exit k) a w=R:=by (conv=>lhs;simp only [Exit.then,Exit.inBlock,↓reduceIte,Nat.reduceEqDiff])<;>exact rfl):(Code.exit k).wp P Q a w:=wp_exit (e ▸ h)
theorem oN (M:List Nat) (w:World):Ok [] M w.heap.size:=Ok.nil _ _
end
section
variable {P:Program} {n d fuel:Nat} {ops:Array Oper} {Q:Act→Prop} {S:World→Prop} {a:Act} {env:Env} {rest:List Oper} {o:Oper} {v:Value}
theorem qP (k:Nat) (v:Value) (ha:Has a n env) (hk:∀ a',Has a' n ((d,v)::env)→wpQuiet P ops S Q rest a')
  (hg:gok ops env o.guard=some true:=by rfl) (hd:o.dst=some d:=by rfl) (hdn:Nat.blt d n=true:=by rfl) (hv:hval P (up env) [] k o.op=some v:=by kernel_rfl) :
  wpQuiet P ops S Q (o::rest) a:=qp k v ha hg hd hdn hv hk
theorem qV (ha:Has a n env) (hr:∀ w,S w→(execOp a.eval o).run P w=.ok (.value v) w)
  (hk:∀ a',Has a' n ((d,v)::env)→wpQuiet P ops S Q rest a') (hg:gok ops env o.guard=some true:=by rfl) (hd:o.dst=some d:=by rfl) (hdn:Nat.blt d n=true:=by rfl) :
  wpQuiet P ops S Q (o::rest) a:=qv ha hg hd hdn hr hk
theorem qO (ha:Has a n env) (hk:∀ a',Has a' n ((d,undef)::env)→wpQuiet P ops S Q rest a')
  (hg:gok ops env o.guard=some false:=by rfl) (hd:o.dst=some d:=by rfl) (hdn:Nat.blt d n=true:=by rfl):wpQuiet P ops S Q (o::rest) a:=qo ha hg hd hdn hk
end
section
variable {P:Program} {n d fuel:Nat} {ops:Array Oper} {Q:Exit→Act→World→Prop} {S:World→Prop} {w:World} {a:Act} {env:Env} {o:Oper} {v:Value} {listed:Array Bool}
theorem tz (i:Nat) (ha:Has a n env) (hi:ops[i]? = some o) (y:∀ w',S w'→(execOp a.eval o).run P w'=.ok (.value v) w') (s:S w)
  (q:∀ a',Has a' n ((d,v)::env)→wpAnyH P .any ops Q S fuel (listed.setIfInBounds i true) a' w)
  (hs:Region.noSelect ops=true:=by kernel_rfl) (hf:Region.free .any ops listed i=true:=by kernel_rfl) (hr:(Region.ready .any ops listed).contains i=true:=by kernel_rfl)
  (hd:o.dst=some d:=by rfl) (hdn:Nat.blt d n=true:=by rfl) (hg:gok ops env o.guard=some true:=by rfl) (hQ:∀ c a w,Q (.panic c) (a.put o.dst v) w→Q (.panic c) a w:=by exact fun _ _ _ h=>h) :
  wpAnyH P .any ops Q S (fuel+1) listed a w:=tk i ha hi hs hf hr hd hdn hg hQ y s q
theorem tp (i:Nat) (k:Nat) (v:Value) (ha:Has a n env) (s:S w)
  (q:∀ a',Has a' n ((d,v)::env)→wpAnyH P .any ops Q S fuel (listed.setIfInBounds i true) a' w)
  (hi:ops[i]? = some o:=by rfl) (hs:Region.noSelect ops=true:=by kernel_rfl) (hf:Region.free .any ops listed i=true:=by kernel_rfl) (hr:(Region.ready .any ops listed).contains i=true:=by kernel_rfl)
  (hd:o.dst=some d:=by rfl) (hdn:Nat.blt d n=true:=by rfl) (hg:gok ops env o.guard=some true:=by rfl) (hQ:∀ c a w,Q (.panic c) (a.put o.dst v) w→Q (.panic c) a w:=by exact fun _ _ _ h=>h)
  (hv:hval P (up env) [] k o.op=some v:=by kernel_rfl) :
  wpAnyH P .any ops Q S (fuel+1) listed a w:=tkp i k v ha hi hs hf hr hd hdn hg hQ hv s q
theorem to' (i:Nat) (ha:Has a n env) (s:S w)
  (q:∀ a',Has a' n ((d,undef)::env)→wpAnyH P .any ops Q S fuel (listed.setIfInBounds i true) a' w)
  (hi:ops[i]? = some o:=by rfl) (hs:Region.noSelect ops=true:=by kernel_rfl) (hf:Region.free .any ops listed i=true:=by kernel_rfl) (hr:(Region.ready .any ops listed).contains i=true:=by kernel_rfl)
  (hd:o.dst=some d:=by rfl) (hdn:Nat.blt d n=true:=by rfl) (hg:gok ops env o.guard=some false:=by rfl) (hQ:∀ c a w,Q (.panic c) (a.put o.dst undef) w→Q (.panic c) a w:=by exact fun _ _ _ h=>h) :
  wpAnyH P .any ops Q S (fuel+1) listed a w:=tko i ha hi hs hf hr hd hdn hg hQ s q
end
end Go.E
