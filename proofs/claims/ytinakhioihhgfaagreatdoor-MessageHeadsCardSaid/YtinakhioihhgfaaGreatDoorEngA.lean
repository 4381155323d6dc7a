/- The rules by which these proofs step through the code, part A. -/
import Derived.WalkKit
set_option linter.unusedVariables false
set_option linter.unusedSimpArgs false
namespace Go.E
open Go.RowKit
abbrev Env:=List (Nat×Value)
abbrev Grd:=List (Nat×Bool)
abbrev GEnv:=List (Nat×Grd×Value)
def look:Env→Nat→Option Value
 | [],_=>none
 | (j,v)::r,i=>bif Nat.beq j i then some v else look r i
def glook:GEnv→Nat→Option (Grd×Value)
 | [],_=>none
 | (j,e)::r,i=>bif Nat.beq j i then some e else glook r i
def up:Env→GEnv
 | []=>[]
 | (j,v)::r=>(j,[],v)::up r
structure Has (a:Act) (n:Nat) (env:Env):Prop where
 defers:a.defers=[]
 size:a.tmps.size=n
 vals:∀ i v,look env i=some v→a.tmps.getD i undef=v
 lt:∀ i v,look env i=some v→i < n
def ev (env:Env):Operand→Option Value
 | .tmp t=>look env t
 | .const v=>some v
 | .global g=>some (.pointer (some ⟨g,0,none⟩))
 | .func f=>some (.func (.func f) #[] #[])
theorem Has.ev {a:Act} {n:Nat} {env:Env} (h:Has a n env) {x:Operand} {v:Value} (hx:ev env x=some v):a.eval x=v:=by
 cases x with
 | tmp t=>exact h.vals t v hx
 | const u=>simpa [E.ev,Act.eval] using hx
 | global g=>simpa [E.ev,Act.eval] using hx
 | func f=>simpa [E.ev,Act.eval] using hx
theorem look_cons (j:Nat) (v:Value) (r:Env) (i:Nat):look ((j,v)::r) i=if j=i then some v else look r i:=by
 simp only [look]
 by_cases h:j=i
 ·subst h;simp
 ·rw [if_neg h]
  have:Nat.beq j i=false:=by
   cases hb:Nat.beq j i
   ·rfl
   ·exact absurd (Nat.eq_of_beq_eq_true hb) h
  rw [this];rfl
theorem glook_cons (j:Nat) (v:Grd×Value) (r:GEnv) (i:Nat):glook ((j,v)::r) i=if j=i then some v else glook r i:=by
 simp only [glook]
 by_cases h:j=i
 ·subst h;simp
 ·rw [if_neg h]
  have:Nat.beq j i=false:=by
   cases hb:Nat.beq j i
   ·rfl
   ·exact absurd (Nat.eq_of_beq_eq_true hb) h
  rw [this];rfl
theorem glook_up (env:Env) (i:Nat):glook (up env) i=(look env i).map fun v=>([],v):=by
 induction env with
 | nil=>rfl
 | cons p r ih =>
  obtain ⟨j,v⟩:=p
  simp only [up,glook_cons,look_cons]
  split
  ·rfl
  ·exact ih
theorem Has.put {a:Act} {n:Nat} {env:Env} (h:Has a n env) {d:Nat} (hd:Nat.blt d n=true) (v:Value):Has (a.put (some d) v) n ((d,v)::env):=by
 have hd':d < n:=by simpa using hd
 refine ⟨h.defers,by simp [Act.put,h.size],fun i u hu=>?_,?_⟩
 ·rw [look_cons] at hu
  by_cases e:d=i
  ·subst e
   rw [if_pos rfl] at hu
   obtain rfl:=Option.some.inj hu
   simp [Act.put,Array.getD,h.size,hd']
  ·rw [if_neg e] at hu
   have:=h.vals i u hu
   simp only [Act.put]
   rw [← this]
   simp only [Array.getD_eq_getD_getElem?,Array.getElem?_setIfInBounds]
   rw [if_neg e]
 ·intro i u hu
  rw [look_cons] at hu
  by_cases e:d=i
  ·subst e;exact hd'
  ·rw [if_neg e] at hu;exact h.lt i u hu
theorem Has.put_none {a:Act} {n:Nat} {env:Env} (h:Has a n env) (v:Value):Has (a.put none v) n env:=h
theorem Has.sel {a:Act} {n:Nat} {env env':Env} (h:Has a n env) (hs:env'.map (fun p=>look env p.1)=env'.map (fun p=>some p.2)):Has a n env':=by
 have key:∀ i v,look env' i=some v→look env i=some v:=by
  intro i v hv
  induction env' with
  | nil=>simp [look] at hv
  | cons p r ih =>
   obtain ⟨j,u⟩:=p
   simp only [List.map_cons,List.cons.injEq] at hs
   rw [look_cons] at hv
   split at hv
   ·rename_i e;subst e;obtain rfl:=Option.some.inj hv;exact hs.1
   ·exact ih hs.2 hv
 exact ⟨h.defers,h.size,fun i v hv=>h.vals i v (key i v hv),fun i v hv=>h.lt i v (key i v hv)⟩
theorem Has.cast {a:Act} {n:Nat} {env env':Env} (h:Has a n env) (e:env=env'):Has a n env':=e ▸ h
/-! ### operations that look at no world -/
def ibin (op:BinOp) (k:IntKind) (a b:Int):Option Value :=
 match op with
 | .add=>some (.int k (k.wrap (a+b)))
 | .sub=>some (.int k (k.wrap (a - b)))
 | .mul=>some (.int k (k.wrap (a*b)))
 | .and=>some (.int k (k.wrap (BitVec.ofInt k.bits a &&& BitVec.ofInt k.bits b).toNat))
 | .or=>some (.int k (k.wrap (BitVec.ofInt k.bits a ||| BitVec.ofInt k.bits b).toNat))
 | .xor=>some (.int k (k.wrap (BitVec.ofInt k.bits a ^^^ BitVec.ofInt k.bits b).toNat))
 | .andNot=>some (.int k (k.wrap (BitVec.ofInt k.bits a &&& ~~~ BitVec.ofInt k.bits b).toNat))
 | .eql=>some (.bool (a==b))
 | .neq=>some (.bool (a != b))
 | .lss=>some (.bool (decide (a < b)))
 | .leq=>some (.bool (decide (a≤b)))
 | .gtr=>some (.bool (decide (a > b)))
 | .geq=>some (.bool (decide (a ≥ b)))
 | .quo=>if b=0 then none else some (.int k (k.wrap (a.tdiv b)))
 | .rem=>if b=0 then none else some (.int k (a.tmod b))
 | .shl | .shr=>none
def ishift (op:BinOp) (k:IntKind) (a b:Int):Option Value :=
 match op with
 | .shl=>if b < 0 then none else some (.int k (k.wrap (a*2^(min b.toNat k.bits))))
 | .shr=>if b < 0 then none else some (.int k (a.fdiv (2^(min b.toNat k.bits))))
 | _=>none
def bbin (P:Program) (t:TypeId) (op:BinOp) (x y:Value):Option Value :=
 match x,y with
 | .int k a,.int k' b =>
  match op with
  | .shl | .shr=>ishift op k a b
  | _=>if k=k' then ibin op k a b else none
 | .bool a,.bool b =>
  match op,P.underlying t with
  | .eql,some .bool=>some (.bool (a==b))
  | .neq,some .bool=>some (.bool (!(a==b)))
  | _,_=>none
 | .string a,.string b =>
  match op with
  | .eql=>some (.bool (a.toList==b.toList))
  | .neq=>some (.bool (!(a.toList==b.toList)))
  | .lss=>some (.bool (Op.bytesLess a.toList b.toList))
  | .leq=>some (.bool (Op.bytesLess a.toList b.toList || a.toList==b.toList))
  | _=>none
 | .pointer a,.pointer none =>
  match op,P.underlying t with
  | .eql,some (.pointer _)=>some (.bool a.isNone)
  | .neq,some (.pointer _)=>some (.bool (!a.isNone))
  | _,_=>none
 | .slice a _ _,.slice none _ _ =>
  match op,P.underlying t with
  | .eql,some (.slice _)=>some (.bool a.isNone)
  | .neq,some (.slice _)=>some (.bool (!a.isNone))
  | _,_=>none
 | _,_=>none
def uop (op:UnOp) (x:Value):Option Value :=
 match op,x with
 | .neg,.int k n=>some (.int k (k.wrap (0 - n)))
 | .xor,.int k n=>some (.int k (k.wrap (BitVec.ofInt k.bits (if k.signed then -1 else k.max) ^^^ BitVec.ofInt k.bits n).toNat))
 | .not,.bool b=>some (.bool !b)
 | _,_=>none
def fieldOff (P:Program) (s:TypeId) (f:Nat):Option Nat :=
 match P.underlying s with
 | some (.struct fields) =>
  match fields[f]? with
  | some fd=>match P.info? fd.type with
   | some i=>if i.size=0 then none else some fd.offset
   | none=>none
  | none=>none
 | _=>none
def blen (P:Program) (t:TypeId) (x:Value):Option Value :=
 match P.underlying t,x with
 | some (.slice _),.slice _ n _=>some (.int .i64 n)
 | some .string,.string s=>some (.int .i64 s.size)
 | some (.array n _),_=>some (.int .i64 n)
 | _,_=>none
def bcap (P:Program) (t:TypeId) (x:Value):Option Value :=
 match P.underlying t,x with
 | some (.slice _),.slice _ _ c=>some (.int .i64 c)
 | _,_=>none
def gev (env:GEnv) (G:Grd):Operand→Option Value
 | .tmp t=>match glook env t with
  | some (G',v)=>if G'.all (fun p=>G.contains p) then some v else none
  | none=>none
 | .const v=>some v
 | .global g=>some (.pointer (some ⟨g,0,none⟩))
 | .func f=>some (.func (.func f) #[] #[])
def pop (P:Program) (env:GEnv) (G:Grd) (op:Op):Option Value :=
 match op with
 | .move x | .assign x=>gev env G x
 | .pick (.tmp c) a b =>
  match gev env G (.tmp c),gev env ((c,true)::G) a,gev env ((c,false)::G) b with
  | some (.bool c),some (.bool a),some (.bool b)=>some (.bool (if c then a else b))
  | _,_,_=>none
 | .binOp op t x y _ =>
  match gev env G x,gev env G y with
  | some x,some y=>bbin P t op x y
  | _,_=>none
 | .unOp op _ x=>match gev env G x with
  | some x=>uop op x
  | none=>none
 | .convert s d x =>
  match gev env G x,P.underlying s,P.underlying d with
  | some (.int _ n),some (.int _),some (.int k)=>some (.int k (k.wrap n))
  | some (.string s),some .string,some .string=>some (.string s)
  | _,_,_=>none
 | .nilCheck x=>match gev env G x with
  | some (.pointer (some a))=>some (.pointer (some a))
  | _=>none
 | .fieldAddr s x f=>match gev env G x,fieldOff P s f with
  | some (.pointer (some a)),some o=>some (.pointer (some (a.add o)))
  | _,_=>none
 | .extract x i=>match gev env G x with
  | some (.tuple vs)=>vs[i]?
  | _=>none
 | .call c =>
  match c.callee,c.args.toList,c.argTypes.toList with
  | .builtin .len,[x],[t]=>match gev env G x with
   | some x=>blen P t x
   | none=>none
  | .builtin .cap,[x],[t]=>match gev env G x with
   | some x=>bcap P t x
   | none=>none
  | _,_,_=>none
 | _=>none
def gchain (ops:Array Oper) (env:GEnv):Option (Nat×Bool)→Option Grd
 | none=>some []
 | some (j,want) =>
  match (ops[j]?).bind (·.dst) with
  | some t=>match glook env t with
   | some (G,.bool _)=>some ((t,want)::G)
   | _=>none
  | none=>none
def fresh (d:Nat) (env:GEnv):Bool:=env.all fun e=>e.2.1.all fun p=>p.1 != d
def segF (n:Nat) (P:Program) (ops:Array Oper):List Oper→GEnv→Option GEnv
 | [],env=>some env
 | o::rest,env =>
  match gchain ops env o.guard with
  | none=>none
  | some G =>
   match pop P env G o.op,o.dst with
   | some v,some d=>if Nat.blt d n && fresh d env && G.all (fun p=>p.1 != d) then segF n P ops rest ((d,G,v)::env) else none
   | _,_=>none
/-! ### they do what they say -/
def valid (a:Act) (G:Grd):Prop:=∀ p∈G,a.tmps.getD p.1 undef=.bool p.2
structure GHas (a:Act) (n:Nat) (env:GEnv):Prop where
 defers:a.defers=[]
 size:a.tmps.size=n
 yes:∀ i G v,glook env i=some (G,v)→valid a G→a.tmps.getD i undef=v
 no:∀ i G v,glook env i=some (G,v)→¬ valid a G→a.tmps.getD i undef=undef
 lt:∀ i e,glook env i=some e→i < n
theorem Has.toG {a:Act} {n:Nat} {env:Env} (h:Has a n env):GHas a n (up env):=by
 refine ⟨h.defers,h.size,?_,?_,?_⟩
 ·intro i G v hv _
  rw [glook_up] at hv
  cases hl:look env i with
  | none=>rw [hl] at hv;cases hv
  | some u=>rw [hl] at hv;simp at hv;obtain ⟨_,rfl⟩:=hv;exact h.vals i u hl
 ·intro i G v hv hn
  rw [glook_up] at hv
  cases hl:look env i with
  | none=>rw [hl] at hv;cases hv
  | some u=>rw [hl] at hv;simp at hv;obtain ⟨rfl,_⟩:=hv;exact absurd (fun p hp=>by cases hp) hn
 ·intro i e hv
  rw [glook_up] at hv
  cases hl:look env i with
  | none=>rw [hl] at hv;cases hv
  | some u=>exact h.lt i u hl
theorem GHas.sel {a:Act} {n:Nat} {env:GEnv} {env':Env} (h:GHas a n env) (hs:env'.map (fun p=>glook env p.1)=env'.map (fun p=>some ([],p.2))):Has a n env':=by
 have key:∀ i v,look env' i=some v→glook env i=some ([],v):=by
  intro i v hv
  induction env' with
  | nil=>simp [look] at hv
  | cons p r ih =>
   obtain ⟨j,u⟩:=p
   simp only [List.map_cons,List.cons.injEq] at hs
   rw [look_cons] at hv
   split at hv
   ·rename_i e;subst e;obtain rfl:=Option.some.inj hv;exact hs.1
   ·exact ih hs.2 hv
 exact ⟨h.defers,h.size,fun i v hv=>h.yes i [] v (key i v hv) (fun p hp=>by cases hp),fun i v hv=>h.lt i _ (key i v hv)⟩
theorem valid_sub {a:Act} {G G':Grd} (h:valid a G) (hs:G'.all (fun p=>G.contains p)=true):valid a G':=by
 intro p hp
 have:=List.all_eq_true.1 hs p hp
 exact h p (by simpa using this)
theorem GHas.gev {a:Act} {n:Nat} {env:GEnv} (h:GHas a n env) {G:Grd} (hG:valid a G) {x:Operand} {v:Value} (hx:gev env G x=some v):a.eval x=v:=by
 cases x with
 | tmp t =>
  simp only [E.gev] at hx
  split at hx
  ·rename_i G' u hl
   split at hx
   ·rename_i hs
    obtain rfl:=Option.some.inj hx
    exact h.yes t G' _ hl (valid_sub hG hs)
   ·cases hx
  ·cases hx
 | const u=>simpa [E.gev,Act.eval] using hx
 | global g=>simpa [E.gev,Act.eval] using hx
 | func f=>simpa [E.gev,Act.eval] using hx
theorem eqGuard_plain {P:Program} {t:TypeId} {op:BinOp} {ox oy:Operand} {x y:Value} (hx:∀ cs,x≠.agg cs) (hn:x≠.nilIface) (w:World) :
  (eqGuard op t ox oy x y).run P w=.ok () w:=by
 unfold eqGuard
 cases x<;>first | exact absurd rfl hn | exact absurd rfl (hx _) | (cases op<;>rfl)
theorem eq_of_in {P:Program} {t:TypeId} {x y:Value} {w:World} {b:Bool} (h:∀ d,(Op.equalIn (d+1) t x y).run P w=.ok b w):(Op.equal t x y).run P w=.ok b w:=h 9999
theorem eqlIn_bool {P:Program} {t:TypeId} (hu:P.underlying t=some .bool) (a b:Bool) (w:World) (d:Nat):(Op.equalIn (d+1) t (.bool a) (.bool b)).run P w=.ok (a==b) w:=by
 simp [Op.equalIn,run_underlying hu]
theorem eqlIn_ptr {P:Program} {t e:TypeId} (hu:P.underlying t=some (.pointer e)) (a:Option Addr) (w:World) (d:Nat):(Op.equalIn (d+1) t (.pointer a) (.pointer none)).run P w=.ok a.isNone w:=by
 cases a<;>simp [Op.equalIn,run_underlying hu]
theorem eqlIn_slice {P:Program} {t e:TypeId} (hu:P.underlying t=some (.slice e)) (a:Option Addr) (n c n' c':Nat) (w:World) (d:Nat):(Op.equalIn (d+1) t (.slice a n c) (.slice none n' c')).run P w=.ok a.isNone w:=by
 cases a<;>simp [Op.equalIn,run_underlying hu]
theorem run_bind {α β:Type} {P:Program} {s:Sem α} {f:α→Sem β} {w w':World} {a:α} (h:s.run P w=.ok a w'):(s >>= f).run P w=(f a).run P w':=by
 simp [h]
theorem ibin_run {P:Program} {t:TypeId} {op:BinOp} {k:IntKind} {a b:Int} {v:Value} (h:ibin op k a b=some v) (hs:op≠.shl) (hr:op≠.shr) (w:World) :
    (Go.binOp op t (.int k a) (.int k b)).run P w=.ok v w:=by
  cases op<;>simp only [ibin] at h<;>first
    | exact absurd rfl hs
    | exact absurd rfl hr
    | (obtain rfl:=Option.some.inj h;simp [Go.binOp,Op.intArith,Op.intBits,Op.intCmp,go_sem];done)
    | (split at h
       · cases h
       · rename_i hb;obtain rfl:=Option.some.inj h;simp [Go.binOp,Op.intDiv,hb,go_sem])
theorem ishift_run {P:Program} {t:TypeId} {op:BinOp} {k k':IntKind} {a b:Int} {v:Value} (h:ishift op k a b=some v) (w:World) :
    (Go.binOp op t (.int k a) (.int k' b)).run P w=.ok v w:=by
  cases op<;>simp only [ishift] at h<;>first
    | (cases h;done)
    | (split at h
       · cases h
       · rename_i hb;obtain rfl:=Option.some.inj h;simp [Go.binOp,Op.shift,hb,go_sem])
theorem bbin_run {P:Program} {t:TypeId} {op:BinOp} {x y v:Value} (h:bbin P t op x y=some v) (w:World) :
  (Go.binOp op t x y).run P w=.ok v w:=by
 unfold bbin at h
 split at h
 ·split at h
  ·exact ishift_run h w
  ·exact ishift_run h w
  ·rename_i h1 h2
   split at h
   ·rename_i hk;subst hk;exact ibin_run h (fun e=>h1 e) (fun e=>h2 e) w
   ·cases h
 ·split at h
  ·rename_i hu;obtain rfl:=Option.some.inj h
   show ((Op.equal _ _ _) >>= fun b=>pure (Value.bool b)).run P w=_
   rw [run_bind (eq_of_in (eqlIn_bool hu _ _ w))];rfl
  ·rename_i hu;obtain rfl:=Option.some.inj h
   show ((Op.equal _ _ _) >>= fun b=>pure (Value.bool (!b))).run P w=_
   rw [run_bind (eq_of_in (eqlIn_bool hu _ _ w))];rfl
  ·cases h
 ·split at h<;>first
   | (cases h;done)
   | (obtain rfl:=Option.some.inj h;simp [Go.binOp,Op.stringOp])
 ·split at h
  ·rename_i hu;obtain rfl:=Option.some.inj h
   show ((Op.equal _ _ _) >>= fun b=>pure (Value.bool b)).run P w=_
   rw [run_bind (eq_of_in (eqlIn_ptr hu _ w))];rfl
  ·rename_i hu;obtain rfl:=Option.some.inj h
   show ((Op.equal _ _ _) >>= fun b=>pure (Value.bool (!b))).run P w=_
   rw [run_bind (eq_of_in (eqlIn_ptr hu _ w))];rfl
  ·cases h
 ·split at h
  ·rename_i hu;obtain rfl:=Option.some.inj h
   show ((Op.equal _ _ _) >>= fun b=>pure (Value.bool b)).run P w=_
   rw [run_bind (eq_of_in (eqlIn_slice hu _ _ _ _ _ w))];rfl
  ·rename_i hu;obtain rfl:=Option.some.inj h
   show ((Op.equal _ _ _) >>= fun b=>pure (Value.bool (!b))).run P w=_
   rw [run_bind (eq_of_in (eqlIn_slice hu _ _ _ _ _ w))];rfl
  ·cases h
 ·cases h
theorem bbin_plain {P:Program} {t:TypeId} {op:BinOp} {x y v:Value} (h:bbin P t op x y=some v):(∀ cs,x≠.agg cs)∧x≠.nilIface:=by
 constructor
 ·intro cs e;subst e;simp [bbin] at h
 ·intro e;subst e;simp [bbin] at h
theorem uop_run {P:Program} {op:UnOp} {x v:Value} (h:uop op x=some v) (w:World):(Op.unary op x).run P w=.ok v w:=by
 unfold uop at h
 split at h<;>first
  | (cases h;done)
  | (obtain rfl:=Option.some.inj h;simp [Op.unary,Op.intArith,Op.intBits])
theorem blen_run {P:Program} {t ty:TypeId} {x v:Value} (h:blen P t x=some v) (w:World):(Builtin.len_ #[t] ty #[x]).run P w=.ok v w:=by
 unfold blen at h
 split at h<;>first
  | (cases h;done)
  | (rename_i hu;obtain rfl:=Option.some.inj h;simp [Builtin.len_,run_underlying hu,goInt])
  | (rename_i hu _;obtain rfl:=Option.some.inj h;simp [Builtin.len_,run_underlying hu,goInt])
theorem bcap_run {P:Program} {t ty:TypeId} {x v:Value} (h:bcap P t x=some v) (w:World):(Builtin.cap_ #[t] ty #[x]).run P w=.ok v w:=by
 unfold bcap at h
 split at h<;>first
  | (cases h;done)
  | (rename_i hu;obtain rfl:=Option.some.inj h;simp [Builtin.cap_,run_underlying hu,goInt])
theorem fieldOff_run {P:Program} {s:TypeId} {f o:Nat} {a:Addr} (h:fieldOff P s f=some o) (w:World):(Instr.fieldAt s (.pointer (some a)) f).run P w=.ok (.pointer (some (a.add o))) w:=by
 unfold fieldOff at h
 split at h
 ·rename_i fields hu
  split at h
  ·rename_i fd hf
   split at h
   ·rename_i i hi
    split at h
    ·cases h
    ·rename_i hz
     obtain rfl:=Option.some.inj h
     simp [Instr.fieldAt,run_underlying hu,hf,Instr.sureAddr,fieldPlace,sizeOf,typeInfo,hi,hz]
   ·cases h
  ·cases h
 ·cases h
theorem execOp_val {P:Program} {ρ:Operand→Value} {o:Oper} {v:Value} {w:World} {s:Sem Value} (he:execOp ρ o=s >>= fun v=>pure (Next.value v)) (h:s.run P w=.ok v w) :
  (execOp ρ o).run P w=.ok (.value v) w:=by
 rw [he,run_bind h];rfl
theorem execOp_val' {P:Program} {ρ:Operand→Value} {o:Oper} {v:Value} {w w':World} {s:Sem Value} (he:execOp ρ o=s >>= fun v=>pure (Next.value v)) (h:s.run P w=.ok v w') :
  (execOp ρ o).run P w=.ok (.value v) w':=by
 rw [he,run_bind h];rfl
theorem pop_run {P:Program} {a:Act} {n:Nat} {env:GEnv} {G:Grd} {o:Oper} {v:Value} (h:GHas a n env) (hG:valid a G) (hp:pop P env G o.op=some v) (w:World) :
  (execOp a.eval o).run P w=.ok (.value v) w:=by
 unfold pop at hp
 split at hp
 ·rename_i x hop
  simp [execOp,hop,h.gev hG hp]
 ·rename_i x hop
  simp [execOp,hop,h.gev hG hp]
 ·rename_i c x y hop
  split at hp
  ·rename_i cb ab bb hc hx hy
   obtain rfl:=Option.some.inj hp
   have ec:=h.gev hG hc
   have hcv:a.tmps.getD c undef=.bool cb:=ec
   cases cb with
   | true =>
    have hv:valid a ((c,true)::G):=by
     intro p hp;cases hp with
     | head=>exact hcv
     | tail _ hp=>exact hG p hp
    simp [execOp,hop,ec,asBool,h.gev hv hx]
   | false =>
    have hv:valid a ((c,false)::G):=by
     intro p hp;cases hp with
     | head=>exact hcv
     | tail _ hp=>exact hG p hp
    simp [execOp,hop,ec,asBool,h.gev hv hy]
  ·cases hp
 ·rename_i op t x y ty hop
  split at hp
  ·rename_i xv yv hx hy
   refine execOp_val (s:=do eqGuard op t x y xv yv;Go.binOp op t xv yv) (by simp [execOp,hop,h.gev hG hx,h.gev hG hy]) ?_
   have hpl:=bbin_plain hp
   rw [run_bind (eqGuard_plain hpl.1 hpl.2 w)]
   exact bbin_run hp w
  ·cases hp
 ·rename_i op t x hop
  split at hp
  ·rename_i xv hx
   exact execOp_val (s:=Op.unary op xv) (by simp [execOp,hop,h.gev hG hx]) (uop_run hp w)
  ·cases hp
 ·rename_i sT dT x hop
  split at hp
  ·rename_i k0 m k1 k hx hu1 hu2
   obtain rfl:=Option.some.inj hp
   refine execOp_val (s:=convert sT dT (.int k0 m)) (by simp [execOp,hop,h.gev hG hx]) ?_
   simp [convert,run_underlying hu1,run_underlying hu2,Conv.intToInt]
  ·rename_i sv hx hu1 hu2
   obtain rfl:=Option.some.inj hp
   refine execOp_val (s:=convert sT dT (.string sv)) (by simp [execOp,hop,h.gev hG hx]) ?_
   simp [convert,run_underlying hu1,run_underlying hu2]
  ·cases hp
 ·rename_i x hop
  split at hp
  ·rename_i ad hx
   obtain rfl:=Option.some.inj hp
   simp [execOp,hop,h.gev hG hx]
  ·cases hp
 ·rename_i sT x f hop
  split at hp
  ·rename_i ad off hx ho
   obtain rfl:=Option.some.inj hp
   exact execOp_val (s:=Instr.fieldAt sT (.pointer (some ad)) f) (by simp [execOp,hop,h.gev hG hx]) (fieldOff_run ho w)
  ·cases hp
 ·rename_i x i hop
  split at hp
  ·rename_i vs hx
   refine execOp_val (s:=Instr.extract (.tuple vs) i) (by simp [execOp,hop,h.gev hG hx]) ?_
   simp [Instr.extract,hp]
  ·cases hp
 ·rename_i c hop
  split at hp
  ·rename_i x t hcal hargs htys
   split at hp
   ·rename_i xv hx
    refine execOp_val (s:=Builtin.len_ #[t] o.type #[xv]) ?_ (blen_run hp w)
    have e1:c.args=#[x]:=by rw [← hargs]
    have e2:c.argTypes=#[t]:=by rw [← htys]
    simp [execOp,hop,resolve,hcal,e1,e2,invoke,builtin,h.gev hG hx]
   ·cases hp
  ·rename_i x t hcal hargs htys
   split at hp
   ·rename_i xv hx
    refine execOp_val (s:=Builtin.cap_ #[t] o.type #[xv]) ?_ (bcap_run hp w)
    have e1:c.args=#[x]:=by rw [← hargs]
    have e2:c.argTypes=#[t]:=by rw [← htys]
    simp [execOp,hop,resolve,hcal,e1,e2,invoke,builtin,h.gev hG hx]
   ·cases hp
  ·cases hp
 ·cases hp
theorem getD_put {a:Act} {d:Nat} {v:Value} {i:Nat} (h:d≠i):(a.put (some d) v).tmps.getD i undef=a.tmps.getD i undef:=by
 simp only [Act.put,Array.getD_eq_getD_getElem?,Array.getElem?_setIfInBounds]
 rw [if_neg h]
theorem getD_put_self {a:Act} {d:Nat} {v:Value} (h:d < a.tmps.size):(a.put (some d) v).tmps.getD d undef=v:=by
 simp [Act.put,Array.getD,h]
theorem valid_put {a:Act} {d:Nat} {v:Value} {G:Grd} (h:G.all (fun p=>p.1 != d)=true):valid (a.put (some d) v) G↔valid a G:=by
 have hn:∀ p∈G,d≠p.1:=fun p hp e=>by
  have:=List.all_eq_true.1 h p hp
  simp [e] at this
 constructor
 ·intro hv p hp;have:=hv p hp;rwa [getD_put (hn p hp)] at this
 ·intro hv p hp;rw [getD_put (hn p hp)];exact hv p hp
theorem mem_glook {env:GEnv} {i:Nat} {e:Grd×Value} (h:glook env i=some e):(i,e)∈env:=by
 induction env with
 | nil=>cases h
 | cons p r ih =>
  obtain ⟨j,u⟩:=p
  rw [glook_cons] at h
  split at h
  ·rename_i hj;subst hj;obtain rfl:=Option.some.inj h;exact List.mem_cons_self
  ·exact List.mem_cons_of_mem _ (ih h)
theorem GHas.put {a:Act} {n:Nat} {env:GEnv} (h:GHas a n env) {d:Nat} (hd:d < n) {G:Grd} {v u:Value} (hf:fresh d env=true) (hG:G.all (fun p=>p.1 != d)=true)
  (hu:(valid a G∧u=v)∨(¬ valid a G∧u=undef)):GHas (a.put (some d) u) n ((d,G,v)::env):=by
 have hfr:∀ i e,glook env i=some e→e.1.all (fun p=>p.1 != d)=true:=fun i e he=>List.all_eq_true.1 hf _ (mem_glook he)
 refine ⟨h.defers,by simp [Act.put,h.size],?_,?_,?_⟩
 ·intro i G' v' hl hv
  rw [glook_cons] at hl
  by_cases e:d=i
  ·subst e
   rw [if_pos rfl] at hl
   simp only [Option.some.injEq,Prod.mk.injEq] at hl
   obtain ⟨rfl,rfl⟩:=hl
   rw [valid_put hG] at hv
   rw [getD_put_self (by rw [h.size];exact hd)]
   rcases hu with ⟨_,hu⟩ | ⟨hn,_⟩
   ·exact hu
   ·exact absurd hv hn
  ·rw [if_neg e] at hl
   rw [getD_put e]
   exact h.yes i G' v' hl ((valid_put (hfr i _ hl)).1 hv)
 ·intro i G' v' hl hv
  rw [glook_cons] at hl
  by_cases e:d=i
  ·subst e
   rw [if_pos rfl] at hl
   simp only [Option.some.injEq,Prod.mk.injEq] at hl
   obtain ⟨rfl,rfl⟩:=hl
   rw [valid_put hG] at hv
   rw [getD_put_self (by rw [h.size];exact hd)]
   rcases hu with ⟨hy,_⟩ | ⟨_,hu⟩
   ·exact absurd hy hv
   ·exact hu
  ·rw [if_neg e] at hl
   rw [getD_put e]
   exact h.no i G' v' hl (fun hy=>hv ((valid_put (hfr i _ hl)).2 hy))
 ·intro i e hl
  rw [glook_cons] at hl
  by_cases e':d=i
  ·subst e';exact hd
  ·rw [if_neg e'] at hl;exact h.lt i e hl
theorem wanted_iff {a:Act} {n:Nat} {env:GEnv} (h:GHas a n env) {ops:Array Oper} {o:Oper} {G:Grd} (hc:gchain ops env o.guard=some G) :
  (Region.wanted o (yielded ops a.tmps)=true↔valid a G):=by
 unfold Region.wanted
 cases hg:o.guard with
 | none =>
  rw [hg] at hc
  obtain rfl:=Option.some.inj hc
  simp only [true_iff]
  intro p hp;cases hp
 | some jw =>
  obtain ⟨j,want⟩:=jw
  rw [hg] at hc
  simp only [gchain] at hc
  split at hc
  ·rename_i t ht
   split at hc
   ·rename_i Gt b hl
    obtain rfl:=Option.some.inj hc
    have hlt:=h.lt t _ hl
    have hget:a.tmps[t]? = some (a.tmps.getD t undef):=by
     have:t < a.tmps.size:=by rw [h.size];exact hlt
     simp [Array.getD,this]
    have hy:yielded ops a.tmps j=match a.tmps.getD t undef with | .bool b=>some b | _=>none:=by
     unfold yielded
     rw [ht]
     simp only [Option.bind_some,hget]
     generalize a.tmps.getD t undef=z
     cases z<;>rfl
    simp only [hy]
    by_cases hv:valid a Gt
    ·rw [h.yes t Gt _ hl hv]
     simp only [beq_iff_eq,Option.some.injEq]
     constructor
     ·rintro rfl p hp
      cases hp with
      | head=>exact h.yes t Gt _ hl hv
      | tail _ hp=>exact hv p hp
     ·intro hv'
      have:=hv' (t,want) List.mem_cons_self
      rw [h.yes t Gt _ hl hv] at this
      simpa using this
    ·rw [h.no t Gt _ hl hv]
     constructor
     ·intro hh;simp [undef] at hh
     ·intro hv';exact absurd (fun p hp=>hv' p (List.mem_cons_of_mem _ hp)) hv
   ·cases hc
  ·cases hc
theorem segF_sound {P:Program} {n:Nat} {ops:Array Oper} {Q:Exit→Act→World→Prop} {w:World} (l:List Oper) :
  ∀ {a:Act} {env env':GEnv} {rest:List Oper},segF n P ops l env=some env'→GHas a n env →
   (∀ a',GHas a' n env'→wpList P ops Q rest a' w)→wpList P ops Q (l++rest) a w:=by
 induction l with
 | nil=>intro a env env' rest h ha hk;obtain rfl:=Option.some.inj h;exact hk a ha
 | cons o l ih =>
  intro a env env' rest h ha hk
  simp only [segF] at h
  split at h
  ·cases h
  ·rename_i G hc
   split at h
   ·rename_i v d hp hd
    split at h
    ·rename_i hcond
     simp only [Bool.and_eq_true] at hcond
     obtain ⟨⟨h1,h2⟩,h3⟩:=hcond
     have hdn:d < n:=by simpa using h1
     have hw:=wanted_iff ha (ops:=ops) hc
     show wpList P ops Q (o::(l++rest)) a w
     unfold wpList
     by_cases hv:valid a G
     ·rw [if_pos (hw.2 hv)]
      refine .inl ?_
      unfold Oper.wp
      rw [pop_run ha hv hp w,Oper.upon_value,hd]
      exact ih h (ha.put hdn h2 h3 (.inl ⟨hv,rfl⟩)) hk
     ·rw [if_neg (fun hh=>hv (hw.1 hh)),hd]
      exact ih h (ha.put hdn h2 h3 (.inr ⟨hv,rfl⟩)) hk
    ·cases h
   ·cases h
theorem seg {P:Program} {n:Nat} {ops:Array Oper} {Q:Exit→Act→World→Prop} {w:World} {a:Act} {env:Env} {l:List Oper} (ha:Has a n env) (m:Nat) (env':Env)
  (h:((segF n P ops (l.take m) (up env)).map fun e=>env'.map fun p=>glook e p.1)=some (env'.map fun p=>some ([],p.2)))
  (hk:∀ a',Has a' n env'→wpList P ops Q (l.drop m) a' w):wpList P ops Q l a w:=by
 rw [Option.map_eq_some_iff] at h
 obtain ⟨e,he,hs⟩:=h
 rw [← List.take_append_drop m l]
 exact segF_sound _ he ha.toG fun a' ha'=>hk a' (ha'.sel hs)
end Go.E
