/- The rules by which these proofs step through the code, part F. -/
import Derived.Test.YtinakhioihhgfaaGreatDoorEngE
import Derived.OrdersHeld
set_option linter.unusedVariables false
set_option linter.unusedSimpArgs false
namespace Go.E
open Go.RowKit
/-! ### regions whose order is drawn -/
section
variable {P:Program} {n d:Nat} {ops:Array Oper} {Q:Exit→Act→World→Prop} {S:World→Prop} {w:World} {a:Act} {env:Env} {o:Oper} {v:Value} {fuel:Nat} {listed:Array Bool} {i:Nat}
theorem drw {id:Nat} (S:World→Prop) (hm:P.follows .mixedOrders=true)
  (h:∀ w1,Chg [] w w1→w1.heap=w.heap→wpAnyH P .any ops Q S ops.size (Array.replicate ops.size false) a w1):(Code.region id ops true).wp P Q a w :=
 wp_region_held hm (h _ ⟨rfl,rfl,rfl,Nat.le_refl _,fun _ _ _=>rfl⟩ rfl)
theorem tk (i:Nat) (ha:Has a n env) (hi:ops[i]? = some o) (hs:Region.noSelect ops=true) (hf:Region.free .any ops listed i=true) (hr:(Region.ready .any ops listed).contains i=true)
  (hd:o.dst=some d) (hdn:Nat.blt d n=true) (hg:gok ops env o.guard=some true) (hQ:∀ c a w,Q (.panic c) (a.put o.dst v) w→Q (.panic c) a w)
  (hy:∀ w',S w'→(execOp a.eval o).run P w'=.ok (.value v) w') (hS:S w)
  (hk:∀ a',Has a' n ((d,v)::env)→wpAnyH P .any ops Q S fuel (listed.setIfInBounds i true) a' w):wpAnyH P .any ops Q S (fuel+1) listed a w :=
 wpAnyH_take hi hs hf hr hQ (.inl ⟨gok_wanted ha hg,hy⟩) hS (by rw [hd];exact hk _ (ha.put hdn v))
theorem tkp (i:Nat) (k:Nat) (v:Value) (ha:Has a n env) (hi:ops[i]? = some o) (hs:Region.noSelect ops=true) (hf:Region.free .any ops listed i=true) (hr:(Region.ready .any ops listed).contains i=true)
  (hd:o.dst=some d) (hdn:Nat.blt d n=true) (hg:gok ops env o.guard=some true) (hQ:∀ c a w,Q (.panic c) (a.put o.dst v) w→Q (.panic c) a w)
  (hv:hval P (up env) [] k o.op=some v) (hS:S w)
  (hk:∀ a',Has a' n ((d,v)::env)→wpAnyH P .any ops Q S fuel (listed.setIfInBounds i true) a' w):wpAnyH P .any ops Q S (fuel+1) listed a w :=
 tk i ha hi hs hf hr hd hdn hg hQ (fun w' _=>hval_run ha.toG (fun p hp=>by cases hp) hv w') hS hk
theorem tko (i:Nat) (ha:Has a n env) (hi:ops[i]? = some o) (hs:Region.noSelect ops=true) (hf:Region.free .any ops listed i=true) (hr:(Region.ready .any ops listed).contains i=true)
  (hd:o.dst=some d) (hdn:Nat.blt d n=true) (hg:gok ops env o.guard=some false) (hQ:∀ c a w,Q (.panic c) (a.put o.dst undef) w→Q (.panic c) a w) (hS:S w)
  (hk:∀ a',Has a' n ((d,undef)::env)→wpAnyH P .any ops Q S fuel (listed.setIfInBounds i true) a' w):wpAnyH P .any ops Q S (fuel+1) listed a w :=
 wpAnyH_take hi hs hf hr hQ (.inr ⟨gok_wanted ha hg,rfl⟩) hS (by rw [hd];exact hk _ (ha.put hdn undef))
/-! the same, the rest of what they ask worked out where they are used -/
theorem tkz (i:Nat) (ha:Has a n env) (hi:ops[i]? = some o:=by rfl) (hs:Region.noSelect ops=true:=by kernel_rfl) (hf:Region.free .any ops listed i=true:=by kernel_rfl) (hr:(Region.ready .any ops listed).contains i=true:=by kernel_rfl)
  (hd:o.dst=some d:=by rfl) (hdn:Nat.blt d n=true:=by rfl) (hg:gok ops env o.guard=some true:=by rfl) (hQ:∀ c a w,Q (.panic c) (a.put o.dst v) w→Q (.panic c) a w:=by exact fun _ _ _ h=>h)
  (y:∀ w',S w'→(execOp a.eval o).run P w'=.ok (.value v) w') (s:S w)
  (q:∀ a',Has a' n ((d,v)::env)→wpAnyH P .any ops Q S fuel (listed.setIfInBounds i true) a' w) :
  wpAnyH P .any ops Q S (fuel+1) listed a w:=tk i ha hi hs hf hr hd hdn hg hQ y s q
theorem tkpz (i:Nat) (k:Nat) (v:Value) (ha:Has a n env) (hi:ops[i]? = some o:=by rfl) (hs:Region.noSelect ops=true:=by kernel_rfl) (hf:Region.free .any ops listed i=true:=by kernel_rfl) (hr:(Region.ready .any ops listed).contains i=true:=by kernel_rfl)
  (hd:o.dst=some d:=by rfl) (hdn:Nat.blt d n=true:=by rfl) (hg:gok ops env o.guard=some true:=by rfl) (hQ:∀ c a w,Q (.panic c) (a.put o.dst v) w→Q (.panic c) a w:=by exact fun _ _ _ h=>h)
  (hv:hval P (up env) [] k o.op=some v:=by kernel_rfl) (s:S w)
  (q:∀ a',Has a' n ((d,v)::env)→wpAnyH P .any ops Q S fuel (listed.setIfInBounds i true) a' w) :
  wpAnyH P .any ops Q S (fuel+1) listed a w:=tkp i k v ha hi hs hf hr hd hdn hg hQ hv s q
theorem wpOp_of_list {K:Act→World→Prop} (hi:ops[i]? = some o) (h:wpList P ops (Exit.then K Q) [o] a w):wpOp P ops Q i K a w:=by
  unfold wpOp
  rw [hi]
  unfold wpList at h
  show if Region.wanted o (yielded ops a.tmps)=true then _ else _
  split
  · rename_i hw
    rw [if_pos hw] at h
    rcases h with h | ⟨h1,a0,w0,h2⟩
    · refine .inl ?_
      unfold Oper.wp at *
      generalize (execOp a.eval o).run P w=r at *
      cases r with
      | ok x w' =>
        cases x<;>first
          | exact h
          | (refine Calls.mono h fun e w'' he=>?_
             cases e with
             | returned v=>exact he
             | panicked c=>exact he
             | outgrown=>obtain ⟨a0,w0,h2⟩:=he;exact ⟨a0,w0,h2⟩)
      | halt x w'=>cases x<;>exact h
    · exact .inr ⟨h1,a0,w0,h2⟩
  · rename_i hw
    rw [if_neg hw] at h
    exact h
theorem ac (i:Nat) (hr:Region.ready .any ops listed=[i]) (hi:ops[i]? = some o)
  (h:∀ K:Act→World→Prop,(∀ a' w',S w'→wpAnyH P .any ops Q S fuel (listed.setIfInBounds i true) a' w'→K a' w')→wpList P ops (Exit.then K Q) [o] a w) :
  wpAnyH P .any ops Q S (fuel+1) listed a w :=
 wpAnyH_all hr (by simp) fun j hj=>by
  simp at hj;subst hj
  exact wpOp_of_list hi (h _ fun a' w' h1 h2=>⟨h1,h2⟩)
theorem dn (hr:Region.ready .any ops listed=[]) (h:Q .normal a w):wpAnyH P .any ops Q S fuel listed a w:=wpAnyH_done hr h fuel
end
end Go.E
namespace Go.E
open Go.RowKit
theorem Has.lit {a:Act} {n t:Nat} {b c:Bool} {r:Env} (h:Has a n ((t,.bool b)::r)) (hb:b=c):Has a n ((t,.bool c)::r):=hb ▸ h
theorem New.ge1 {w w':World} {g:Nat} {o:Obj} (h:New w w' g o):∀ x∈[g],w.heap.size≤x:=fun x hx=>by simp at hx;subst hx;exact h.ge
def rd {α:Type} [Inhabited α] (xs:List α) (i:Int):α:=xs.getD i.toNat default
theorem rd_get {α:Type} [Inhabited α] {xs:List α} {i:Int} (h:i.toNat < xs.length):xs[i.toNat]=rd xs i:=by
 simp [rd,List.getD,h]
theorem lt_cell {w:World} {a:Addr} {v:Value} (h:w.cell? a=some v):a.block < w.heap.size:=World.block_lt_of_cell? w a h
theorem cell_keep {gs M:List Nat} {w w':World} {g o:Nat} {v:Value} (hc:Chg gs w w') (ho:Ok gs M w.heap.size) (hn:g∉M) (h:w.cell? ⟨g,o,none⟩=some v):w'.cell? ⟨g,o,none⟩=some v:=by
 have hl:g < w.heap.size:=lt_cell h
 rw [World.cell?_of_block (w:=w) (hc.block g hl (notin_of_ok ho hn hl))]
 exact h
theorem Chg.keep {w w':World} {g o:Nat} {v:Value} (hc:Chg [] w w') (h:w.cell? ⟨g,o,none⟩=some v):w'.cell? ⟨g,o,none⟩=some v:=cell_keep hc (Ok.nil [] _) (by simp) h
section
variable {P:Program} {n d:Nat} {ops:Array Oper} {Q:Exit→Act→World→Prop} {w w':World} {a:Act} {env:Env} {rest:List Oper} {o:Oper} {v:Value}
 {dd:Option Tmp} {ty:TypeId} {pos:String} {af:Array Edge} {gd:Option (Nat×Bool)}
theorem ld_run {t:TypeId} {x:Operand} {ad:Addr} (ha:Has a n env) (hx:ev env x=some (.pointer (some ad))) (ht:oneB P t=true) (hc:w.cell? ad=some v) :
  (execOp a.eval ⟨dd,.load t x,ty,pos,af,gd⟩).run P w=.ok (.value v) w:=by
 refine execOp_val (s:=Instr.loadAt t (.pointer (some ad))) (by simp [execOp,ha.ev hx]) ?_
 simp [Instr.loadAt,Instr.sureAddr,loadVar,isAgg_one ht,load,Sem.run,hc]
theorem ix_run {α:Type} {r:Rep α} {t T:TypeId} {x y:Operand} {ao:Option Addr} {cap g o:Nat} {xs:List α} {k:IntKind} {i:Int}
  (ha:Has a n env) (ht:P.underlying t=some (.slice T)) (hs:(P.info? T).map (·.size)=some r.sz) (hx:ev env x=some (.slice ao xs.length cap)) (hy:ev env y=some (.int k i))
  (e:ao=some ⟨g,o,none⟩) (h0:0≤i) (h1:i < xs.length) :
  (execOp a.eval ⟨dd,.indexAddr t x y,ty,pos,af,gd⟩).run P w=.ok (.value (.pointer (some ⟨g,o+i.toNat*r.sz,none⟩))) w:=by
 obtain ⟨inf,hi,hs⟩:=Option.map_eq_some_iff.1 hs
 have e1:execOp a.eval ⟨dd,.indexAddr t x y,ty,pos,af,gd⟩=(Instr.indexAt t (.slice ao xs.length cap) (.int k i) >>= fun v=>pure (Next.value v)):=by
  simp [execOp,ha.ev hx,ha.ev hy]
 refine execOp_val' e1 ?_
 subst e
 simp [Instr.indexAt,asIntOf,run_underlying ht,sizeOf,typeInfo,hi,hs,h0,h1,Addr.add_lit]
theorem shl {t t':TypeId} {x y:Operand} {k k':IntKind} {i j:Int} (ha:Has a n env) (hx:ev env x=some (.int k i)) (hy:ev env y=some (.int k' j)) (hg:gok ops env gd=some true) (hd:dd=some d) (hdn:Nat.blt d n=true) (h:0≤j)
  (hk:∀ a',Has a' n ((d,.int k (k.wrap (i*2^(min j.toNat k.bits))))::env)→wpList P ops Q rest a' w):wpList P ops Q (⟨dd,.binOp .shl t x y t',ty,pos,af,gd⟩::rest) a w:=by
 have hr:(execOp a.eval ⟨dd,.binOp .shl t x y t',ty,pos,af,gd⟩).run P w=.ok (.value (.int k (k.wrap (i*2^(min j.toNat k.bits))))) w:=by
  refine execOp_val (s:=do eqGuard .shl t x y (.int k i) (.int k' j);Go.binOp .shl t (.int k i) (.int k' j)) (by simp [execOp,ha.ev hx,ha.ev hy]) ?_
  rw [run_bind (eqGuard_plain (fun _ e=>by cases e) (fun e=>by cases e) w)]
  exact ishift_run (by simp [ishift,Int.not_lt.2 h]) w
 exact hop ha hg hd hdn hr hk
theorem shr {t t':TypeId} {x y:Operand} {k k':IntKind} {i j:Int} (ha:Has a n env) (hx:ev env x=some (.int k i)) (hy:ev env y=some (.int k' j)) (hg:gok ops env gd=some true) (hd:dd=some d) (hdn:Nat.blt d n=true) (h:0≤j)
  (hk:∀ a',Has a' n ((d,.int k (i.fdiv (2^(min j.toNat k.bits))))::env)→wpList P ops Q rest a' w):wpList P ops Q (⟨dd,.binOp .shr t x y t',ty,pos,af,gd⟩::rest) a w:=by
 have hr:(execOp a.eval ⟨dd,.binOp .shr t x y t',ty,pos,af,gd⟩).run P w=.ok (.value (.int k (i.fdiv (2^(min j.toNat k.bits))))) w:=by
  refine execOp_val (s:=do eqGuard .shr t x y (.int k i) (.int k' j);Go.binOp .shr t (.int k i) (.int k' j)) (by simp [execOp,ha.ev hx,ha.ev hy]) ?_
  rw [run_bind (eqGuard_plain (fun _ e=>by cases e) (fun e=>by cases e) w)]
  exact ishift_run (by simp [ishift,Int.not_lt.2 h]) w
 exact hop ha hg hd hdn hr hk
end
end Go.E
