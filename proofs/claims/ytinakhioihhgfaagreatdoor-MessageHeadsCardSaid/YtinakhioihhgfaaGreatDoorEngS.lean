/- The rules by which these proofs step through the code, part S. -/
import Derived.Test.YtinakhioihhgfaaGreatDoorEngN
import Derived.LaidLaws
import Derived.LaidMore
import Derived.Stop.Joined
import Derived.SevenTiedAt
import Derived.LaidSub
import Derived.Lay
import Derived.MakeChecks
set_option linter.unusedVariables false
set_option linter.unusedSimpArgs false
namespace Go.E
open Go.RowKit Go.ChangeShapes Go.WideShapes Go.ChangeAt
section
variable {H:Type} {enc:TypeId×Value→H}
theorem lift_laid {C:Checked} {os:Os} {f:FuncId} {fn:Func} {s:ChangeSpec} {laid:List (String×DataW Unit)} {conds:List PathCond} {fresh handsOn:Bool} {tb:TypeId}
  (own:ownKnob C.prog.godebug=none) (started:os.Started) (noInit:C.prog.inits.idxOf? f=none) (hfn:C.prog.funcs[f]? = some fn)
  (witness:∃ (w:World) (tape:Tape) (i:Input),w.os=os∧(w.forCall tape i).Shaped C.prog∧i.vars=[]∧Input.okWide C.prog (w.forCall tape i) .any w.heap.size f i ∧
   ((s.pre enc C.prog fn conds false (w.forCall tape i).memory i.args∧laidMetH C.prog laid (w.forCall tape i).memory)∧sizedMet enc C.prog fn (OpenSpec.ofChange s) false (w.forCall tape i).memory i.args)∧({}:Assume).holds C.prog (lone (Frame.enter C.prog f i.args .normal) [] (w.forCall tape i)))
  (hl:laidOutB C.prog=true) (hts:fn.params.toList.all (fun t=>C.prog.readableRec t && decide (t < C.prog.types.size))=true)
  (hrt:fn.resultTypes=#[tb]) (htb:C.prog.underlying tb=some .bool) (hv:s.vars=[])
  (hs:∀ (ds:List (DataW H)),ds.length=fn.params.size→s.fn H ds={ results:=[.lit (.bool true)],args:=ds })
  (walk:∀ (W:World) (base:Nat) (args:Array Value) (ds:List (DataW H)) (p:List MemPlace),
   (∀ (j:Nat) t v,fn.params[j]? = some t→args[j]? = some v→Value.okWide C.prog W .any base t v) →
   DataW.TrodAll enc C.prog W 0 (fun _=>true) true fn.params.toList args.toList ds p →
   (DataW.weightsEach C.prog fn.params.toList ds).all (·≤reachBytes)=true →
   conds.all (PathCond.test C.prog ⟨fn.params.toList,ds,s.plain.varTypes C.prog,[]⟩)=true→laidMetH C.prog laid W →
   To C.prog f args.toList W fun v W'=>v=.bool true∧Chg [] W W') :
  ReturnsInHanded {} C os f .any (fun w args=>(s.pre enc C.prog fn conds false w args∧laidMetH C.prog laid w)∧sizedMet enc C.prog fn (OpenSpec.ofChange s) false w args) (s.post enc C.prog fn false fresh handsOn false):=by
 refine returnsInHanded_of_change_and (C:=C) (X:=fun w _=>laidMetH C.prog laid w) (fun _ _ _ hh h=>h.of_heap hh) own started noInit hfn witness ?_
 intro W base args ds gs before hval hW hcond hsz hL _
 have hW':=hW
 obtain ⟨p,q,hA,hV,rfl,_,_⟩:=hW
 have hg:gs=[]∧q=[]:=by
  rw [hv] at hV
  cases gs with
  | nil=>exact ⟨rfl,hV⟩
  | cons g gs=>exact hV.elim
 obtain ⟨rfl,rfl⟩:=hg
 have hvt:s.plain.varTypes C.prog=[]:=by
  unfold DataSpec.varTypes ChangeSpec.plain;rw [hv];rfl
 rw [hvt] at hsz
 simp only [List.append_nil] at hsz hW'
 have hlen:ds.length=fn.params.size:=by simpa using trodAll_length hA
 refine Calls.mono (walk W base args ds p hval hA hsz hcond hL) fun e W' ⟨v,he,hve,hc⟩=>?_
 subst hve
 have hb:=hc.below
 have hlt:∀ x∈p,x.block < W.heap.size:=fun x hx=>by simpa using hW'.lt x hx
 have er:=hs ds hlen
 refine ⟨_,he,ds,[],p,[],p,[],hW',?_,?_,?_,hb.frame _,fun h=>by cases h⟩
 ·simp only [List.append_nil]
  rw [er,hrt]
  exact trodAll_mk1 (shut_bool htb true)
 ·simp only [List.append_nil]
  rw [er]
  refine trodAll_stays hl hb (fun t ht=>?_) hA hlt
  have:=List.all_eq_true.1 hts t ht
  simp only [Bool.and_eq_true,decide_eq_true_eq] at this
  exact this
 ·simp only [List.append_nil]
  rw [er,hv];rfl
end
end Go.E
