/- The rules by which these proofs step through the code, part W. -/
import Derived.Test.YtcejhnpncodkjaaGreatDoorEngV
import Derived.Deep.DeepHandedRow
set_option linter.unusedVariables false
set_option linter.unusedSimpArgs false
namespace Go.E
open Go.RowKit Go.ChangeShapes Go.WideShapes Go.ChangeAt
section
variable {H:Type} {enc:TypeId×Value→H}
theorem arg_str_d {P:Program} {W:World} {t:TypeId} {base:Nat} {v:Value} {d:DataW H} {p:List MemPlace} (ht:P.underlying t=some .string) (hval:Value.okWide P W .any base t v) (h:DataW.Trod enc P W 0 (fun _=>true) true t v d p)
  (hw:(d.weights P t).all (·≤reachBytes)=true):∃ n,v=.string (bstr n)∧d=.lit (.string n)∧okS n:=by
 obtain ⟨s,rfl⟩:=okWide_string ht hval
 obtain ⟨fuel,hf⟩:=h
 obtain ⟨n,hn,hx,_⟩:=DataW.trod_string ht hf
 simp [Value.cells] at hn
 subst hn
 have:=congrArg Prod.fst hx
 simp only at this
 subst this
 exact ⟨s.data.toList,by simp [bstr],rfl,by simpa [DataW.weights,okS] using hw⟩
theorem witness_row_shaped {C:Checked} {os:Os} {f:FuncId} {fn:Func} {s:OpenSpec} {conds:List PathCond} {apart:Bool} {laid:List (String×DataW Unit)} (modest:Bool) (w0:World) (args:Array Value) (hos:w0.os=os)
  (hsh:(w0.forCall (fun _ _=>0) ⟨#[],args,[]⟩).Shaped C.prog)
  (hok:Input.okWideB C.prog (w0.forCall (fun _ _=>0) ⟨#[],args,[]⟩) f ⟨#[],args,[]⟩=true)
  (hrow:s.preRow enc C.prog fn conds apart laid (w0.forCall (fun _ _=>0) ⟨#[],args,[]⟩).memory args) :
  ∃ (w:World) (tape:Tape) (i:Input),w.os=os∧(w.forCall tape i).Shaped C.prog∧i.vars=[]∧Input.okWide C.prog (w.forCall tape i) .any w.heap.size f i ∧
   s.preRow enc C.prog fn conds apart laid (w.forCall tape i).memory i.args∧({ modest:=modest }:Assume).holds C.prog (lone (Frame.enter C.prog f i.args .normal) [] (w.forCall tape i)) :=
 ⟨w0,fun _ _=>0,⟨#[],args,[]⟩,hos,hsh,(Input.okWide_of_okWideB (base:=0) hok).1,(Input.okWide_of_okWideB hok).2,hrow,by
  simp only [Assume.holds]
  exact ⟨by simp,by simp,fun _=>Modest.zero,by simp,by simp⟩⟩
theorem preRow_of_get {P:Program} {f:Func} {s:OpenSpec} {conds:List PathCond} {apart:Bool} {laid:List (String×DataW Unit)} {w:World} {args:Array Value} (fuel:Nat)
  (hi:(DataW.whole enc P w f.params.toList s.vars apart args.toList fuel).isSome=true)
  (hconds:conds.all (PathCond.test P ⟨f.params.toList,((DataW.whole enc P w f.params.toList s.vars apart args.toList fuel).get hi).1,s.bare.plain.varTypes P,((DataW.whole enc P w f.params.toList s.vars apart args.toList fuel).get hi).2.1⟩)=true)
  (hkk:∀ k,s.cond=some k→k H (((DataW.whole enc P w f.params.toList s.vars apart args.toList fuel).get hi).1++((DataW.whole enc P w f.params.toList s.vars apart args.toList fuel).get hi).2.1)=true)
  (hsz:s.bare.sizedB enc P f apart w args fuel=true) (hl:laidMetH P laid w):s.preRow enc P f conds apart laid w args :=
 OpenSpec.preRow_of_cond fuel (Option.some_get hi).symm hconds hkk hsz hl
theorem lift_row {C:Checked} {os:Os} {f:FuncId} {fn:Func} {s:ChangeSpec} {k:(H:Type)→List (DataW H)→Bool} {F:Stop.Interp} {laid:List (String×DataW Unit)} {conds:List PathCond} {fresh handsOn:Bool} {tb:TypeId}
  (own:ownKnob C.prog.godebug=none) (started:os.Started) (noInit:C.prog.inits.idxOf? f=none) (hfn:C.prog.funcs[f]? = some fn)
  (witness:∃ (w:World) (tape:Tape) (i:Input),w.os=os∧(w.forCall tape i).Shaped C.prog∧i.vars=[]∧Input.okWide C.prog (w.forCall tape i) .any w.heap.size f i ∧
   ({ OpenSpec.ofChange s with cond:=some k }:OpenSpec).preRow enc C.prog fn conds false laid (w.forCall tape i).memory i.args∧({}:Assume).holds C.prog (lone (Frame.enter C.prog f i.args .normal) [] (w.forCall tape i)))
  (hl:laidOutB C.prog=true) (hts:fn.params.toList.all (fun t=>C.prog.readableRec t && decide (t < C.prog.types.size))=true)
  (hrt:fn.resultTypes=#[tb]) (htb:C.prog.underlying tb=some .bool) (hv:s.vars=[])
  (hs:∀ (ds:List (DataW H)),ds.length=fn.params.size→s.fn H ds={ results:=[.lit (.bool true)],args:=ds })
  (walk:∀ (W:World) (base:Nat) (args:Array Value) (ds:List (DataW H)) (p:List MemPlace),
   (∀ (j:Nat) t v,fn.params[j]? = some t→args[j]? = some v→Value.okWide C.prog W .any base t v) →
   DataW.TrodAll enc C.prog W 0 (fun _=>true) true fn.params.toList args.toList ds p →
   (DataW.weightsEach C.prog fn.params.toList ds).all (·≤reachBytes)=true →
   k H ds=true→laidMetH C.prog laid W→W.ShapedOpen C.prog →
   To C.prog f args.toList W fun v W'=>v=.bool true∧Chg [] W W') :
  ReturnsInHanded {} C os f .any (({ OpenSpec.ofChange s with cond:=some k }:OpenSpec).preRow enc C.prog fn conds false laid) ((({ OpenSpec.ofChange s with cond:=some k }:OpenSpec).at F).post enc C.prog fn false fresh handsOn false):=by
 refine returnsInHanded_of_row (C:=C) own started noInit hfn witness ?_
 intro W base args ds gs before hval hW _ hk hsz hL hsh _
 have hW':=hW
 obtain ⟨p,q,hA,hV,rfl,_,_⟩:=hW
 have hg:gs=[]∧q=[]:=by
  have e:({ OpenSpec.ofChange s with cond:=some k }:OpenSpec).vars=[]:=hv
  rw [e] at hV
  cases gs with
  | nil=>exact ⟨rfl,hV⟩
  | cons g gs=>exact hV.elim
 obtain ⟨rfl,rfl⟩:=hg
 have hvt:({ OpenSpec.ofChange s with cond:=some k }:OpenSpec).bare.plain.varTypes C.prog=[]:=by
  show s.plain.varTypes C.prog=[]
  unfold DataSpec.varTypes ChangeSpec.plain;rw [hv];rfl
 rw [hvt] at hsz
 have hk:=hk k rfl
 simp only [List.append_nil] at hsz hW' hk
 have hlen:ds.length=fn.params.size:=by simpa using trodAll_length hA
 refine Calls.mono (walk W base args ds p hval hA hsz hk hL hsh) fun e W' ⟨v,he,hve,hc⟩=>?_
 subst hve
 have hb:=hc.below
 have hlt:∀ x∈p,x.block < W.heap.size:=fun x hx=>by simpa using hW'.lt x hx
 have er:=hs ds hlen
 have goal:s.post enc C.prog fn false fresh handsOn false W args (.bool true) W':=by
  refine ⟨ds,[],p,[],p,[],hW',?_,?_,?_,hb.frame _,fun h=>by cases h⟩
  ·simp only [List.append_nil]
   rw [er,hrt]
   exact trodAll_mk1 (shut_bool htb true)
  ·simp only [List.append_nil]
   rw [er]
   refine trodAll_stays hl hb (fun t ht=>?_) hA hlt
   have:=List.all_eq_true.1 hts t ht
   simp only [Bool.and_eq_true,decide_eq_true_eq] at this
   exact this
  ·simp only [List.append_nil]
   rw [er,hv];rfl
 exact ⟨_,he,goal⟩
end
end Go.E
