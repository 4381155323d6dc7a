/- The rules by which these proofs step through the code, part M. -/
import Derived.Test.YtinakhioihhgfaaGreatDoorEngL
import Derived.DeepKeys
set_option linter.unusedVariables false
set_option linter.unusedSimpArgs false
namespace Go.E
open Go.RowKit
/-! structs and arrays of numbers, bools and strings that are compared -/
def eqAll {α:Type} (f:α→Option Bool):List α→Option Bool
 | []=>some true
 | x::xs=>match f x,eqAll f xs with
  | some a,some b=>some (a && b)
  | _,_=>none
def eqC (P:Program):Nat→TypeId→List Value→List Value→Option Bool
 | 0,_,_,_=>none
 | d+1,t,cs,ds =>
  match P.underlying t,cs,ds with
  | some .bool,[.bool a],[.bool b]=>some (a==b)
  | some (.int _),[.int k a],[.int k' b]=>if k=k' then some (a==b) else none
  | some .string,[.string a],[.string b]=>some (a.toList==b.toList)
  | some (.array n e),cs,ds=>if cs.length=P.cellsOf t∧ds.length=P.cellsOf t∧(P.info? e).isSome=true then eqAll (fun i=>eqC P d e ((cs.drop (i*P.cellsOf e)).take (P.cellsOf e)) ((ds.drop (i*P.cellsOf e)).take (P.cellsOf e))) (List.range n) else none
  | some (.struct fs),cs,ds=>if cs.length=P.cellsOf t∧ds.length=P.cellsOf t∧(fs.all (·.name != "_") && !P.stoodInHeld t)=true then
    eqAll (fun f:Field=>eqC P d f.type ((cs.drop f.offset).take (P.cellsOf f.type)) ((ds.drop f.offset).take (P.cellsOf f.type))) fs.toList else none
  | _,_,_=>none
section
variable {P:Program} (w:World)
theorem eqC_cases {d:Nat} {t:TypeId} {cs ds:List Value} {r:Bool} (h:eqC P d t cs ds=some r) :
  (P.plainKey t=true∧(∃ a b,cs=[a]∧ds=[b]∧a.formed P t=true∧b.formed P t=true∧a.cells.toList=[a]∧b.cells.toList=[b])) ∨
  (((∃ n e,P.underlying t=some (.array n e))∨(∃ fs,P.underlying t=some (.struct fs)))∧cs.length=P.cellsOf t∧ds.length=P.cellsOf t):=by
 cases d with
 | zero=>simp [eqC] at h
 | succ d =>
  unfold eqC at h
  split at h
  ·rename_i hu
   exact .inl ⟨by simp [Program.plainKey,hu],_,_,rfl,rfl,by simp [Value.formed,hu],by simp [Value.formed,hu],rfl,rfl⟩
  ·rename_i hu
   exact .inl ⟨by simp [Program.plainKey,hu],_,_,rfl,rfl,by simp [Value.formed,hu],by simp [Value.formed,hu],rfl,rfl⟩
  ·rename_i hu
   exact .inl ⟨by simp [Program.plainKey,hu],_,_,rfl,rfl,by simp [Value.formed,hu],by simp [Value.formed,hu],rfl,rfl⟩
  ·rename_i hu
   split at h
   ·rename_i hl;exact .inr ⟨.inl ⟨_,_,hu⟩,hl.1,hl.2.1⟩
   ·cases h
  ·rename_i hu
   split at h
   ·rename_i hl;exact .inr ⟨.inr ⟨_,hu⟩,hl.1,hl.2.1⟩
   ·cases h
  ·cases h
theorem run_part_go {e:TypeId} {off:Nat} {xs:Array Value} (h:(P.plainKey e=true∧∃ a,(xs.toList.drop off).take (P.cellsOf e)=[a]∧a.formed P e=true∧a.cells.toList=[a]) ∨
   (((∃ n e',P.underlying e=some (.array n e'))∨(∃ fs,P.underlying e=some (.struct fs)))∧((xs.toList.drop off).take (P.cellsOf e)).length=P.cellsOf e)) :
  ∃ a,(part e xs off).run P w=.ok a w∧a.formed P e=true∧a.cells.toList=(xs.toList.drop off).take (P.cellsOf e):=by
 rcases h with ⟨hp,a,e1,h1,h2⟩ | ⟨hk,hlen⟩
 ·exact ⟨a,run_part_plain w hp (getElem?_of_chunk e1),h1,by rw [e1];exact h2⟩
 ·have hl:(xs.extract off (off+P.cellsOf e)).toList=(xs.toList.drop off).take (P.cellsOf e):=by
   rw [Array.toList_extract]
   simp [List.extract]
  have hs:(xs.extract off (off+P.cellsOf e)).size=P.cellsOf e:=by rw [← Array.length_toList,hl,hlen]
  refine ⟨.agg (xs.extract off (off+P.cellsOf e)),?_,?_,hl⟩
  ·rcases hk with ⟨n,e',hu⟩ | ⟨fs,hu⟩
   ·obtain ⟨i,hi⟩:=info_of_underlying hu
    simp [part,isAgg,run_underlying hu,run_sizeOf w hi]
   ·obtain ⟨i,hi⟩:=info_of_underlying hu
    simp [part,isAgg,run_underlying hu,run_sizeOf w hi]
  ·rcases hk with ⟨n,e',hu⟩ | ⟨fs,hu⟩<;>simp [Value.formed,hu,hs]
def EqRun (P:Program) (dd d:Nat) (e:TypeId):Prop :=
 ∀ (w:World) (a b:Value) (r:Bool),a.formed P e=true→b.formed P e=true→eqC P d e a.cells.toList b.cells.toList=some r→(Op.equalIn dd e a b).run P w=.ok r w
theorem eq_step {dd d:Nat} {e:TypeId} (IH:EqRun P dd d e) {off:Nat} {xs ys:Array Value} {r:Bool}
  (h:eqC P d e ((xs.toList.drop off).take (P.cellsOf e)) ((ys.toList.drop off).take (P.cellsOf e))=some r) :
  ∃ a b,(part e xs off).run P w=.ok a w∧(part e ys off).run P w=.ok b w∧(Op.equalIn dd e a b).run P w=.ok r w:=by
 have hc:=eqC_cases h
 obtain ⟨a,p1,f1,c1⟩:=run_part_go w (xs:=xs) (off:=off) (hc.imp (fun ⟨hp,a,b,e1,e2,h1,h2,h3,h4⟩=>⟨hp,a,e1,h1,h3⟩) (fun ⟨hk,h1,h2⟩=>⟨hk,h1⟩))
 obtain ⟨b,p2,f2,c2⟩:=run_part_go w (xs:=ys) (off:=off) (hc.imp (fun ⟨hp,a,b,e1,e2,h1,h2,h3,h4⟩=>⟨hp,b,e2,h2,h4⟩) (fun ⟨hk,h1,h2⟩=>⟨hk,h2⟩))
 exact ⟨a,b,p1,p2,IH w a b r f1 f2 (by rw [c1,c2];exact h)⟩
theorem eq_fields {dd d:Nat} (xs ys:Array Value):∀ (fs:List Field) (r:Bool),(∀ f∈fs,f.name ≠ "_" ∧ EqRun P dd d f.type) →
  eqAll (fun f:Field=>eqC P d f.type ((xs.toList.drop f.offset).take (P.cellsOf f.type)) ((ys.toList.drop f.offset).take (P.cellsOf f.type))) fs=some r→(Op.eqFields dd xs ys fs).run P w=.ok r w
 | [],r,_,h=>by simp [eqAll] at h;subst h;simp [Op.eqFields]
 | f::fs,r,hall,h=>by
  unfold eqAll at h
  split at h
  ·rename_i a b h1 h2
   obtain rfl:=Option.some.inj h
   obtain ⟨hn,hp⟩:=hall f (by simp)
   obtain ⟨x,y,p1,p2,p3⟩:=eq_step w hp h1
   have:=eq_fields xs ys fs b (fun g hg=>hall g (by simp [hg])) h2
   simp only [Op.eqFields,hn,ne_eq,not_false_eq_true,if_true,Sem.run_bind,p1,p2,p3,Result.andThen_ok]
   cases a
   ·simp
   ·simpa using this
  ·cases h
theorem eq_items {dd d:Nat} {e:TypeId} (IH:EqRun P dd d e) (xs ys:Array Value):∀ (is:List Nat) (r:Bool),
  eqAll (fun i=>eqC P d e ((xs.toList.drop (i*P.cellsOf e)).take (P.cellsOf e)) ((ys.toList.drop (i*P.cellsOf e)).take (P.cellsOf e))) is=some r→(Op.eqItems dd e (P.cellsOf e) xs ys is).run P w=.ok r w
 | [],r,h=>by simp [eqAll] at h;subst h;simp [Op.eqItems]
 | i::is,r,h=>by
  unfold eqAll at h
  split at h
  ·rename_i a b h1 h2
   obtain rfl:=Option.some.inj h
   obtain ⟨x,y,p1,p2,p3⟩:=eq_step w IH h1
   have:=eq_items IH xs ys is b h2
   simp only [Op.eqItems,Sem.run_bind,p1,p2,p3,Result.andThen_ok]
   cases a
   ·simp
   ·simpa using this
  ·cases h
end
theorem eqC_run {P:Program} (dd:Nat):∀ (d:Nat) (t:TypeId),EqRun P (dd+d) d t
 | 0,t=>fun w a b r _ _ h=>by simp [eqC] at h
 | d+1,t=>by
  intro w x y r fx fy h
  unfold eqC at h
  split at h
  ·rename_i a b hu h1 h2
   obtain rfl:=Option.some.inj h
   have ex:x=.bool a:=by cases x<;>simp_all [Value.cells,Value.formed]
   have ey:y=.bool b:=by cases y<;>simp_all [Value.cells,Value.formed]
   subst ex;subst ey
   exact run_equalIn_bool w (dd+d) t a b hu
  ·rename_i q k a k' b hu h1 h2
   split at h
   ·rename_i hk
    subst hk
    obtain rfl:=Option.some.inj h
    have ex:x=.int k a:=by cases x<;>simp_all [Value.cells,Value.formed]
    have ey:y=.int k b:=by cases y<;>simp_all [Value.cells,Value.formed]
    subst ex;subst ey
    exact run_equalIn_int w (dd+d) t k q a b hu
   ·cases h
  ·rename_i a b hu h1 h2
   obtain rfl:=Option.some.inj h
   have ex:x=.string a:=by cases x<;>simp_all [Value.cells,Value.formed]
   have ey:y=.string b:=by cases y<;>simp_all [Value.cells,Value.formed]
   subst ex;subst ey
   exact run_equalIn_string w (dd+d) t a b hu
  ·rename_i n e hu
   split at h
   ·rename_i hl
    cases x<;>simp only [Value.formed,hu,Bool.false_eq_true] at fx
    cases y<;>simp only [Value.formed,hu,Bool.false_eq_true] at fy
    rename_i xs ys
    simp only [Value.cells] at h hl
    obtain ⟨i,hi⟩:=Option.isSome_iff_exists.1 hl.2.2
    rw [show dd+(d+1)=(dd+d)+1 from rfl,run_equalIn_array w (dd+d) xs ys hu hi]
    exact eq_items w (eqC_run dd d e) xs ys (List.range n) r h
   ·cases h
  ·rename_i fs hu
   split at h
   ·rename_i hl
    cases x<;>simp only [Value.formed,hu,Bool.false_eq_true] at fx
    cases y<;>simp only [Value.formed,hu,Bool.false_eq_true] at fy
    rename_i xs ys
    simp only [Value.cells] at h hl
    have hc:=hl.2.2
    simp only [Bool.and_eq_true,Bool.not_eq_true'] at hc
    have hfs:P.fieldsOf t=fs:=by simp [Program.fieldsOf,hu]
    rw [show dd+(d+1)=(dd+d)+1 from rfl,run_equalIn_struct w (dd+d) t xs ys (by rw [hfs];exact hu) hc.2,hfs]
    exact eq_fields w xs ys fs.toList r (fun f hf=>⟨by have:=Array.all_eq_true_iff_forall_mem.1 hc.1 f (Array.mem_toList_iff.1 hf);simpa using this,eqC_run dd d f.type⟩) h
   ·cases h
  ·cases h
def conjB:List Bool→Bool
 | []=>true
 | b::l=>b && conjB l
def eqA (n:Nat) (x y:List Int):Bool:=conjB ((List.range n).map fun i=>ar x i==ar y i)
section
variable {P:Program} {n d:Nat} {ops:Array Oper} {Q:Exit→Act→World→Prop} {w w':World} {a:Act} {env:Env} {rest:List Oper} {o:Oper} {v:Value}
 {dd:Option Tmp} {ty:TypeId} {pos:String} {af:Array Edge} {gd:Option (Nat×Bool)}
theorem eqs_run {t u:TypeId} {x y:Operand} {xs ys:List Value} {r:Bool} {m:Nat} (ha:Has a n env) (hx:ev env x=some (.agg xs.toArray)) (hy:ev env y=some (.agg ys.toArray))
  (hf:((match P.underlying t with | some (.struct _) | some (.array _ _)=>true | _=>false) && !(P.eqGuardType P.depth t))=true) (hm:Nat.ble m 10000=true)
  (h:eqC P m t xs ys=some r) (w:World):(execOp a.eval ⟨dd,.binOp .eql t x y u,ty,pos,af,gd⟩).run P w=.ok (.value (.bool r)) w:=by
 simp only [Bool.and_eq_true,Bool.not_eq_true'] at hf
 have hm':10000 - m+m=10000:=Nat.sub_add_cancel (Nat.le_of_ble_eq_true hm)
 have hl:xs.length=P.cellsOf t∧ys.length=P.cellsOf t:=by
  rcases eqC_cases h with ⟨hp,_⟩ | ⟨_,h1,h2⟩
  ·unfold Program.plainKey at hp
   split at hp<;>simp_all
  ·exact ⟨h1,h2⟩
 have hform:∀ l:List Value,l.length=P.cellsOf t→(Value.agg l.toArray).formed P t=true:=by
  intro l hl
  unfold Value.formed
  cases hu:P.underlying t with
  | none=>simp [hu] at hf
  | some k=>cases k<;>simp_all
 have hr:=eqC_run (P:=P) (10000 - m) m t w (.agg xs.toArray) (.agg ys.toArray) r (hform xs hl.1) (hform ys hl.2) (by simpa [Value.cells] using h)
 rw [hm'] at hr
 have hb:(binOp .eql t (.agg xs.toArray) (.agg ys.toArray)).run P w=.ok (.bool r) w:=by rw [run_eql_struct,hr];rfl
 have e1:execOp a.eval ⟨dd,.binOp .eql t x y u,ty,pos,af,gd⟩=(do eqGuard .eql t x y (.agg xs.toArray) (.agg ys.toArray);let v ← binOp .eql t (.agg xs.toArray) (.agg ys.toArray);pure (Next.value v)):=by
  simp [execOp,ha.ev hx,ha.ev hy]
 rw [e1]
 simp [run_eqGuard_agg w .eql t x y _ _ hf.2,hb]
theorem nes_run {t u:TypeId} {x y:Operand} {xs ys:List Value} {r:Bool} {m:Nat} (ha:Has a n env) (hx:ev env x=some (.agg xs.toArray)) (hy:ev env y=some (.agg ys.toArray))
  (hf:((match P.underlying t with | some (.struct _) | some (.array _ _)=>true | _=>false) && !(P.eqGuardType P.depth t))=true) (hm:Nat.ble m 10000=true)
  (h:eqC P m t xs ys=some r) (w:World):(execOp a.eval ⟨dd,.binOp .neq t x y u,ty,pos,af,gd⟩).run P w=.ok (.value (.bool (!r))) w:=by
 simp only [Bool.and_eq_true,Bool.not_eq_true'] at hf
 have hm':10000 - m+m=10000:=Nat.sub_add_cancel (Nat.le_of_ble_eq_true hm)
 have hl:xs.length=P.cellsOf t∧ys.length=P.cellsOf t:=by
  rcases eqC_cases h with ⟨hp,_⟩ | ⟨_,h1,h2⟩
  ·unfold Program.plainKey at hp
   split at hp<;>simp_all
  ·exact ⟨h1,h2⟩
 have hform:∀ l:List Value,l.length=P.cellsOf t→(Value.agg l.toArray).formed P t=true:=by
  intro l hl
  unfold Value.formed
  cases hu:P.underlying t with
  | none=>simp [hu] at hf
  | some k=>cases k<;>simp_all
 have hr:=eqC_run (P:=P) (10000 - m) m t w (.agg xs.toArray) (.agg ys.toArray) r (hform xs hl.1) (hform ys hl.2) (by simpa [Value.cells] using h)
 rw [hm'] at hr
 have hb:(binOp .neq t (.agg xs.toArray) (.agg ys.toArray)).run P w=.ok (.bool (!r)) w:=by rw [run_neq_struct,hr];rfl
 have e1:execOp a.eval ⟨dd,.binOp .neq t x y u,ty,pos,af,gd⟩=(do eqGuard .neq t x y (.agg xs.toArray) (.agg ys.toArray);let v ← binOp .neq t (.agg xs.toArray) (.agg ys.toArray);pure (Next.value v)):=by
  simp [execOp,ha.ev hx,ha.ev hy]
 rw [e1]
 simp [run_eqGuard_agg w .neq t x y _ _ hf.2,hb]
end
end Go.E
