/- The rules by which these proofs step through the code, part N. -/
import Derived.Test.YtinakhioihhgfaaGreatDoorEngM
set_option linter.unusedVariables false
set_option linter.unusedSimpArgs false
namespace Go.E
open Go.RowKit
def topQ (K:Act→World→Prop) (Q:Exit→Act→World→Prop):Exit→Act→World→Prop
 | .normal=>K
 | e=>Q e
theorem wp_top_k {P:Program} {c:Code} {Q:Exit→Act→World→Prop} {a:Act} {w:World} (h:∀ K:Act→World→Prop,(∀ a w,Q .normal a w→K a w)→c.wp P (topQ K Q) a w):c.wp P Q a w :=
 Code.wp_mono (fun e a w hh=>by cases e<;>exact hh) (h (Q .normal) fun _ _ h=>h)
section
variable {P:Program} {n d:Nat} {ops:Array Oper} {Q:Exit→Act→World→Prop} {w w':World} {a:Act} {env:Env} {rest:List Oper} {o:Oper} {v:Value}
 {dd:Option Tmp} {ty:TypeId} {pos:String} {af:Array Edge} {gd:Option (Nat×Bool)}
theorem shr_run {t t':TypeId} {x y:Operand} {k k':IntKind} {i j:Int} (ha:Has a n env) (hx:ev env x=some (.int k i)) (hy:ev env y=some (.int k' j)) (h:0≤j) (w:World) :
  (execOp a.eval ⟨dd,.binOp .shr t x y t',ty,pos,af,gd⟩).run P w=.ok (.value (.int k (i.fdiv (2^(min j.toNat k.bits))))) w:=by
 refine execOp_val (s:=do eqGuard .shr t x y (.int k i) (.int k' j);Go.binOp .shr t (.int k i) (.int k' j)) (by simp [execOp,ha.ev hx,ha.ev hy]) ?_
 rw [run_bind (eqGuard_plain (fun _ e=>by cases e) (fun e=>by cases e) w)]
 exact ishift_run (by simp [ishift,Int.not_lt.2 h]) w
def Iter (w:World) (g:Nat) (s:List UInt8) (p:Nat):Prop:=w.heap[g]? = some (.stringIter (bstr s) p)
theorem Iter.chg {g:Nat} {s:List UInt8} {p:Nat} {gs:List Nat} (h:Iter w g s p) (hc:Chg gs w w') (hn:g∉gs):Iter w' g s p:=hc.at h hn
theorem Iter.c0 {g:Nat} {s:List UInt8} {p:Nat} (h:Iter w g s p) (hc:Chg [] w w'):Iter w' g s p:=h.chg hc (fun h=>nomatch h)
end
end Go.E
