/- The rules by which these proofs step through the code, part O. -/
import Derived.Test.YtinakhioihhgfaaGreatDoorEngN
import Derived.ArgAppend
set_option linter.unusedVariables false
set_option linter.unusedSimpArgs false
namespace Go.E
open Go.RowKit
def mset {α β:Type} [BEq α]:List (α×β)→α→β→List (α×β)
 | [],k,v=>[(k,v)]
 | p::l,k,v=>if (k==p.1)=true then (k,v)::l else p::mset l k v
def pr (e:MapEntry):Value×Value:=(e.key,e.val)
def pq {α β:Type} (kv:α→Value) (vv:β→Value) (p:α×β):Value×Value:=(kv p.1,vv p.2)
def Stamps (es:List MapEntry) (clock:Nat):Prop:=(es.map (·.born)).Nodup∧∀ e∈es,e.born < clock
def MapR {α β:Type} (kv:α→Value) (vv:β→Value) (w:World) (g:Nat) (l:List (α×β)):Prop :=
 ∃ es clock,w.heap[g]? = some (.map es clock)∧es.toList.map pr=l.map (pq kv vv)∧Stamps es.toList clock
theorem MapR.chg {α β:Type} {kv:α→Value} {vv:β→Value} {w w':World} {g:Nat} {l:List (α×β)} {gs:List Nat} (h:MapR kv vv w g l) (hc:Chg gs w w') (hn:g∉gs):MapR kv vv w' g l:=by
 obtain ⟨es,c,h1,h2,h3⟩:=h
 exact ⟨es,c,hc.at h1 hn,h2,h3⟩
section
variable {α β:Type} [BEq α] {P:Program} {kv:α→Value} {vv:β→Value} {n d:Nat} {ops:Array Oper} {Q:Exit→Act→World→Prop} {w w':World} {a:Act} {env:Env} {rest:List Oper} {o:Oper} {v:Value}
 {dd:Option Tmp} {ty:TypeId} {pos:String} {af:Array Edge} {gd:Option (Nat×Bool)}
end
/-! an element of an array that is a value; four results -/
section
variable {P:Program} {n:Nat} {ops:Array Oper} {Q:Exit→Act→World→Prop} {a:Act} {env:List (Nat×Value)} {w:World} {dd:Option Tmp} {ty:TypeId} {pos:String} {af:Array Edge} {gd:Option (Nat×Bool)}
theorem mapM_four (f:ResultVar→Sem Value) (r1 r2 r3 r4:ResultVar):#[r1,r2,r3,r4].mapM f=(do let v ← f r1;let u ← f r2;let x ← f r3;let y ← f r4;pure #[v,u,x,y]):=by
 rw [Array.mapM_eq_mapM_toList];simp
theorem res4 {fn:Func} {r1 r2 r3 r4:ResultVar} {v1 v2 v3 v4:Value} (hr:fn.results=#[r1,r2,r3,r4]) (h1:(resOne a.tmps r1).run P w=.ok v1 w) (h2:(resOne a.tmps r2).run P w=.ok v2 w) (h3:(resOne a.tmps r3).run P w=.ok v3 w) (h4:(resOne a.tmps r4).run P w=.ok v4 w):(results fn a.tmps).run P w=.ok (.tuple #[v1,v2,v3,v4]) w:=by
 unfold results
 rw [hr,mapM_four]
 cases r1<;>cases r2<;>cases r3<;>cases r4<;>simp only [resOne] at h1 h2 h3 h4<;>simp only [Sem.run_bind,h1,h2,h3,h4,Sem.run_pure,Result.andThen] at*<;> simp_all
end
/-! all blocks but one -/
def butL (g:Nat) (w:World):List Nat:=(List.range w.heap.size).filter (fun x=>x != g)
theorem butL_ok {g:Nat} {w:World} {M:List Nat} (h:∀ x∈M,x≠g):Ok M (butL g w) w.heap.size:=fun x hx=>by
 by_cases hl:x < w.heap.size
 ·exact .inl (List.mem_filter.2 ⟨List.mem_range.2 hl,by simpa using h x hx⟩)
 ·exact .inr (Nat.not_lt.1 hl)
theorem butL_chg {g:Nat} {w w':World}:Ok (butL g w') (butL g w) w.heap.size:=butL_ok fun x hx=>by simpa using (List.mem_filter.1 hx).2
/-! numbers that are the call's own, or the marked block of a literal, full to its end -/
def OwnW (k:IntKind) (T:TypeId) (w:World) (M:List Nat) (ao:Option Addr) (cap:Nat) (xs:List Int):Prop :=
 Own (rInt k) T w M ao cap xs∨(xs.length=cap∧∃ g,ao=some ⟨g,0,none⟩∧g∈M∧g < w.heap.size∧RSl (rInt k) T w (butL g w) ao cap xs)
section
variable {P:Program} {n d:Nat} {ops:Array Oper} {Q:Exit→Act→World→Prop} {a:Act} {env:List (Nat×Value)} {rest:List Oper} {dd:Option Tmp} {ty:TypeId} {pos:String} {af:Array Edge} {gd:Option (Nat×Bool)}
variable {k:IntKind} {T:TypeId} {w w':World} {M M' gs:List Nat} {ao:Option Addr} {cap:Nat} {xs:List Int}
theorem OwnW.own (h:Own (rInt k) T w M ao cap xs):OwnW k T w M ao cap xs:=.inl h
theorem OwnW.chg (h:OwnW k T w M ao cap xs) (hc:Chg gs w w') (ho:Ok gs M w.heap.size) (hm:Ok M' M w.heap.size) (hn:∀ g∈blkL ao,g∉gs) (hM:∀ g∈blkL ao,g∈M'):OwnW k T w' M' ao cap xs:=by
 rcases h with h | ⟨h1,g,rfl,h2,h3,h4⟩
 ·exact .inl (h.chg hc ho hm hn hM)
 ·have hg:g∈blkL (some (⟨g,0,none⟩:Addr)):=by simp [blkL]
  exact .inr ⟨h1,g,rfl,hM g hg,Nat.lt_of_lt_of_le h3 hc.size,h4.chg hc (butL_ok fun x hx e=>hn g hg (e ▸ hx)) butL_chg⟩
theorem OwnW.toRSl (h:OwnW k T w M ao cap xs) (hm:Ok M' M w.heap.size) (hn:∀ g∈blkL ao,g∉M'):RSl (rInt k) T w M' ao cap xs:=by
 rcases h with h | ⟨h1,g,rfl,h2,h3,h4⟩
 ·exact h.toRSl hm hn
 ·have hg:g∈blkL (some (⟨g,0,none⟩:Addr)):=by simp [blkL]
  exact h4.chg (Chg.refl [] w) (Ok.nil _ _) (butL_ok fun x hx e=>hn g hg (e ▸ hx))
theorem OwnW.src (h:OwnW k T w M ao cap xs):Src (rInt k) T w [] ao cap xs:=(h.toRSl (M':=[]) (Ok.nil _ _) (fun _ _ h=>nomatch h)).src
end
end Go.E
