/- The rules by which these proofs step through the code, part O. -/
import Derived.Test.YtnbpoeiipgcogaaGreatDoorEngN
import Derived.ArgAppend
set_option linter.unusedVariables false
set_option linter.unusedSimpArgs false
namespace Go.E
open Go.RowKit
/-! maps that the program makes -/
def mget {α β:Type} [BEq α]:List (α×β)→α→Option β
 | [],_=>none
 | p::l,k=>if (k==p.1)=true then some p.2 else mget l k
def mset {α β:Type} [BEq α]:List (α×β)→α→β→List (α×β)
 | [],k,v=>[(k,v)]
 | p::l,k,v=>if (k==p.1)=true then (k,v)::l else p::mset l k v
def mdel {α β:Type} [BEq α]:List (α×β)→α→List (α×β)
 | [],_=>[]
 | p::l,k=>if (k==p.1)=true then l else p::mdel l k
structure MKey {α:Type} [BEq α] (P:Program) (kt:TypeId) (kv:α→Value):Prop where
 under:∃ d,P.underlying kt=some d∧∀ a b,Instr.sameNow d (kv a) (kv b)=some (a==b)
 bits:∀ a,Instr.sameBits 10000 (kv a) (kv a)=true
 check:∀ (w:World) (b:Bool) (a:α),(Instr.checkKey b 10000 kt (kv a)).run P w=.ok () w
 inj:∀ a b,(a==b)=true→kv a=kv b
def kI (k:IntKind) (n:Int):Value:=.int k n
def kB (b:Bool):Value:=.bool b
theorem mkey_int {P:Program} {kt:TypeId} {k:IntKind} (h:P.underlying kt=some (.int k)):MKey P kt (kI k):=by
 refine ⟨⟨_,h,fun a b=>by simp [kI,Instr.sameNow]⟩,fun a=>by simp [kI,Instr.sameBits],fun w b a=>?_,fun a b e=>by rw [eq_of_beq e]⟩
 rw [show (10000:Nat)=9999+1 from rfl,Instr.checkKey]
 simp [kI,run_underlying h]
def pr (e:MapEntry):Value×Value:=(e.key,e.val)
def pq {α β:Type} (kv:α→Value) (vv:β→Value) (p:α×β):Value×Value:=(kv p.1,vv p.2)
def Stamps (es:List MapEntry) (clock:Nat):Prop:=(es.map (·.born)).Nodup∧∀ e∈es,e.born < clock
def MapR {α β:Type} (kv:α→Value) (vv:β→Value) (w:World) (g:Nat) (l:List (α×β)):Prop :=
 ∃ es clock,w.heap[g]? = some (.map es clock)∧es.toList.map pr=l.map (pq kv vv)∧Stamps es.toList clock
theorem MapR.chg {α β:Type} {kv:α→Value} {vv:β→Value} {w w':World} {g:Nat} {l:List (α×β)} {gs:List Nat} (h:MapR kv vv w g l) (hc:Chg gs w w') (hn:g∉gs):MapR kv vv w' g l:=by
 obtain ⟨es,c,h1,h2,h3⟩:=h
 exact ⟨es,c,hc.at h1 hn,h2,h3⟩
theorem find_go {α β:Type} [BEq α] {P:Program} {kt:TypeId} {kv:α→Value} {vv:β→Value} (K:MKey P kt kv) {dsc:TypeDesc} (hd:∀ a b,Instr.sameNow dsc (kv a) (kv b)=some (a==b)) (k:α):∀ (es:List MapEntry) (l:List (α×β)) (i:Nat),es.map pr=l.map (pq kv vv) →
  (mget l k=none∧Instr.findNow dsc (kv k) es i=some none∧(∀ v,mset l k v=l++[(k,v)])∧mdel l k=l) ∨
  (∃ v j,mget l k=some v∧Instr.findNow dsc (kv k) es i=some (some (i+j,vv v))∧(∃ e,es[j]? = some e∧e.key=kv k)∧(∀ v',(es.modify j fun e=>{ e with key:=kv k,val:=vv v' }).map pr=(mset l k v').map (pq kv vv))∧(es.eraseIdx j).map pr=(mdel l k).map (pq kv vv))
 | [],[],i,_=>.inl ⟨rfl,rfl,fun _=>rfl,rfl⟩
 | [],_::_,_,h=>by simp at h
 | _::_,[],_,h=>by simp at h
 | e::es,p::l,i,h=>by
  simp only [List.map_cons,List.cons.injEq] at h
  obtain ⟨h1,h2⟩:=h
  simp only [pr,pq,Prod.mk.injEq] at h1
  obtain ⟨hk,hv⟩:=h1
  have hs:Instr.sameNow dsc (kv k) e.key=some (k==p.1):=by rw [hk];exact hd k p.1
  cases hb:(k==p.1) with
  | true =>
   refine .inr ⟨p.2,0,?_,?_,⟨e,rfl,by rw [hk];exact (K.inj k p.1 hb).symm⟩,fun v'=>?_,?_⟩
   ·unfold mget;rw [hb];rfl
   ·unfold Instr.findNow;rw [hs,hb,hv];rfl
   ·unfold mset
    rw [hb]
    simp [List.modify,pr,pq,h2]
   ·unfold mdel
    rw [hb]
    simpa using h2
  | false =>
   have hf:Instr.findNow dsc (kv k) (e::es) i=Instr.findNow dsc (kv k) es (i+1):=by
    rw [Instr.findNow,hs,hb]
   rcases find_go K hd k es l (i+1) h2 with ⟨a1,a2,a3,a4⟩ | ⟨v,j,a1,a2,⟨e',a3,a3'⟩,a4,a5⟩
   ·refine .inl ⟨?_,by rw [hf];exact a2,fun v=>?_,?_⟩
    ·unfold mget;rw [hb];exact a1
    ·unfold mset;rw [hb];simp [a3]
    ·unfold mdel;rw [hb];simp [a4]
   ·refine .inr ⟨v,j+1,?_,?_,⟨e',by simpa using a3,a3'⟩,fun v'=>?_,?_⟩
    ·unfold mget;rw [hb];exact a1
    ·rw [hf,a2,show i+1+j=i+(j+1) by omega]
    ·unfold mset
     rw [hb]
     have:=a4 v'
     simp only [List.modify_succ_cons,List.map_cons]
     rw [this]
     simp [pr,pq,hk,hv]
    ·unfold mdel
     rw [hb]
     simp only [List.eraseIdx_cons_succ,List.map_cons]
     rw [a5]
     simp [pr,pq,hk,hv]
section
variable {α β:Type} [BEq α] {P:Program} {kv:α→Value} {vv:β→Value} {n d:Nat} {ops:Array Oper} {Q:Exit→Act→World→Prop} {w w':World} {a:Act} {env:Env} {rest:List Oper} {o:Oper} {v:Value}
 {dd:Option Tmp} {ty:TypeId} {pos:String} {af:Array Edge} {gd:Option (Nat×Bool)}
theorem findKey_run {kt:TypeId} (K:MKey P kt kv) {es:List MapEntry} {l:List (α×β)} (h:es.map pr=l.map (pq kv vv)) (k:α) (w:World) :
  (mget l k=none∧(Instr.findKey kt (kv k) es).run P w=.ok none w∧(∀ v,mset l k v=l++[(k,v)])∧mdel l k=l) ∨
  (∃ v j,mget l k=some v∧(Instr.findKey kt (kv k) es).run P w=.ok (some (j,vv v)) w∧(∃ e,es[j]? = some e∧e.key=kv k)∧(∀ v',(es.modify j fun e=>{ e with key:=kv k,val:=vv v' }).map pr=(mset l k v').map (pq kv vv))∧(es.eraseIdx j).map pr=(mdel l k).map (pq kv vv)):=by
 obtain ⟨dsc,hu,hd⟩:=K.under
 rcases find_go K hd k es l 0 h with ⟨a1,a2,a3,a4⟩ | ⟨v,j,a1,a2,a3,a4,a5⟩
 ·exact .inl ⟨a1,by simp [Instr.findKey,run_underlying hu,a2],a3,a4⟩
 ·rw [Nat.zero_add] at a2
  exact .inr ⟨v,j,a1,by simp [Instr.findKey,run_underlying hu,a2],a3,a4,a5⟩
end
/-! an element of an array that is a value; four results -/
section
variable {P:Program} {n:Nat} {ops:Array Oper} {Q:Exit→Act→World→Prop} {a:Act} {env:List (Nat×Value)} {w:World} {dd:Option Tmp} {ty:TypeId} {pos:String} {af:Array Edge} {gd:Option (Nat×Bool)}
end
/-! all blocks but one -/
def butL (g:Nat) (w:World):List Nat:=(List.range w.heap.size).filter (fun x=>x != g)
theorem butL_ok {g:Nat} {w:World} {M:List Nat} (h:∀ x∈M,x≠g):Ok M (butL g w) w.heap.size:=fun x hx=>by
 by_cases hl:x < w.heap.size
 ·exact .inl (List.mem_filter.2 ⟨List.mem_range.2 hl,by simpa using h x hx⟩)
 ·exact .inr (Nat.not_lt.1 hl)
theorem butL_chg {g:Nat} {w w':World}:Ok (butL g w') (butL g w) w.heap.size:=butL_ok fun x hx=>by simpa using (List.mem_filter.1 hx).2
/-! numbers that are the call's own, or the marked block of a literal, full to its end -/
def OwnW (k:IntKind) (T:TypeId) (w:World) (M:List Nat) (ao:Option Addr) (cap:Nat) (xs:List Int):Prop :=
 Own (rInt k) T w M ao cap xs∨(xs.length=cap∧∃ g,ao=some ⟨g,0,none⟩∧g∈M∧g < w.heap.size∧RSl (rInt k) T w (butL g w) ao cap xs)
section
variable {P:Program} {n d:Nat} {ops:Array Oper} {Q:Exit→Act→World→Prop} {a:Act} {env:List (Nat×Value)} {rest:List Oper} {dd:Option Tmp} {ty:TypeId} {pos:String} {af:Array Edge} {gd:Option (Nat×Bool)}
variable {k:IntKind} {T:TypeId} {w w':World} {M M' gs:List Nat} {ao:Option Addr} {cap:Nat} {xs:List Int}
theorem OwnW.own (h:Own (rInt k) T w M ao cap xs):OwnW k T w M ao cap xs:=.inl h
theorem OwnW.chg (h:OwnW k T w M ao cap xs) (hc:Chg gs w w') (ho:Ok gs M w.heap.size) (hm:Ok M' M w.heap.size) (hn:∀ g∈blkL ao,g∉gs) (hM:∀ g∈blkL ao,g∈M'):OwnW k T w' M' ao cap xs:=by
 rcases h with h | ⟨h1,g,rfl,h2,h3,h4⟩
 ·exact .inl (h.chg hc ho hm hn hM)
 ·have hg:g∈blkL (some (⟨g,0,none⟩:Addr)):=by simp [blkL]
  exact .inr ⟨h1,g,rfl,hM g hg,Nat.lt_of_lt_of_le h3 hc.size,h4.chg hc (butL_ok fun x hx e=>hn g hg (e ▸ hx)) butL_chg⟩
theorem OwnW.toRSl (h:OwnW k T w M ao cap xs) (hm:Ok M' M w.heap.size) (hn:∀ g∈blkL ao,g∉M'):RSl (rInt k) T w M' ao cap xs:=by
 rcases h with h | ⟨h1,g,rfl,h2,h3,h4⟩
 ·exact h.toRSl hm hn
 ·have hg:g∈blkL (some (⟨g,0,none⟩:Addr)):=by simp [blkL]
  exact h4.chg (Chg.refl [] w) (Ok.nil _ _) (butL_ok fun x hx e=>hn g hg (e ▸ hx))
theorem OwnW.src (h:OwnW k T w M ao cap xs):Src (rInt k) T w [] ao cap xs:=(h.toRSl (M':=[]) (Ok.nil _ _) (fun _ _ h=>nomatch h)).src
end
end Go.E
