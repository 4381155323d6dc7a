/- The rules by which these proofs step through the code, part B. -/
import Derived.Test.YtinakhioihhgfaaGreatDoorEngA
import Derived.Maps.AppendAt
set_option linter.unusedVariables false
set_option linter.unusedSimpArgs false
namespace Go.E
open Go.RowKit
/-! ### worlds -/
structure Chg (gs:List Nat) (w w':World):Prop where
 os:w'.os=w.os
 tape:w'.tape=w.tape
 output:w'.output=w.output
 size:w.heap.size≤w'.heap.size
 block:∀ k,k < w.heap.size→k∉gs→w'.heap[k]? = w.heap[k]?
def Ok (gs M:List Nat) (n:Nat):Prop:=∀ g∈gs,g∈M∨n≤g
theorem Ok.nil (M:List Nat) (n:Nat):Ok [] M n:=fun _ h=>by cases h
theorem Ok.refl (M:List Nat) (n:Nat):Ok M M n:=fun _ h=>.inl h
theorem Ok.cons {g:Nat} {gs M:List Nat} {n:Nat} (h:g∈M∨n≤g) (hs:Ok gs M n):Ok (g::gs) M n:=fun k hk=>by
 cases hk with
 | head=>exact h
 | tail _ hk=>exact hs k hk
theorem Ok.app {gs gs' M:List Nat} {n:Nat} (h:Ok gs M n) (h':Ok gs' M n):Ok (gs++gs') M n:=fun k hk=>by
 rcases List.mem_append.1 hk with hk | hk
 ·exact h k hk
 ·exact h' k hk
theorem Chg.refl (gs:List Nat) (w:World):Chg gs w w:=⟨rfl,rfl,rfl,Nat.le_refl _,fun _ _ _=>rfl⟩
theorem Chg.trans {gs gs':List Nat} {a b c:World} (h:Chg gs a b) (h':Chg gs' b c) (hs:Ok gs' gs a.heap.size):Chg gs a c :=
 ⟨h'.os.trans h.os,h'.tape.trans h.tape,h'.output.trans h.output,Nat.le_trans h.size h'.size,fun k hk hn =>
  (h'.block k (Nat.lt_of_lt_of_le hk h.size) (fun hm=>(hs k hm).elim hn (fun hle=>absurd hk (Nat.not_lt.2 hle)))).trans (h.block k hk hn)⟩
theorem Chg.mono {gs gs':List Nat} {a b:World} (h:Chg gs a b) (hs:Ok gs gs' a.heap.size):Chg gs' a b :=
 ⟨h.os,h.tape,h.output,h.size,fun k hk hn=>h.block k hk (fun hm=>(hs k hm).elim hn (fun hle=>absurd hk (Nat.not_lt.2 hle)))⟩
theorem Chg.grown {w w':World} {row:Option Nat} (h:w.grownBy w' row):Chg row.toList w w' :=
 ⟨h.os,h.tape,h.output,h.size,fun k hk hn=>h.block k hk (fun e=>hn (by rw [← e];simp))⟩
theorem Chg.drew {gs:List Nat} {a b:World} (h:Chg gs a b) (n:Nat):Chg gs a { b with drawn:=n }:=⟨h.os,h.tape,h.output,h.size,h.block⟩
theorem Chg.below {w w':World} (h:Chg [] w w'):Below w.heap.size w w':=⟨h.os,h.tape,h.output,h.size,fun k hk=>h.block k hk (by simp)⟩
theorem Chg.at {gs:List Nat} {w w':World} (h:Chg gs w w') {k:Nat} {o:Obj} (hk:w.heap[k]? = some o) (hn:k∉gs):w'.heap[k]? = some o:=by
 rw [h.block k (Array.getElem?_eq_some_iff.1 hk).1 hn];exact hk
theorem lt_size {w:World} {k:Nat} {o:Obj} (hk:w.heap[k]? = some o):k < w.heap.size:=(Array.getElem?_eq_some_iff.1 hk).1
def MS (M:List Nat) (w:World):Prop:=∀ g∈M,g < w.heap.size
theorem MS.nil (w:World):MS [] w:=fun _ h=>by cases h
theorem MS.cons {g:Nat} {M:List Nat} {w:World} (h:g < w.heap.size) (hs:MS M w):MS (g::M) w:=fun k hk=>by
 cases hk with
 | head=>exact h
 | tail _ hk=>exact hs k hk
theorem MS.app {M M':List Nat} {w:World} (h:MS M w) (h':MS M' w):MS (M++M') w:=fun k hk=>(List.mem_append.1 hk).elim (h k) (h' k)
theorem MS.chg {M gs:List Nat} {w w':World} (h:MS M w) (hc:Chg gs w w'):MS M w':=fun g hg=>Nat.lt_of_lt_of_le (h g hg) hc.size
def blkL:Option Addr→List Nat
 | some a=>[a.block]
 | none=>[]
/-! ### how data lie in memory -/
structure Rep (α:Type) where
 sz:Nat
 R:World→List Nat→List Value→α→Prop
 len:∀ {w M cs x},R w M cs x→cs.length=sz
 one:∀ {w M cs x},R w M cs x→∀ u∈cs,u.oneCell'=true
 chg:∀ {w w' gs M M' cs x},R w M cs x→Chg gs w w'→Ok gs M w.heap.size→Ok M' M w.heap.size→R w' M' cs x
theorem take_mul {c1 c2:List Value} {i n:Nat} (h:c1.length=n):(c1++c2).take ((i+1)*n)=c1++c2.take (i*n):=by
 subst h
 rw [Nat.add_mul,Nat.one_mul,Nat.add_comm,List.take_append,List.take_of_length_le (Nat.le_add_right _ _),Nat.add_sub_cancel_left]
def RL {α:Type} (r:Rep α) (w:World) (M:List Nat):List Value→List α→Prop
 | cs,[]=>cs=[]
 | cs,x::xs=>∃ c1 c2,cs=c1++c2∧r.R w M c1 x∧RL r w M c2 xs
section
variable {α:Type} {r:Rep α} {w w':World} {M M' gs:List Nat}
theorem RL.len {cs:List Value} {xs:List α} (h:RL r w M cs xs):cs.length=xs.length*r.sz:=by
 induction xs generalizing cs with
 | nil=>rw [show cs=[] from h];simp
 | cons x xs ih =>
  obtain ⟨c1,c2,rfl,h1,h2⟩:=h
  rw [List.length_append,r.len h1,ih h2,List.length_cons,Nat.add_mul,Nat.one_mul,Nat.add_comm]
theorem RL.one {cs:List Value} {xs:List α} (h:RL r w M cs xs):∀ u∈cs,u.oneCell'=true:=by
 induction xs generalizing cs with
 | nil=>rw [show cs=[] from h];simp
 | cons x xs ih =>
  obtain ⟨c1,c2,rfl,h1,h2⟩:=h
  intro u hu
  rcases List.mem_append.1 hu with hu | hu
  ·exact r.one h1 u hu
  ·exact ih h2 u hu
theorem RL.chg {cs:List Value} {xs:List α} (h:RL r w M cs xs) (hc:Chg gs w w') (ho:Ok gs M w.heap.size) (hm:Ok M' M w.heap.size):RL r w' M' cs xs:=by
 induction xs generalizing cs with
 | nil=>exact h
 | cons x xs ih =>
  obtain ⟨c1,c2,rfl,h1,h2⟩:=h
  exact ⟨c1,c2,rfl,r.chg h1 hc ho hm,ih h2⟩
theorem RL.append {cs ds:List Value} {xs ys:List α} (h:RL r w M cs xs) (h':RL r w M ds ys):RL r w M (cs++ds) (xs++ys):=by
 induction xs generalizing cs with
 | nil=>rw [show cs=[] from h];exact h'
 | cons x xs ih =>
  obtain ⟨c1,c2,rfl,h1,h2⟩:=h
  exact ⟨c1,c2++ds,by simp,h1,ih h2⟩
theorem RL.get {cs:List Value} {xs:List α} (h:RL r w M cs xs) (i:Nat) (hi:i < xs.length):r.R w M ((cs.drop (i*r.sz)).take r.sz) xs[i]:=by
 induction xs generalizing cs i with
 | nil=>simp at hi
 | cons x xs ih =>
  obtain ⟨c1,c2,rfl,h1,h2⟩:=h
  cases i with
  | zero =>
   simp only [Nat.zero_mul,List.drop_zero,List.getElem_cons_zero]
   rw [← r.len h1,List.take_left]
   exact h1
  | succ i =>
   simp only [List.getElem_cons_succ]
   have e:(c1++c2).drop ((i+1)*r.sz)=c2.drop (i*r.sz):=by
    rw [Nat.add_mul,Nat.one_mul,Nat.add_comm,← List.drop_drop,← r.len h1,List.drop_left]
   rw [e]
   exact ih h2 i (by simpa using hi)
theorem RL.drop {cs:List Value} {xs:List α} (h:RL r w M cs xs) (i:Nat):RL r w M (cs.drop (i*r.sz)) (xs.drop i):=by
 induction i generalizing cs xs with
 | zero=>simpa using h
 | succ i ih =>
  cases xs with
  | nil=>rw [show cs=[] from h];simp [RL]
  | cons x xs =>
   obtain ⟨c1,c2,rfl,h1,h2⟩:=h
   have e:(c1++c2).drop ((i+1)*r.sz)=c2.drop (i*r.sz):=by
    rw [Nat.add_mul,Nat.one_mul,Nat.add_comm,← List.drop_drop,← r.len h1,List.drop_left]
   rw [e]
   exact ih h2
theorem RL.take {cs:List Value} {xs:List α} (h:RL r w M cs xs) (i:Nat):RL r w M (cs.take (i*r.sz)) (xs.take i):=by
 induction i generalizing cs xs with
 | zero=>simp [RL]
 | succ i ih =>
  cases xs with
  | nil=>rw [show cs=[] from h];simp [RL]
  | cons x xs =>
   obtain ⟨c1,c2,rfl,h1,h2⟩:=h
   rw [take_mul (r.len h1)]
   exact ⟨c1,_,rfl,h1,ih h2⟩
theorem RL.set {cs:List Value} {xs:List α} (h:RL r w M cs xs) (i:Nat) (hi:i < xs.length) {c:List Value} {x:α} (hx:r.R w M c x) :
  RL r w M (cs.take (i*r.sz)++c++cs.drop (i*r.sz+r.sz)) (xs.set i x):=by
 induction xs generalizing cs i with
 | nil=>simp at hi
 | cons y ys ih =>
  obtain ⟨c1,c2,rfl,h1,h2⟩:=h
  cases i with
  | zero =>
   simp only [Nat.zero_mul,List.take_zero,List.nil_append,Nat.zero_add,List.set_cons_zero]
   refine ⟨c,c2,?_,hx,h2⟩
   rw [← r.len h1,List.drop_left]
  | succ i =>
   have e1:=take_mul (c2:=c2) (i:=i) (r.len h1)
   have e2:(c1++c2).drop ((i+1)*r.sz+r.sz)=c2.drop (i*r.sz+r.sz):=by
    have:(i+1)*r.sz+r.sz=c1.length+(i*r.sz+r.sz):=by rw [r.len h1,Nat.add_mul];omega
    rw [this,← List.drop_drop,List.drop_left]
   rw [e1,e2]
   simp only [List.set_cons_succ]
   exact ⟨c1,_,by simp,h1,ih h2 i (by simpa using hi)⟩
end
def rInt (k:IntKind):Rep Int where
 sz:=1
 R _ _ cs x:=cs=[.int k x]
 len h:=by rw [h];rfl
 one h:=by rw [h];simp;rfl
 chg h _ _ _:=h
def rBool:Rep Bool where
 sz:=1
 R _ _ cs x:=cs=[.bool x]
 len h:=by rw [h];rfl
 one h:=by rw [h];simp;rfl
 chg h _ _ _:=h
def bstr (l:List UInt8):ByteArray:=⟨l.toArray⟩
def rStr:Rep (List UInt8) where
 sz:=1
 R _ _ cs x:=cs=[.string (bstr x)]
 len h:=by rw [h];rfl
 one h:=by rw [h];simp;rfl
 chg h _ _ _:=h
def ar (x:List Int) (i:Nat):Int:=x.getD i 0
def cA (k:IntKind) (n:Nat) (x:List Int):List Value:=(List.range n).map fun i=>.int k (ar x i)
def rArr (k:IntKind) (n:Nat):Rep (List Int) where
 sz:=n
 R _ _ cs x:=cs=cA k n x
 len h:=by rw [h,cA,List.length_map,List.length_range]
 one h:=by rw [h];intro u hu;obtain ⟨_,_,rfl⟩:=List.mem_map.1 hu;rfl
 chg h _ _ _:=h
def rPair {α β:Type} (a:Rep α) (b:Rep β):Rep (α×β) where
 sz:=a.sz+b.sz
 R w M cs x:=∃ c1 c2,cs=c1++c2∧a.R w M c1 x.1∧b.R w M c2 x.2
 len h:=by obtain ⟨c1,c2,rfl,h1,h2⟩:=h;rw [List.length_append,a.len h1,b.len h2]
 one h:=by
  obtain ⟨c1,c2,rfl,h1,h2⟩:=h
  intro u hu
  rcases List.mem_append.1 hu with hu | hu
  ·exact a.one h1 u hu
  ·exact b.one h2 u hu
 chg h hc ho hm:=by
  obtain ⟨c1,c2,rfl,h1,h2⟩:=h
  exact ⟨c1,c2,rfl,a.chg h1 hc ho hm,b.chg h2 hc ho hm⟩
def rIso {α β:Type} (f:α→β) (b:Rep β):Rep α where
 sz:=b.sz
 R w M cs x:=b.R w M cs (f x)
 len h:=b.len h
 one h:=b.one h
 chg h hc ho hm:=b.chg h hc ho hm
def RSl {α:Type} (r:Rep α) (T:TypeId) (w:World) (M:List Nat) (ao:Option Addr) (cap:Nat) (xs:List α):Prop :=
 xs.length≤cap∧cap≤maxLen∧(xs=[]∨∃ (g o:Nat) (cur:Array Value) (fr:TypeId×(Nat×Nat)),ao=some ⟨g,o,none⟩∧g∉M∧w.heap[g]? = some (.cells cur fr.1 fr.2)∧RL r w M ((cur.toList.drop o).take (xs.length*r.sz)) xs)
theorem notin_of_ok {gs M:List Nat} {n g:Nat} (ho:Ok gs M n) (hM:g∉M) (hn:g < n):g∉gs:=fun h=>(ho g h).elim hM (fun hle=>absurd hn (Nat.not_lt.2 hle))
theorem RSl.chg {α:Type} {r:Rep α} {T:TypeId} {w w':World} {M M' gs:List Nat} {ao:Option Addr} {cap:Nat} {xs:List α} (h:RSl r T w M ao cap xs)
  (hc:Chg gs w w') (ho:Ok gs M w.heap.size) (hm:Ok M' M w.heap.size):RSl r T w' M' ao cap xs:=by
 obtain ⟨h1,h2,h3⟩:=h
 refine ⟨h1,h2,?_⟩
 rcases h3 with h3 | ⟨g,o,cur,fr,e,hg,hb,hl⟩
 ·exact .inl h3
 ·have hs:=lt_size hb
  exact .inr ⟨g,o,cur,fr,e,notin_of_ok hm hg hs,hc.at hb (notin_of_ok ho hg hs),hl.chg hc ho hm⟩
def rSl {α:Type} (T:TypeId) (r:Rep α):Rep (List α) where
 sz:=1
 R w M cs xs:=∃ ao cap,cs=[.slice ao xs.length cap]∧RSl r T w M ao cap xs
 len h:=by obtain ⟨_,_,rfl,_⟩:=h;rfl
 one h:=by obtain ⟨_,_,rfl,_⟩:=h;simp;rfl
 chg h hc ho hm:=by
  obtain ⟨ao,cap,rfl,h⟩:=h
  exact ⟨ao,cap,rfl,h.chg hc ho hm⟩
theorem RSl.nil {α:Type} {r:Rep α} {T:TypeId} {w:World} {M:List Nat} {ao:Option Addr} {cap:Nat} (hc:cap≤maxLen):RSl r T w M ao cap []:=⟨Nat.zero_le _,hc,.inl rfl⟩
def Src {α:Type} (r:Rep α) (T:TypeId) (w:World) (M:List Nat) (ao:Option Addr) (cap:Nat) (xs:List α):Prop :=
 xs.length≤cap∧cap≤maxLen∧(xs=[]∨∃ (g o:Nat) (cur:Array Value) (fr:TypeId×(Nat×Nat)),ao=some ⟨g,o,none⟩∧w.heap[g]? = some (.cells cur fr.1 fr.2)∧RL r w M ((cur.toList.drop o).take (xs.length*r.sz)) xs)
theorem RSl.src {α:Type} {r:Rep α} {T:TypeId} {w:World} {M:List Nat} {ao:Option Addr} {cap:Nat} {xs:List α} (h:RSl r T w M ao cap xs):Src r T w M ao cap xs:=by
 obtain ⟨h1,h2,h3⟩:=h
 exact ⟨h1,h2,h3.imp id fun ⟨g,o,cur,fr,e,_,hb,hl⟩=>⟨g,o,cur,fr,e,hb,hl⟩⟩
theorem RSl.elem {α:Type} {r:Rep α} {T:TypeId} {w:World} {M:List Nat} {ao:Option Addr} {cap:Nat} {xs:List α} (h:RSl r T w M ao cap xs) (i:Nat) (hi:i < xs.length) :
  ∃ g o cs,ao=some ⟨g,o,none⟩∧g∉M∧r.R w M cs xs[i]∧∀ j v,cs[j]? = some v→w.cell? ⟨g,o+i*r.sz+j,none⟩=some v:=by
 obtain ⟨_,_,h3⟩:=h
 rcases h3 with rfl | ⟨g,o,cur,fr,e,hg,hb,hl⟩
 ·simp at hi
 ·refine ⟨g,o,_,e,hg,hl.get i hi,?_⟩
  intro j v hv
  rw [cell_of_row w g _ cur fr.1 fr.2 hb]
  rw [List.getElem?_take] at hv
  split at hv
  ·rw [List.getElem?_drop,List.getElem?_take] at hv
   split at hv
   ·rw [List.getElem?_drop] at hv
    rw [← Array.getElem?_toList,show o+i*r.sz+j=o+(i*r.sz+j) by omega]
    exact hv
   ·cases hv
  ·cases hv
theorem RSl.slice {α:Type} {r:Rep α} {T:TypeId} {w:World} {M:List Nat} {ao:Option Addr} {cap:Nat} {xs:List α} (h:RSl r T w M ao cap xs) (l k:Nat) (hlk:l≤k) (hk:k≤xs.length) :
  RSl r T w M (if cap=l then ao else ao.map (·.add (l*r.sz))) (cap - l) ((xs.take k).drop l):=by
 obtain ⟨h1,h2,h3⟩:=h
 refine ⟨by simp;omega,Nat.le_trans (Nat.sub_le _ _) h2,?_⟩
 rcases h3 with rfl | ⟨g,o,cur,fr,e,hg,hb,hl⟩
 ·exact .inl (by simp)
 ·by_cases hc:cap=l
  ·refine .inl ?_
   apply List.eq_nil_of_length_eq_zero
   simp;omega
  ·refine .inr ⟨g,o+l*r.sz,cur,fr,?_,hg,hb,?_⟩
   ·rw [if_neg hc,e,Option.map_some,Addr.add_lit]
   ·have:=(hl.take k).drop l
    have e:((List.take (xs.length*r.sz) (List.drop o cur.toList)).take (k*r.sz)).drop (l*r.sz)=List.take (((xs.take k).drop l).length*r.sz) (List.drop (o+l*r.sz) cur.toList):=by
     have hl1:((xs.take k).drop l).length=k - l:=by simp;omega
     rw [hl1,List.take_take,Nat.min_eq_left (Nat.mul_le_mul_right _ hk),List.drop_take,List.drop_drop,← Nat.sub_mul]
    rw [e] at this
    exact this
def Own {α:Type} (r:Rep α) (T:TypeId) (w:World) (M:List Nat) (ao:Option Addr) (cap:Nat) (xs:List α):Prop :=
 (ao=none∧xs=[]∧cap=0) ∨
 ∃ g cur,ao=some ⟨g,0,none⟩∧g∈M∧w.heap[g]? = some (.cells cur T (0,0))∧cur.size=cap*r.sz∧xs.length≤cap∧cap≤maxLen∧RL r w M (cur.toList.take (xs.length*r.sz)) xs
section
variable {α:Type} {r:Rep α} {T:TypeId} {w w':World} {M M' gs:List Nat} {ao:Option Addr} {cap:Nat} {xs:List α}
theorem Own.nil:Own r T w M none 0 []:=.inl ⟨rfl,rfl,rfl⟩
theorem Own.lt (h:Own r T w M ao cap xs):∀ g∈blkL ao,g < w.heap.size:=by
 intro g hg
 rcases h with ⟨rfl,_,_⟩ | ⟨g',cur,rfl,_,hb,_⟩
 ·cases hg
 ·simp [blkL] at hg;subst hg;exact lt_size hb
theorem Own.chg (h:Own r T w M ao cap xs) (hc:Chg gs w w') (ho:Ok gs M w.heap.size) (hm:Ok M' M w.heap.size) (hn:∀ g∈blkL ao,g∉gs) (hM:∀ g∈blkL ao,g∈M'):Own r T w' M' ao cap xs:=by
 rcases h with h | ⟨g,cur,rfl,hg,hb,h1,h2,h3,hl⟩
 ·exact .inl h
 ·exact .inr ⟨g,cur,rfl,hM g (by simp [blkL]),hc.at hb (hn g (by simp [blkL])),h1,h2,h3,hl.chg hc ho hm⟩
theorem Own.toRSl (h:Own r T w M ao cap xs) (hm:Ok M' M w.heap.size) (hn:∀ g∈blkL ao,g∉M'):RSl r T w M' ao cap xs:=by
 rcases h with ⟨rfl,rfl,rfl⟩ | ⟨g,cur,rfl,hg,hb,h1,h2,h3,hl⟩
 ·exact RSl.nil (Nat.zero_le _)
 ·refine ⟨h2,h3,.inr ⟨g,0,cur,(_,(0,0)),rfl,hn g (by simp [blkL]),hb,?_⟩⟩
  rw [List.drop_zero]
  exact hl.chg (Chg.refl [] w) (Ok.nil _ _) hm
theorem Own.src (h:Own r T w M ao cap xs):Src r T w M ao cap xs:=by
 rcases h with ⟨rfl,rfl,rfl⟩ | ⟨g,cur,rfl,hg,hb,h1,h2,h3,hl⟩
 ·exact ⟨Nat.zero_le _,Nat.zero_le _,.inl rfl⟩
 ·exact ⟨h2,h3,.inr ⟨g,0,cur,(_,(0,0)),rfl,hb,by rw [List.drop_zero];exact hl⟩⟩
theorem Own.row (h:Own r T w M ao cap xs):∃ cs,RL r w M cs xs∧w.ownsRow 0 T r.sz (.slice ao xs.length cap) xs.length cs∧(Value.slice ao xs.length cap).ownBlock.toList=blkL ao:=by
 rcases h with ⟨rfl,rfl,rfl⟩ | ⟨g,cur,rfl,hg,hb,h1,h2,h3,hl⟩
 ·exact ⟨[],rfl,World.ownsRow_nil _ _ _ _,rfl⟩
 ·exact ⟨_,hl,⟨hl.len,.inr ⟨g,cap,cur,rfl,Nat.zero_le _,hb,h2,h3,h1,rfl⟩⟩,rfl⟩
end
/-! ### the element types' rows in the program's table -/
structure ElemT (P:Program) (t e:TypeId) (sz bytes:Nat):Prop where
 under:P.underlying t=some (.slice e)
 info:∃ i z,P.info? e=some i∧i.zero=some z∧i.size=sz∧i.bytes=bytes∧z.cells.size=sz
 pos:0 < sz
def elemB (P:Program) (t e:TypeId) (sz bytes:Nat):Bool :=
 (match P.underlying t with | some (.slice e')=>e'==e | _=>false) &&
 (match P.info? e with | some i=>(match i.zero with | some z=>z.cells.size==sz | none=>false) && i.size==sz && i.bytes==bytes | none=>false) && Nat.blt 0 sz
theorem ElemT.mk' {P:Program} {t e:TypeId} {sz bytes:Nat} (h:elemB P t e sz bytes=true):ElemT P t e sz bytes:=by
 unfold elemB at h
 simp only [Bool.and_eq_true] at h
 obtain ⟨⟨h1,h2⟩,h3⟩:=h
 refine ⟨?_,?_,by simpa using h3⟩
 ·split at h1
  ·rename_i e' he;rw [he,show e'=e by simpa using h1]
  ·cases h1
 ·split at h2
  ·rename_i i hi
   simp only [Bool.and_eq_true,beq_iff_eq] at h2
   obtain ⟨⟨h4,h5⟩,h6⟩:=h2
   split at h4
   ·rename_i z hz
    exact ⟨i,z,hi,hz,h5,h6,by simpa using h4⟩
   ·cases h4
  ·cases h2
theorem run_append {P:Program} {α:Type} {r:Rep α} {t T:TypeId} {bytes:Nat} (ht:ElemT P t T r.sz bytes) (ty:TypeId) {w:World} {M:List Nat} {ao ao2:Option Addr} {cap cap2:Nat} {xs ys:List α}
  (h:Own r T w M ao cap xs) (h2:Src r T w M ao2 cap2 ys) (hb:(xs.length+ys.length)*bytes≤140737488355328) (h63:xs.length+ys.length≤maxLen) :
  ∃ ao' cap' w',(Builtin.append_ #[t,t] ty #[.slice ao xs.length cap,.slice ao2 ys.length cap2]).run P w=.ok (.slice ao' (xs++ys).length cap') w' ∧
   Own r T w' (blkL ao'++M) ao' cap' (xs++ys)∧Chg (blkL ao) w w'∧Ok (blkL ao') (blkL ao) w.heap.size∧(∀ g∈blkL ao',g < w'.heap.size):=by
 obtain ⟨i,z,hi,hz,hs,hby,hzs⟩:=ht.info
 obtain ⟨cs,hcs,hrow,hblk⟩:=h.row
 have src:∃ news,RL r w M news ys∧(∀ ad,ao2=some ad→∀ j u,news[j]? = some u→w.cell? (ad.add j)=some u)∧(ao2=none→ys=[]):=by
  obtain ⟨_,_,h3⟩:=h2
  rcases h3 with rfl | ⟨g,o,cur,fr,rfl,hb,hl⟩
  ·exact ⟨[],rfl,fun _ _ j u hu=>by simp at hu,fun _=>rfl⟩
  ·refine ⟨_,hl,?_,fun e=>by cases e⟩
   intro ad had j u hu
   obtain rfl:=Option.some.inj had
   rw [Addr.add_lit,cell_of_row w g _ cur fr.1 fr.2 hb]
   rw [List.getElem?_take] at hu
   split at hu
   ·rw [List.getElem?_drop] at hu;rw [← Array.getElem?_toList];exact hu
   ·cases hu
 obtain ⟨news,hnews,hcell,hnone⟩:=src
 cases ao2 with
 | none =>
  obtain rfl:=hnone rfl
  have hrun:(Builtin.append_ #[t,t] ty #[.slice ao xs.length cap,.slice none 0 cap2]).run P w=.ok (.slice ao xs.length cap) w:=by
   rcases hrow.2 with ⟨e,hn⟩ | ⟨g,cap',cur,e,_,_,hnc,_⟩
   ·simp only [Value.slice.injEq] at e
    obtain ⟨rfl,hx,rfl⟩:=e
    simp [Builtin.append_,run_underlying ht.under,sizeOf,typeInfo,hi,Builtin.lenOf,Builtin.firstCells,hx]
   ·simp only [Value.slice.injEq] at e
    obtain ⟨rfl,_,rfl⟩:=e
    simp [Builtin.append_,run_underlying ht.under,sizeOf,typeInfo,hi,Builtin.lenOf,Builtin.firstCells,hnc,storeCells]
  refine ⟨ao,cap,w,by simpa using hrun,?_,Chg.refl _ _,Ok.refl _ _,h.lt⟩
  rw [List.append_nil]
  exact h.chg (Chg.refl [] w) (Ok.nil _ _) (Ok.app (fun g hg=>by
   rcases h with ⟨rfl,_,_⟩ | ⟨g',cur,rfl,hg',_⟩
   ·cases hg
   ·simp [blkL] at hg;subst hg;exact .inl hg') (Ok.refl _ _)) (fun _ _ hh=>by cases hh) (fun g hg=>List.mem_append_left _ hg)
 | some ad =>
  obtain ⟨v',w',hrun,hown,hgr,_,hat⟩:=run_append_own_at (P:=P) w 0 t ty T i z r.sz bytes ht.under hi hz hs hby hzs ht.pos (.slice ao xs.length cap) xs.length cs hrow ad ys.length cap2 news hnews.len (hcell ad rfl) hnews.one h63 hb (Nat.zero_le _)
  have hchg:Chg (blkL ao) w w':=by
   have:=Chg.grown hgr
   rwa [hblk] at this
  have hok:Ok (blkL ao) M w.heap.size:=fun g hg=>by
   rcases h with ⟨rfl,_,_⟩ | ⟨g',cur,rfl,hg',_⟩
   ·cases hg
   ·simp [blkL] at hg;subst hg;exact .inl hg'
  obtain ⟨hlen,hcase⟩:=hown
  rcases hcase with ⟨rfl,hz0⟩ | ⟨g,cap',cur,rfl,_,hhb,hnc,hcm,hsz,htk⟩
  ·have hx:xs=[]:=List.eq_nil_of_length_eq_zero (by omega)
   have hy:ys=[]:=List.eq_nil_of_length_eq_zero (by omega)
   subst hx;subst hy
   exact ⟨none,0,w',by simpa using hrun,Own.nil,hchg,Ok.nil _ _,fun _ hh=>by cases hh⟩
  ·have hblk':Ok [g] (blkL ao) w.heap.size:=by
    intro k hk
    simp at hk;subst hk
    rcases hat with e | e
    ·refine .inl ?_
     rw [← hblk,← e];simp [Value.ownBlock]
    ·simp [Value.ownBlock] at e;subst e;exact .inr (Nat.le_refl _)
   refine ⟨some ⟨g,0,none⟩,cap',w',by rw [List.length_append];exact hrun,.inr ⟨g,cur,rfl,by simp [blkL],hhb,hsz,by rw [List.length_append];exact hnc,hcm,?_⟩,hchg,hblk',?_⟩
   ·rw [List.length_append,htk]
    refine (hcs.append hnews).chg hchg hok (Ok.app ?_ (Ok.refl _ _))
    intro k hk
    rcases hblk' k hk with hk | hk
    ·exact hok k hk
    ·exact .inr hk
   ·intro k hk;simp [blkL] at hk;subst hk;exact lt_size hhb
end Go.E
