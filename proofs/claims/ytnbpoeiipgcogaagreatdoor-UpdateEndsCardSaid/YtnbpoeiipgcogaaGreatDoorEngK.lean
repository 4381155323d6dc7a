/- The rules by which these proofs step through the code, part K. -/
import Derived.Test.YtnbpoeiipgcogaaGreatDoorEngJ
import Derived.Test.YtnbpoeiipgcogaaGreatDoorEngR
import Derived.Deep.LoopGhost
set_option linter.unusedVariables false
set_option linter.unusedSimpArgs false
namespace Go.E
open Go.RowKit
/-! rows of bytes that are written whole -/
structure Row where
 g:Option Nat
 len:Nat
 cap:Nat
def Row.ao (r:Row):Option Addr:=r.g.map fun g=>⟨g,0,none⟩
def Row.v (r:Row):Value:=.slice r.ao r.len r.cap
structure Rows (w:World) (gr:Nat) (rows:List Row):Prop where
 row:Box w gr (rows.map Row.v)
 cap:∀ r∈rows,r.len≤r.cap∧r.cap≤maxLen∧(r.g=none→r.cap=0)
 one:∀ (i j:Nat) (ri rj:Row) (g:Nat),rows[i]? = some ri→rows[j]? = some rj→ri.g=some g→rj.g=some g→i=j
 out:∀ r∈rows,r.g≠some gr
def gsOf (rows:List Row):List Nat:=rows.filterMap (·.g)
section
variable {P:Program} {n d:Nat} {ops:Array Oper} {Q:Exit→Act→World→Prop} {w w':World} {a:Act} {env:Env} {rest:List Oper} {o:Oper} {v:Value}
 {dd:Option Tmp} {ty:TypeId} {pos:String} {af:Array Edge} {gd:Option (Nat×Bool)}
end
theorem Rows.keep {w w':World} {gr:Nat} {rows:List Row} (h:Rows w gr rows) (hc:Chg (gsOf rows) w w'):Rows w' gr rows :=
 ⟨h.row.chg hc (fun hm=>by
  obtain ⟨r,hr,hg⟩:=List.mem_filterMap.1 hm
  exact h.out r hr hg),h.cap,h.one,h.out⟩
/-! bytes with a cell behind them, in which 77 stands -/
def Len (w:World) (M:List Nat) (ao:Option Addr) (cap:Nat) (xs:List Int):Prop :=
 ∃ g,ao=some ⟨g,0,none⟩∧g∈M∧cap=xs.length+1∧xs.length≤281474976710655∧Box w g (xs.map (.int .u8)++[.int .u8 77])
theorem Box.bytes {w:World} {g T:Nat} {xs:List Int} {tl:List Value} {M:List Nat} {cap:Nat} (h:Box w g (xs.map (.int .u8)++tl)) (hg:g∉M) (h1:xs.length≤cap) (h2:cap≤maxLen):RSl (rInt .u8) T w M (some ⟨g,0,none⟩) cap xs:=by
 obtain ⟨T',hb⟩:=h
 refine ⟨h1,h2,.inr ⟨g,0,_,(T',(0,0)),rfl,hg,hb,?_⟩⟩
 have:((xs.map (Value.int .u8)++tl).toArray.toList.drop 0).take (xs.length*(rInt .u8).sz)=xs.map (Value.int .u8):=by simp [rInt]
 rw [this]
 exact RL_int_mk xs
section
variable {w w':World} {M M' gs:List Nat} {ao:Option Addr} {cap:Nat} {xs:List Int}
theorem Len.chg (h:Len w M ao cap xs) (hc:Chg gs w w') (_:Ok gs M w.heap.size) (_:Ok M' M w.heap.size) (hn:∀ g∈blkL ao,g∉gs) (hM:∀ g∈blkL ao,g∈M'):Len w' M' ao cap xs:=by
 obtain ⟨g,rfl,_,h2,h3,hb⟩:=h
 exact ⟨g,rfl,hM g (by simp [blkL]),h2,h3,hb.chg hc (hn g (by simp [blkL]))⟩
theorem Len.toRSl {T:TypeId} (h:Len w M ao cap xs) (_:Ok M' M w.heap.size) (hn:∀ g∈blkL ao,g∉M'):RSl (rInt .u8) T w M' ao cap xs:=by
 have hm:maxLen=9223372036854775807:=rfl
 obtain ⟨g,rfl,_,h2,h3,hb⟩:=h
 exact hb.bytes (hn g (by simp [blkL])) (by omega) (by omega)
theorem Len.src {T:TypeId} (h:Len w M ao cap xs):Src (rInt .u8) T w M ao cap xs:=by
 have hm:maxLen=9223372036854775807:=rfl
 obtain ⟨g,rfl,_,h2,h3,hb⟩:=id h
 obtain ⟨h1,h2,h4⟩:=(hb.bytes (T:=T) (M:=[]) (cap:=cap) (by simp) (by omega) (by omega)).src
 refine ⟨h1,h2,h4.imp id fun ⟨g',o,cur,fr,e,hb',hl⟩=>⟨g',o,cur,fr,e,hb',?_⟩⟩
 rw [RL_int hl]
 exact RL_int_mk xs
theorem Own.re {α:Type} {r:Rep α} {T:TypeId} {xs:List α} (hf:∀ w M M' cs x,r.R w M cs x→r.R w M' cs x) (h:Own r T w M ao cap xs) (hM:∀ g∈blkL ao,g∈M'):Own r T w M' ao cap xs:=by
 rcases h with h | ⟨g,cur,rfl,hg,hb,h1,h2,h3,hl⟩
 ·exact .inl h
 ·refine .inr ⟨g,cur,rfl,hM g (by simp [blkL]),hb,h1,h2,h3,?_⟩
  generalize cur.toList.take (xs.length*r.sz)=cs at hl
  clear hb h1 h2
  induction xs generalizing cs with
  | nil=>exact hl
  | cons x xs ih =>
   obtain ⟨c1,c2,e,a1,a2⟩:=hl
   exact ⟨c1,c2,e,hf _ _ _ _ _ a1,ih _ a2⟩
def RowOk (w:World) (q:Option Addr×Nat×Nat):Prop :=
 (q.1=none∧q.2.1=0∧q.2.2=0)∨∃ g cur,q.1=some ⟨g,0,none⟩∧Box w g cur∧cur.length=q.2.2∧q.2.1≤q.2.2∧q.2.2≤maxLen
theorem RowOk.nil {w:World}:RowOk w (none,0,0):=.inl ⟨rfl,rfl,rfl⟩
theorem RowOk.chg {q:Option Addr×Nat×Nat} (h:RowOk w q) (hc:Chg [] w w'):RowOk w' q:=by
 rcases h with h | ⟨g,cur,h1,h2,h3⟩
 ·exact .inl h
 ·exact .inr ⟨g,cur,h1,h2.chg hc (by simp),h3⟩
end
theorem MS.rest {M M':List Nat} {w:World} (h:MS M w) (hs:∀ g∈M',g∈M):MS M' w:=fun g hg=>h g (hs g hg)
end Go.E
