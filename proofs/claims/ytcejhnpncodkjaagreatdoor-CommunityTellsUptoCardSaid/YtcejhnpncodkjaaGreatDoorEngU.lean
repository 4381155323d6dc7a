/- The rules by which these proofs step through the code, part U. -/
import Derived.Test.YtcejhnpncodkjaaGreatDoorEngO
import Derived.Lib.LaidTab
import Derived.Lib.Join
import Derived.Lib.IndexMore
import Derived.Sort.Grow
import Derived.Deep.Draws
import Derived.Shelf.Vars
set_option linter.unusedVariables false
set_option linter.unusedSimpArgs false
namespace Go.E
open Go.RowKit
/-! package-level variables that are read; the library's contracts in these proofs' words -/
theorem chg_below {w w':World} (h:Below w.heap.size w w'):Chg [] w w':=⟨h.os,h.tape,h.output,h.size,fun k hk _=>h.block k hk⟩
theorem chg_drewN (w:World) (n:Nat):Chg [] w (w.drewN n):=⟨rfl,rfl,rfl,Nat.le_refl _,fun _ _ _=>rfl⟩
theorem chg_grow (w:World) (n:Nat) (os:Array Obj):Chg [] w (Go.Sort.grow (w.drewN n) os):=by
 refine ⟨rfl,rfl,rfl,by simp [Go.Sort.grow,World.drewN],fun k hk _=>?_⟩
 simp only [Go.Sort.grow,World.drewN]
 rw [Array.getElem?_append_left hk]
theorem var_keep {P:Program} {w w':World} {name:String} {g:Nat} {cs:Array Value} {gs:List Nat} (hg:P.globalNamed name=some g) (h:w.var? P name=some cs) (hc:Chg gs w w') (hn:g∉gs):g < w.heap.size∧w'.var? P name=some cs:=by
 unfold World.var? at *
 rw [hg] at *
 simp only [Option.bind_some] at *
 cases hb:w.heap[g]? with
 | none=>simp [hb] at h
 | some o =>
  have hl:=lt_size hb
  refine ⟨hl,?_⟩
  rw [hc.block g hl hn]
  exact h
theorem var_lt {P:Program} {w:World} {name:String} {g:Nat} {cs:Array Value} (hg:P.globalNamed name=some g) (h:w.var? P name=some cs):g < w.heap.size:=(var_keep hg h (Chg.refl [] w) (by simp)).1
def TabOk (P:Program) (w:World) (M:List Nat) (name:String) (k:IntKind) (zs:List Int) (g:Nat):Prop:=Lib.TabIs P w name k zs∧g∉M
theorem TabOk.chg {P:Program} {w w':World} {M M' gs:List Nat} {name:String} {k:IntKind} {zs:List Int} {g:Nat} (hg:P.globalNamed name=some g) (h:TabOk P w M name k zs g) (hc:Chg gs w w') (ho:Ok gs M w.heap.size) (hm:Ok M' M w.heap.size):TabOk P w' M' name k zs g:=by
 have hl:=var_lt hg h.1
 exact ⟨(var_keep hg h.1 hc (notin_of_ok ho h.2 hl)).2,notin_of_ok hm h.2 hl⟩
theorem TabOk.cells {P:Program} {w:World} {M:List Nat} {name:String} {k:IntKind} {zs:List Int} {g n:Nat} (h:TabOk P w M name k zs g) (hg:P.globalNamed name=some g) (hn:zs.length=n):∀ j v,(cA k n zs)[j]? = some v→w.cell? ⟨g,0+j,none⟩=some v:=by
 intro j v hv
 have hj:j < n:=by
  have:=(List.getElem?_eq_some_iff.1 hv).1
  rw [cA_length] at this
  exact this
 have e:=arr_cell (k:=k) (m:=n) (i:=j) (x:=zs) ([]:List Value) [] (by simp:cA k n zs=[]++(cA k n zs++[])) hj
 simp only [List.length_nil,Nat.zero_add] at e
 rw [e] at hv
 rw [Nat.zero_add,h.1.cell hg j (by omega)]
 exact hv
def IntOk (w:World) (M:List Nat) (g:Nat):Prop:=(∃ m,w.cell? ⟨g,0,none⟩=some (.int .i64 m))∧g∉M
theorem IntOk.chg {w w':World} {M M' gs:List Nat} {g:Nat} (h:IntOk w M g) (hc:Chg gs w w') (ho:Ok gs M w.heap.size) (hm:Ok M' M w.heap.size):IntOk w' M' g:=by
 obtain ⟨⟨m,hm1⟩,hn⟩:=h
 obtain ⟨cur,T,fr,hb,_⟩:=cell_row' hm1
 have hl:=lt_size hb
 exact ⟨⟨m,cell_keep hc ho hn hm1⟩,notin_of_ok hm hn hl⟩
end Go.E
