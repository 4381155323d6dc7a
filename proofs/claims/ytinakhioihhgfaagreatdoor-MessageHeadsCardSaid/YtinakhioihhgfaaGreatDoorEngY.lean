/- The rules by which these proofs step through the code, part Y. -/
import Derived.Test.YtinakhioihhgfaaGreatDoorEngQ
import Derived.Shelf.SlSortCmp.KitK
set_option linter.unusedVariables false
set_option linter.unusedSimpArgs false
namespace Go.E
open Go.RowKit Go.Sort Go.Proofs
/-! rows of flat elements: as the kit's sort wants them, and back -/
structure Flat {α:Type} (r:Rep α) (enc:α→List Value):Prop where
 iff:∀ w M cs x,r.R w M cs x↔cs=enc x
section
variable {α:Type} {r:Rep α} {enc:α→List Value}
theorem RL.flat (hf:Flat r enc) {w:World} {M:List Nat}:∀ {xs:List α} {cs:List Value},RL r w M cs xs↔cs=xs.flatMap enc
 | [],cs=>Iff.rfl
 | x::xs,cs=>by
  constructor
  ·rintro ⟨c1,c2,rfl,h1,h2⟩
   rw [List.flatMap_cons,(hf.iff _ _ _ _).1 h1,(RL.flat hf).1 h2]
  ·rintro rfl
   exact ⟨enc x,xs.flatMap enc,rfl,(hf.iff _ _ _ _).2 rfl,(RL.flat hf).2 rfl⟩
theorem flat_get [Inhabited α] {k:Nat} (hk:∀ x,(enc x).length=k):∀ (xs:List α) (t:Nat),t < xs.length*k→(xs.flatMap enc)[t]? = some (enc xs[t / k]!)[t % k]!
  | [],t,h=>by simp at h
  | x::xs,t,h=>by
    have k0 : 0 < k := by rcases Nat.eq_zero_or_pos k with e | e; · subst e; simp at h
                          · exact e
    rw [List.flatMap_cons]
    by_cases ht:t < k
    · rw [List.getElem?_append_left (by rw [hk];exact ht),Nat.div_eq_of_lt ht,Nat.mod_eq_of_lt ht]
      have hl:t < (enc x).length:=by rw [hk];exact ht
      simp [hl]
    · have hle:k≤t:=by omega
      rw [List.getElem?_append_right (by rw [hk];exact hle),hk,flat_get hk xs (t - k) (by rw [List.length_cons,Nat.add_mul,Nat.one_mul] at h;omega)]
      have e1:t / k=(t - k) / k+1:=by rw [← Nat.add_div_right _ k0,Nat.sub_add_cancel hle]
      have e2:t % k=(t - k) % k:=by rw [← Nat.add_mod_right (t - k) k,Nat.sub_add_cancel hle]
      rw [e1,e2]
      simp
theorem Own.holds [Inhabited α] (hf:Flat r enc) {k:Nat} (hz:r.sz=k) (hk:∀ x,(enc x).length=k) {T:TypeId} {w:World} {M:List Nat} {g cap:Nat} {xs:List α} (h:Own r T w M (some ⟨g,0,none⟩) cap xs):HoldsK enc k w g 0 xs.toArray:=by
 rcases h with ⟨e,_⟩ | ⟨g',cur,e,hg,hb,h1,h2,h3,hl⟩
 ·cases e
 ·cases e
  intro j hj
  rw [size_flatK] at hj
  refine ⟨?_,frozen_of_row w g (0+j) cur T hb⟩
  rw [cell_of_row w g (0+j) cur T (0,0) hb,Nat.zero_add]
  have hj':j < xs.length*k:=by simpa using hj
  have e1:=(RL.flat hf).1 hl
  rw [hz] at e1
  have e2:cur[j]? = (xs.flatMap enc)[j]? := by rw [← e1,List.getElem?_take,if_pos hj',Array.getElem?_toList]
  rw [e2,flat_get hk xs j hj',get_flatK enc k xs.toArray j (by simpa using hj')]
  simp
end
def BoxT (T:TypeId) (w:World) (g:Nat) (cs:List Value):Prop:=w.heap[g]? = some (.cells cs.toArray T (0,0))
theorem BoxT.box {T:TypeId} {w:World} {g:Nat} {cs:List Value} (h:BoxT T w g cs):Box w g cs:=⟨T,h⟩
theorem BoxT.chg {T:TypeId} {w w':World} {g:Nat} {cs:List Value} {gs:List Nat} (h:BoxT T w g cs) (hc:Chg gs w w') (hn:g∉gs):BoxT T w' g cs:=hc.at h hn
section
variable {P:Program} {n d:Nat} {ops:Array Oper} {Q:Exit→Act→World→Prop} {w w':World} {a:Act} {env:Env} {rest:List Oper} {o:Oper} {v:Value}
 {dd:Option Tmp} {ty:TypeId} {pos:String} {af:Array Edge} {gd:Option (Nat×Bool)}
end
end Go.E
