/- What the functions that the law reaches compute, and the walks that show it. -/
import Derived.Test.YtokpdmehkfmmiaaEngP
import Derived.Test.YtokpdmehkfmmiaaEngO
import Derived.Test.YtokpdmehkfmmiaaEngQ
import Derived.Test.YtokpdmehkfmmiaaEngY
import Derived.Test.YtokpdmehkfmmiaaEngZ
import Derived.Test.YtokpdmehkfmmiaaProg
import Derived.Test.YtokpdmehkfmmiaaGenDecideStaysP0
set_option linter.unusedVariables false
set_option linter.unusedSimpArgs false
namespace Go.E
open Go.RowKit Go.Proofs
section
variable {α β:Type}
def swp (l:List α) (i j:Nat):List α:=match l[i]?,l[j]? with
  | some x,some y=>(l.set i y).set j x
  | _,_=>l
def swR (l:List α) (a b:Nat):Nat→List α
  | 0=>l
  | n+1=>swR (swp l a b) (a+1) (b+1) n
def rotF:Nat→List α→Nat→Nat→Nat→List α
  | 0,l,_,_,_=>l
  | f+1,l,m,i,j=>if i=j then swR l (m - i) m i else if j < i then rotF f (swR l (m - i) m j) m (i - j) j else rotF f (swR l (m - i) (m+j - i) i) m i (j - i)
def bsF (p:Nat→Bool):Nat→Nat→Nat→Nat
  | 0,i,_=>i
  | f+1,i,j=>if i < j then (if p ((i+j) / 2) then bsF p f ((i+j) / 2+1) j else bsF p f i ((i+j) / 2)) else i
def ltA (lt:α→α→Bool) (l:List α) (i j:Nat):Bool:=match l[i]?,l[j]? with
  | some x,some y=>lt x y
  | _,_=>false
def upF (l:List α) (a:Nat):Nat→List α
  | 0=>l
  | n+1=>upF (swp l a (a+1)) (a+1) n
def dnF (l:List α) (m:Nat):Nat→List α
  | 0=>l
  | n+1=>dnF (swp l m (m - 1)) (m - 1) n
def symS (lt:α→α→Bool) (l:List α) (a m b:Nat):Nat :=
  bsF (fun c=>!ltA lt l ((a+b) / 2+m - 1 - c) c) (b - a) (if (a+b) / 2 < m then (a+b) / 2+m - b else a) (if (a+b) / 2 < m then (a+b) / 2 else m)
def symF (lt:α→α→Bool):Nat→List α→Nat→Nat→Nat→List α
  | 0,l,_,_,_=>l
  | f+1,l,a,m,b =>
    if m=a+1 then upF l a (bsF (fun h=>ltA lt l h a) (b - m) m b - 1 - a)
    else if b=m+1 then dnF l m (m - bsF (fun h=>!ltA lt l m h) (m - a) a m)
    else
      let n:=(a+b) / 2+m
      let s:=symS lt l a m b
      let l1:=if s < m∧m < n - s then rotF (n - s - s) l m (m - s) (n - s - m) else l
      let l2:=if a < s∧s < (a+b) / 2 then symF lt f l1 a s ((a+b) / 2) else l1
      if (a+b) / 2 < n - s∧n - s < b then symF lt f l2 ((a+b) / 2) (n - s) b else l2
def insJ (lt:α→α→Bool) (l:List α) (a:Nat):Nat→List α
  | 0=>l
  | j+1=>if a < j+1 && ltA lt l (j+1) j then insJ lt (swp l (j+1) j) a j else l
def insI (lt:α→α→Bool) (a:Nat):Nat→List α→Nat→List α
  | 0,l,_=>l
  | n+1,l,i=>insI lt a n (insJ lt l a i) (i+1)
def stF (lt:α→α→Bool) (l:List α):List α :=
  if l.length < 20 then insI lt 0 (l.length - 1) l 1
  else
    let l1:=insI lt 0 19 l 1
    let l2:=insI lt 20 (l.length - 21) l1 21
    if 20 < l.length then symF lt l.length l2 0 20 l.length else l2
/-! lengths -/
theorem swp_len (l:List α) (i j:Nat):(swp l i j).length=l.length:=by unfold swp;split<;>simp
theorem swR_len:∀ (n:Nat) (l:List α) (a b:Nat),(swR l a b n).length=l.length
  | 0,_,_,_=>rfl
  | n+1,l,a,b=>by unfold swR;rw [swR_len n,swp_len]
theorem rotF_len:∀ (f:Nat) (l:List α) (m i j:Nat),(rotF f l m i j).length=l.length
  | 0,_,_,_,_=>rfl
  | f+1,l,m,i,j=>by
    unfold rotF
    split
    · exact swR_len _ _ _ _
    · split<;>rw [rotF_len f,swR_len]
theorem upF_len:∀ (n:Nat) (l:List α) (a:Nat),(upF l a n).length=l.length
  | 0,_,_=>rfl
  | n+1,l,a=>by unfold upF;rw [upF_len n,swp_len]
theorem dnF_len:∀ (n:Nat) (l:List α) (a:Nat),(dnF l a n).length=l.length
  | 0,_,_=>rfl
  | n+1,l,a=>by unfold dnF;rw [dnF_len n,swp_len]
theorem symF_len (lt:α→α→Bool):∀ (f:Nat) (l:List α) (a m b:Nat),(symF lt f l a m b).length=l.length
  | 0,_,_,_,_=>rfl
  | f+1,l,a,m,b=>by
    unfold symF
    split
    · exact upF_len _ _ _
    · split
      · exact dnF_len _ _ _
      · simp only
        generalize symS lt l a m b=s
        by_cases h1:s < m∧m < (a+b) / 2+m - s<;>by_cases h2:a < s∧s < (a+b) / 2<;>by_cases h3:(a+b) / 2 < (a+b) / 2+m - s∧(a+b) / 2+m - s < b<;>simp only [h1,h2,h3,true_and,and_true,and_self,false_and,and_false,if_true,if_false,symF_len lt f,rotF_len]
theorem insJ_len (lt:α→α→Bool) (a:Nat):∀ (j:Nat) (l:List α),(insJ lt l a j).length=l.length
  | 0,_=>rfl
  | j + 1, l => by unfold insJ; split
                   · rw [insJ_len lt a j, swp_len]
                   · rfl
theorem insI_len (lt:α→α→Bool) (a:Nat):∀ (n:Nat) (l:List α) (i:Nat),(insI lt a n l i).length=l.length
  | 0,_,_=>rfl
  | n+1,l,i=>by unfold insI;rw [insI_len lt a n,insJ_len]
theorem stF_len (lt:α→α→Bool) (l:List α):(stF lt l).length=l.length:=by
  unfold stF
  simp only
  split
  · exact insI_len _ _ _ _ _
  · split
    · rw [symF_len,insI_len,insI_len]
    · rw [insI_len,insI_len]
/-! mapped -/
theorem swp_map (f:α→β) (l:List α) (i j:Nat):swp (l.map f) i j=(swp l i j).map f:=by
  unfold swp
  rw [List.getElem?_map,List.getElem?_map]
  cases l[i]? <;> cases l[j]? <;> simp
theorem swR_map (f:α→β):∀ (n:Nat) (l:List α) (a b:Nat),swR (l.map f) a b n=(swR l a b n).map f
  | 0,_,_,_=>rfl
  | n+1,l,a,b=>by unfold swR;rw [swp_map,swR_map f n]
theorem rotF_map (f:α→β):∀ (k:Nat) (l:List α) (m i j:Nat),rotF k (l.map f) m i j=(rotF k l m i j).map f
  | 0,_,_,_,_=>rfl
  | k+1,l,m,i,j=>by
    unfold rotF
    split
    · exact swR_map f _ _ _ _
    · split<;>rw [swR_map,rotF_map f k]
theorem upF_map (f:α→β):∀ (n:Nat) (l:List α) (a:Nat),upF (l.map f) a n=(upF l a n).map f
  | 0,_,_=>rfl
  | n+1,l,a=>by unfold upF;rw [swp_map,upF_map f n]
theorem dnF_map (f:α→β):∀ (n:Nat) (l:List α) (a:Nat),dnF (l.map f) a n=(dnF l a n).map f
  | 0,_,_=>rfl
  | n+1,l,a=>by unfold dnF;rw [swp_map,dnF_map f n]
theorem ltA_map (f:α→β) (lt:β→β→Bool) (l:List α) (i j:Nat):ltA lt (l.map f) i j=ltA (fun x y=>lt (f x) (f y)) l i j:=by
  unfold ltA
  rw [List.getElem?_map,List.getElem?_map]
  cases l[i]? <;> cases l[j]? <;> rfl
theorem symS_map (f:α→β) (lt:β→β→Bool) (l:List α) (a m b:Nat):symS lt (l.map f) a m b=symS (fun x y=>lt (f x) (f y)) l a m b:=by
  unfold symS
  simp only [ltA_map]
theorem symF_map (f:α→β) (lt:β→β→Bool):∀ (k:Nat) (l:List α) (a m b:Nat),symF lt k (l.map f) a m b=(symF (fun x y=>lt (f x) (f y)) k l a m b).map f
  | 0,_,_,_,_=>rfl
  | k+1,l,a,m,b=>by
    unfold symF
    simp only [ltA_map,symS_map]
    split
    · exact upF_map f _ _ _
    · split
      · exact dnF_map f _ _ _
      · generalize symS (fun x y=>lt (f x) (f y)) l a m b=s
        by_cases h1:s < m∧m < (a+b) / 2+m - s<;>by_cases h2:a < s∧s < (a+b) / 2<;>by_cases h3:(a+b) / 2 < (a+b) / 2+m - s∧(a+b) / 2+m - s < b<;>simp only [h1,h2,h3,true_and,and_true,and_self,false_and,and_false,if_true,if_false,symF_map f lt k,rotF_map]
theorem insJ_map (f:α→β) (lt:β→β→Bool) (a:Nat):∀ (j:Nat) (l:List α),insJ lt (l.map f) a j=(insJ (fun x y=>lt (f x) (f y)) l a j).map f
  | 0,_=>rfl
  | j+1,l=>by
    unfold insJ
    rw [ltA_map]
    split
    · rw [swp_map,insJ_map f lt a j]
    · rfl
theorem insI_map (f:α→β) (lt:β→β→Bool) (a:Nat):∀ (n:Nat) (l:List α) (i:Nat),insI lt a n (l.map f) i=(insI (fun x y=>lt (f x) (f y)) a n l i).map f
  | 0,_,_=>rfl
  | n+1,l,i=>by unfold insI;rw [insJ_map,insI_map f lt a n]
theorem stF_map (f:α→β) (lt:β→β→Bool) (l:List α):stF lt (l.map f)=(stF (fun x y=>lt (f x) (f y)) l).map f:=by
  unfold stF
  simp only [insI_map,symF_map,List.length_map]
  split
  · rfl
  · split<;>rfl
/-! members -/
theorem swp_mem {l:List α} {i j:Nat} {x:α} (h:x∈swp l i j):x∈l:=by
  unfold swp at h
  split at h
  · rename_i u v hu hv
    rcases List.mem_or_eq_of_mem_set h with h | rfl
    · rcases List.mem_or_eq_of_mem_set h with h | rfl
      · exact h
      · exact List.mem_of_getElem? hv
    · exact List.mem_of_getElem? hu
  · exact h
theorem swR_mem {x:α}:∀ (n:Nat) (l:List α) (a b:Nat),x∈swR l a b n→x∈l
  | 0,_,_,_,h=>h
  | n+1,l,a,b,h=>swp_mem (swR_mem n _ _ _ h)
theorem rotF_mem {x:α}:∀ (f:Nat) (l:List α) (m i j:Nat),x∈rotF f l m i j→x∈l
  | 0,_,_,_,_,h=>h
  | f+1,l,m,i,j,h=>by
    unfold rotF at h
    split at h
    · exact swR_mem _ _ _ _ h
    · split at h
      · exact swR_mem _ _ _ _ (rotF_mem f _ _ _ _ h)
      · exact swR_mem _ _ _ _ (rotF_mem f _ _ _ _ h)
theorem upF_mem {x:α}:∀ (n:Nat) (l:List α) (a:Nat),x∈upF l a n→x∈l
  | 0,_,_,h=>h
  | n+1,l,a,h=>swp_mem (upF_mem n _ _ h)
theorem dnF_mem {x:α}:∀ (n:Nat) (l:List α) (a:Nat),x∈dnF l a n→x∈l
  | 0,_,_,h=>h
  | n+1,l,a,h=>swp_mem (dnF_mem n _ _ h)
theorem symF_mem (lt:α→α→Bool) {x:α}:∀ (f:Nat) (l:List α) (a m b:Nat),x∈symF lt f l a m b→x∈l
  | 0,_,_,_,_,h=>h
  | f+1,l,a,m,b,h=>by
    unfold symF at h
    split at h
    · exact upF_mem _ _ _ h
    · split at h
      · exact dnF_mem _ _ _ h
      · simp only at h
        generalize symS lt l a m b=s at h
        have h1:∀ l',x∈(if a < s∧s < (a+b) / 2 then symF lt f l' a s ((a+b) / 2) else l')→x∈l':=fun l' h=>by
          split at h
          · exact symF_mem lt f _ _ _ _ h
          · exact h
        have h2:x∈(if s < m∧m < (a+b) / 2+m - s then rotF ((a+b) / 2+m - s - s) l m (m - s) ((a+b) / 2+m - s - m) else l)→x∈l:=fun h=>by
          split at h
          · exact rotF_mem _ _ _ _ _ h
          · exact h
        split at h
        · exact h2 (h1 _ (symF_mem lt f _ _ _ _ h))
        · exact h2 (h1 _ h)
theorem insJ_mem (lt:α→α→Bool) (a:Nat) {x:α}:∀ (j:Nat) (l:List α),x∈insJ lt l a j→x∈l
  | 0,_,h=>h
  | j+1,l,h=>by
    unfold insJ at h
    split at h
    · exact swp_mem (insJ_mem lt a j _ h)
    · exact h
theorem insI_mem (lt:α→α→Bool) (a:Nat) {x:α}:∀ (n:Nat) (l:List α) (i:Nat),x∈insI lt a n l i→x∈l
  | 0,_,_,h=>h
  | n+1,l,i,h=>insJ_mem lt a i _ (insI_mem lt a n _ _ h)
theorem bsF_done (p:Nat→Bool) {f i j:Nat} (h:¬ i < j):bsF p f i j=i:=by
  cases f with
  | zero=>rfl
  | succ f=>rw [bsF,if_neg h]
/-! splits -/
theorem swp_split (x:List α) (p:α) (y:List α) (q:α) (z:List α) (i j:Nat) (hi:i=x.length) (hj:j=x.length+1+y.length):swp (x++p::(y++q::z)) i j=x++q::(y++p::z):=by
  subst hi hj
  have h1:(x++p::(y++q::z))[x.length]? = some p:=by rw [List.getElem?_append_right (Nat.le_refl _),Nat.sub_self];rfl
  have h2:(x++p::(y++q::z))[x.length+1+y.length]? = some q:=by
    rw [List.getElem?_append_right (by omega),show x.length+1+y.length - x.length=y.length+1 by omega,List.getElem?_cons_succ,List.getElem?_append_right (Nat.le_refl _),Nat.sub_self];rfl
  unfold swp
  rw [h1,h2]
  simp only
  rw [List.set_append_right _ _ (Nat.le_refl _),Nat.sub_self,List.set_cons_zero,List.set_append_right _ _ (by omega),show x.length+1+y.length - x.length=y.length+1 by omega,List.set_cons_succ,List.set_append_right _ _ (Nat.le_refl _),Nat.sub_self,List.set_cons_zero]
theorem swp_split' (x:List α) (p:α) (q:α) (z:List α) (i j:Nat) (hi:i=x.length+1) (hj:j=x.length):swp (x++p::q::z) i j=x++q::p::z:=by
  subst hi hj
  have h1:(x++p::q::z)[x.length]? = some p:=by rw [List.getElem?_append_right (Nat.le_refl _),Nat.sub_self];rfl
  have h2:(x++p::q::z)[x.length+1]? = some q:=by
    rw [List.getElem?_append_right (by omega),show x.length+1 - x.length=1 by omega];rfl
  unfold swp
  rw [h1,h2]
  simp only
  rw [List.set_append_right _ _ (by omega),show x.length+1 - x.length=1 by omega,List.set_append_right _ _ (Nat.le_refl _),Nat.sub_self];rfl
theorem swR_split:∀ (n:Nat) (x u y v z:List α) (a b:Nat),u.length=n→v.length=n→a=x.length→b=x.length+n+y.length→swR (x++(u++(y++(v++z)))) a b n=x++(v++(y++(u++z)))
  | 0,x,u,y,v,z,a,b,hu,hv,_,_=>by
    rw [List.length_eq_zero_iff] at hu hv;subst hu hv;rfl
  | n+1,x,p::u,y,q::v,z,a,b,hu,hv,ha,hb=>by
    unfold swR
    have e:=swp_split x p (u++y) q (v++z) a b ha (by simp at hu ⊢;omega)
    simp only [List.cons_append,List.append_assoc] at e ⊢
    rw [e]
    have:=swR_split n (x++[q]) u (y++[p]) v z (a+1) (b+1) (by simpa using hu) (by simpa using hv) (by simp [ha]) (by simp;omega)
    simpa using this
theorem rotF_split:∀ (f:Nat) (x u v z:List α) (m i j:Nat),0 < i→0 < j→i+j≤f→u.length=i→v.length=j→m=x.length+i→rotF f (x++(u++(v++z))) m i j=x++(v++(u++z))
  | 0,_,_,_,_,_,_,_,hi,_,hf,_,_,_=>by omega
  | f+1,x,u,v,z,m,i,j,hi,hj,hf,hu,hv,hm=>by
    unfold rotF
    split
    · have:=swR_split i x u [] v z (m - i) m hu (by omega) (by omega) (by simp;omega)
      simpa using this
    · split
      · rename_i h1 h2
        have e:=swR_split j x (u.take j) (u.drop j) v z (m - i) m (by simp;omega) hv (by omega) (by simp;omega)
        rw [show u.take j++(u.drop j++(v++z))=u++(v++z) by rw [← List.append_assoc,List.take_append_drop]] at e
        rw [e]
        have:=rotF_split f (x++v) (u.drop j) (u.take j) z m (i - j) j (by omega) hj (by omega) (by simp;omega) (by simp;omega) (by simp;omega)
        rw [show x++(v++(u.drop j++(u.take j++z)))=(x++v)++(u.drop j++(u.take j++z)) by simp,this]
        rw [show u.take j++(u.drop j++z)=u++z by rw [← List.append_assoc,List.take_append_drop]];simp
      · rename_i h1 h2
        have e:=swR_split i x u (v.take (j - i)) (v.drop (j - i)) z (m - i) (m+j - i) hu (by simp;omega) (by omega) (by simp;omega)
        rw [show v.take (j - i)++(v.drop (j - i)++z)=v++z by rw [← List.append_assoc,List.take_append_drop]] at e
        rw [e]
        have:=rotF_split f x (v.drop (j - i)) (v.take (j - i)) (u++z) m i (j - i) hi (by omega) (by omega) (by simp;omega) (by simp;omega) hm
        rw [this]
        rw [show v.take (j - i)++(v.drop (j - i)++(u++z))=v++(u++z) by rw [← List.append_assoc,List.take_append_drop]]
theorem bsF_spec (p:Nat→Bool):∀ (f i j:Nat),j - i≤f→i≤j→i≤bsF p f i j∧bsF p f i j≤j∧(i < bsF p f i j→p (bsF p f i j - 1)=true)∧(bsF p f i j < j→p (bsF p f i j)=false)
  | 0,i,j,h,hij=>by
    have:i=j:=by omega
    subst this
    unfold bsF
    exact ⟨Nat.le_refl _,Nat.le_refl _,fun h=>absurd h (Nat.lt_irrefl _),fun h=>absurd h (Nat.lt_irrefl _)⟩
  | f+1,i,j,h,hij=>by
    unfold bsF
    split
    · split
      · rename_i hl hp
        have:=bsF_spec p f ((i+j) / 2+1) j (by omega) (by omega)
        refine ⟨by omega,this.2.1,fun hh=>?_,this.2.2.2⟩
        rcases Nat.lt_or_ge ((i+j) / 2+1) (bsF p f ((i+j) / 2+1) j) with h' | h'
        · exact this.2.2.1 h'
        · rw [show bsF p f ((i+j) / 2+1) j - 1=(i+j) / 2 by omega];exact hp
      · rename_i hl hp
        have:=bsF_spec p f i ((i+j) / 2) (by omega) (by omega)
        refine ⟨this.1,by omega,this.2.2.1,fun hh=>?_⟩
        rcases Nat.lt_or_ge (bsF p f i ((i+j) / 2)) ((i+j) / 2) with h' | h'
        · exact this.2.2.2 h'
        · rw [show bsF p f i ((i+j) / 2)=(i+j) / 2 by omega];simpa using hp
    · exact ⟨Nat.le_refl _,hij,fun h=>absurd h (Nat.lt_irrefl _),fun h'=>absurd h' (by omega)⟩
theorem upF_split:∀ (v:List α) (x:List α) (p:α) (z:List α) (a:Nat),a=x.length→upF (x++p::(v++z)) a v.length=x++(v++p::z)
  | [],_,_,_,_,_=>rfl
  | q::v,x,p,z,a,ha=>by
    show upF (swp _ a (a+1)) (a+1) v.length=_
    have e:=swp_split x p [] q (v++z) a (a+1) ha (by simp [ha])
    simp only [List.nil_append] at e
    rw [List.cons_append,e]
    have:=upF_split v (x++[q]) p z (a+1) (by simp [ha])
    simpa using this
theorem dnF_split:∀ (n:Nat) (x u:List α) (p:α) (z:List α) (m:Nat),u.length=n→m=x.length+n→dnF (x++(u++p::z)) m n=x++p::(u++z)
  | 0,x,u,p,z,m,hu,hm=>by rw [List.length_eq_zero_iff] at hu;subst hu;rfl
  | n+1,x,u,p,z,m,hu,hm=>by
    have hne:u≠[]:=by rintro rfl;simp at hu
    obtain ⟨u',q,rfl⟩:∃ u' q,u=u'++[q]:=⟨u.dropLast,u.getLast hne,(List.dropLast_concat_getLast hne).symm⟩
    unfold dnF
    have hu':u'.length=n:=by simpa using hu
    have e:=swp_split' (x++u') q p z m (m - 1) (by simp;omega) (by simp;omega)
    have e2:x++(u'++[q]++p::z)=x++u'++q::p::z:=by simp
    rw [e2,e]
    have:=dnF_split n x u' p (q::z) (m - 1) hu' (by omega)
    rw [show x++u'++p::q::z=x++(u'++p::(q::z)) by simp,this]
    simp
end
section
/-! drawn regions whose loads come ahead of a store m, and some pure operations perhaps behind it -/
section
variable {P:Program} {ops:Array Oper} {Q:Exit→Act→World→Prop} {S:Array Bool→World→Prop}
def wpAnyL (P:Program) (ops:Array Oper) (Q:Exit→Act→World→Prop) (S:Array Bool→World→Prop):Nat→Array Bool→Act→World→Prop
  | 0,listed,a,w=>Region.ready .any ops listed=[]∧Q .normal a w
  | fuel+1,listed,a,w =>
    (Region.ready .any ops listed=[]→Q .normal a w) ∧
    ∀ i∈Region.ready .any ops listed,wpOp P ops Q i (fun a' w'=>S (listed.setIfInBounds i true) w'∧wpAnyL P ops Q S fuel (listed.setIfInBounds i true) a' w') a w
theorem wpAny_of_L:∀ (fuel:Nat) (listed:Array Bool) (a:Act) (w:World),wpAnyL P ops Q S fuel listed a w→wpAny P .any ops Q fuel listed a w
  | 0,_,_,_,h=>h
  | fuel+1,_,_,_,h=>⟨h.1,fun i hi=>wpOp_mono (fun a' w' h'=>wpAny_of_L fuel _ a' w' h'.2) (h.2 i hi)⟩
def Cl (ops:Array Oper) (listed:Array Bool):Prop:=∀ j o,ops[j]? = some o→listed.getD j false=true→∀ e∈o.after,Region.binds .any e=true→listed.getD e.on false=true
theorem gD {listed:Array Bool} {j:Nat} (h:listed.getD j true=false):listed.getD j false=false:=by
  rw [Array.getD_eq_getD_getElem?] at *
  cases hj:listed[j]? with
  | none=>rfl
  | some b=>rw [hj] at h;exact h
theorem Cl.set {listed:Array Bool} {j:Nat} (h:Cl ops listed) (hr:j∈Region.ready .any ops listed):Cl ops (listed.setIfInBounds j true):=by
  intro k o ho hl e he hb
  refine getD_set_true ?_
  by_cases hjk:j=k
  · subst hjk
    obtain ⟨_,o',ho',hall⟩:=mem_ready.1 hr
    rw [ho] at ho'
    cases ho'
    exact hall e he hb
  · rw [getD_set_ne false hjk] at hl
    exact h k o ho hl e he hb
theorem firstL {i:Nat} {oi:Oper} {v:Value} (hi:ops[i]? = some oi) (hsel:∀ (j:Nat) (o:Oper) cs b,ops[j]? = some o→o.op≠.select cs b)
    (hQ:∀ c a w,Q (.panic c) (a.put oi.dst v) w→Q (.panic c) a w) (hSi:∀ l w,S (l.setIfInBounds i true) w↔S l w) :
    ∀ (fuel:Nat) (listed:Array Bool) (a:Act) (w:World),
      (∀ j oj,ops[j]? = some oj→j≠i→listed.getD j true=false→(∀ e∈oj.after,Region.binds .any e=true→e.on≠i)→oi.apart ops oj=true) →
      i∈Region.ready .any ops listed→Cl ops listed→YieldsIf P ops (fun w=>∃ l,Cl ops l∧l.getD i true=false∧S l w) oi v a→S listed w →
      wpAnyL P ops Q S fuel (listed.setIfInBounds i true) (a.put oi.dst v) w→wpAnyL P ops Q S (fuel+1) listed a w:=by
  intro fuel
  induction fuel with
  | zero =>
    intro listed a w _ hr hcl hy hS H
    refine ⟨fun h=>(by rw [h] at hr;cases hr),fun j hj=>?_⟩
    by_cases hji:j=i
    · subst hji;exact hy.wpOp hi ⟨listed,hcl,(mem_ready.1 hr).1,hS⟩ ⟨(hSi _ _).2 hS,H⟩
    · have:=ready_mono hj hji
      rw [H.1] at this
      cases this
  | succ fuel ih =>
    intro listed a w hfree hr hcl hy hS H
    refine ⟨fun h=>(by rw [h] at hr;cases hr),fun j hj=>?_⟩
    by_cases hji:j=i
    · subst hji;exact hy.wpOp hi ⟨listed,hcl,(mem_ready.1 hr).1,hS⟩ ⟨(hSi _ _).2 hS,H⟩
    · have h1:=H.2 j (ready_mono hj hji)
      obtain ⟨hjun,oj,hoj,hall⟩:=mem_ready.1 hj
      have hnot:∀ e∈oj.after,Region.binds .any e=true→e.on≠i:=fun e he hb heq=>by
        have h1:=hall e he hb
        have h0:=gD (mem_ready.1 hr).1
        rw [heq,h0] at h1
        cases h1
      have h2:=wpOp_putIf hoj (hfree j oj hoj hji hjun hnot) (fun cs b=>hsel i oi cs b hi) (fun cs b=>hsel j oj cs b hoj) hQ hy h1
      have hfree':∀ k ok,ops[k]? = some ok→k≠i→(listed.setIfInBounds j true).getD k true=false →
          (∀ e∈ok.after,Region.binds .any e=true→e.on≠i)→oi.apart ops ok=true:=fun k ok hk hki hun hno=>by
        refine hfree k ok hk hki ?_ hno
        by_cases hjk:j=k
        · subst hjk;exact hjun
        · rw [getD_set_ne true hjk] at hun;exact hun
      refine wpOp_mono (fun a' w' h3=>?_) h2
      have e:(listed.setIfInBounds i true).setIfInBounds j true=(listed.setIfInBounds j true).setIfInBounds i true:=Array.setIfInBounds_comm _ _ (Ne.symm hji)
      have h4:=h3.2
      rw [e] at h4
      have hS':=(hSi _ _).1 h4.1
      exact ⟨hS',ih (listed.setIfInBounds j true) a' w' hfree' (ready_mono hr (Ne.symm hji)) (hcl.set hj) h3.1 hS' h4.2⟩
end
section
variable {P:Program} {n d m:Nat} {ops:Array Oper} {Q:Exit→Act→World→Prop} {w w':World} {C:World→Prop} {a:Act} {env:Env} {o:Oper} {v:Value} {fuel:Nat} {listed:Array Bool}
def SM (m:Nat) (C:World→Prop) (l:Array Bool) (w:World):Prop:=l.getD m false=false→C w
def clB (ops:Array Oper) (listed:Array Bool):Bool:=(List.range ops.size).all fun j=>match ops[j]? with | some o=>!listed.getD j false || o.after.toList.all fun e=>!Region.binds .any e || listed.getD e.on false | none=>true
theorem clB_spec (h:clB ops listed=true):Cl ops listed:=by
  intro j o ho hl e he hb
  have hj:j < ops.size:=(Array.getElem?_eq_some_iff.1 ho).1
  have h1:=List.all_eq_true.1 h j (List.mem_range.2 hj)
  simp only [ho,hl,Bool.not_true,Bool.false_or] at h1
  have h2:=List.all_eq_true.1 h1 e (Array.mem_toList_iff.2 he)
  rw [hb] at h2
  simpa using h2
def depB (ops:Array Oper) (m i:Nat):Bool:=match ops[m]? with | some o=>o.after.toList.any fun e=>Region.binds .any e && e.on==i | none=>false
theorem SM_ins {i:Nat} (h:i≠m) (l:Array Bool) (w:World):SM m C (l.setIfInBounds i true) w↔SM m C l w:=by
  unfold SM;rw [getD_set_ne false h]
theorem drl {id:Nat} (m:Nat) (hm:P.follows .mixedOrders=true)
    (h:∀ w1,Chg [] w w1→wpAnyL P ops Q (SM m (fun w'=>Chg [] w1 w')) ops.size (Array.replicate ops.size false) a w1):(Code.region id ops true).wp P Q a w :=
  wp_region_any hm (wpAny_of_L _ _ _ _ (h _ ⟨rfl,rfl,rfl,Nat.le_refl _,fun _ _ _=>rfl⟩))
theorem tlp (i:Nat) (k:Nat) (v:Value) (ha:Has a n env) (hC:C w) (hv:hval P (up env) [] k o.op=some v:=by kernel_rfl) (hi:ops[i]? = some o:=by rfl) (hs:Region.noSelect ops=true:=by kernel_rfl) (hf:Region.free .any ops listed i=true:=by kernel_rfl) (hr:(Region.ready .any ops listed).contains i=true:=by kernel_rfl)
    (hd:o.dst=some d:=by rfl) (hdn:Nat.blt d n=true:=by rfl) (hg:gok ops env o.guard=some true:=by rfl) (hQ:∀ c a w,Q (.panic c) (a.put o.dst v) w→Q (.panic c) a w:=by exact fun _ _ _ h=>h)
    (him:Nat.beq i m=false:=by rfl) (hcl:clB ops listed=true:=by kernel_rfl)
    (hk:∀ a',Has a' n ((d,v)::env)→wpAnyL P ops Q (SM m C) fuel (listed.setIfInBounds i true) a' w):wpAnyL P ops Q (SM m C) (fuel+1) listed a w :=
  firstL hi (Region.noSelect_spec hs) hQ (SM_ins (Nat.ne_of_beq_eq_false him)) fuel listed a w (Region.free_spec hi hf) (by simpa using hr) (clB_spec hcl)
    (.inl ⟨gok_wanted ha hg,fun w' _=>hval_run ha.toG (fun p hp=>by cases hp) hv w'⟩) (fun _=>hC) (by rw [hd];exact hk _ (ha.put hdn v))
theorem tla (i:Nat) (ha:Has a n env) (hC:C w) (hi:ops[i]? = some o) (hy:∀ w',(execOp a.eval o).run P w'=.ok (.value v) w') (hs:Region.noSelect ops=true:=by kernel_rfl) (hf:Region.free .any ops listed i=true:=by kernel_rfl) (hr:(Region.ready .any ops listed).contains i=true:=by kernel_rfl)
    (hd:o.dst=some d:=by rfl) (hdn:Nat.blt d n=true:=by rfl) (hg:gok ops env o.guard=some true:=by rfl) (hQ:∀ c a w,Q (.panic c) (a.put o.dst v) w→Q (.panic c) a w:=by exact fun _ _ _ h=>h)
    (him:Nat.beq i m=false:=by rfl) (hcl:clB ops listed=true:=by kernel_rfl)
    (hk:∀ a',Has a' n ((d,v)::env)→wpAnyL P ops Q (SM m C) fuel (listed.setIfInBounds i true) a' w):wpAnyL P ops Q (SM m C) (fuel+1) listed a w :=
  firstL hi (Region.noSelect_spec hs) hQ (SM_ins (Nat.ne_of_beq_eq_false him)) fuel listed a w (Region.free_spec hi hf) (by simpa using hr) (clB_spec hcl)
    (.inl ⟨gok_wanted ha hg,fun w' _=>hy w'⟩) (fun _=>hC) (by rw [hd];exact hk _ (ha.put hdn v))
theorem tl (i:Nat) (ha:Has a n env) (hC:C w) (hi:ops[i]? = some o) (hy:∀ w',C w'→(execOp a.eval o).run P w'=.ok (.value v) w') (hs:Region.noSelect ops=true:=by kernel_rfl) (hf:Region.free .any ops listed i=true:=by kernel_rfl) (hr:(Region.ready .any ops listed).contains i=true:=by kernel_rfl)
    (hd:o.dst=some d:=by rfl) (hdn:Nat.blt d n=true:=by rfl) (hg:gok ops env o.guard=some true:=by rfl) (hQ:∀ c a w,Q (.panic c) (a.put o.dst v) w→Q (.panic c) a w:=by exact fun _ _ _ h=>h)
    (him:Nat.beq i m=false:=by rfl) (hcl:clB ops listed=true:=by kernel_rfl) (hdp:depB ops m i=true:=by kernel_rfl)
    (hk:∀ a',Has a' n ((d,v)::env)→wpAnyL P ops Q (SM m C) fuel (listed.setIfInBounds i true) a' w):wpAnyL P ops Q (SM m C) (fuel+1) listed a w :=
  firstL hi (Region.noSelect_spec hs) hQ (SM_ins (Nat.ne_of_beq_eq_false him)) fuel listed a w (Region.free_spec hi hf) (by simpa using hr) (clB_spec hcl)
    (.inl ⟨gok_wanted ha hg,fun w' ⟨l,hl,hu,hS⟩=>hy w' (hS (by
      cases hm:l.getD m false with
      | false=>rfl
      | true =>
        unfold depB at hdp
        cases hom:ops[m]? with
        | none=>rw [hom] at hdp;cases hdp
        | some om =>
          rw [hom] at hdp
          obtain ⟨e,he,hb⟩:=List.any_eq_true.1 hdp
          simp only [Bool.and_eq_true,beq_iff_eq] at hb
          have:=hl m om hom hm e (Array.mem_toList_iff.1 he) hb.1
          rw [hb.2,gD hu] at this
          cases this))⟩) (fun _=>hC) (by rw [hd];exact hk _ (ha.put hdn v))
theorem al2 (i:Nat) (hr:Region.ready .any ops listed=[i]:=by kernel_rfl) (hi:ops[i]? = some o:=by rfl) (hL:(listed.setIfInBounds i true).getD m false=true:=by kernel_rfl)
    (h:∀ K:Act→World→Prop,(∀ a' w',wpAnyL P ops Q (SM m C) fuel (listed.setIfInBounds i true) a' w'→K a' w')→wpList P ops (Exit.then K Q) [o] a w) :
    wpAnyL P ops Q (SM m C) (fuel+1) listed a w :=
  ⟨fun h0=>absurd (hr ▸ h0) (by simp),hr ▸ fun j hj=>by
    simp at hj;subst hj
    exact wpOp_of_list hi (h _ fun a' w' h1=>⟨fun h0=>(by rw [hL] at h0;cases h0),h1⟩)⟩
theorem dl (h:Q .normal a w) (hr:Region.ready .any ops listed=[]:=by kernel_rfl):wpAnyL P ops Q (SM m C) fuel listed a w:=by
  cases fuel with
  | zero=>exact ⟨hr,h⟩
  | succ f=>exact ⟨fun _=>h,by rw [hr];simp⟩
end
end
section
variable {α:Type} {P:Program} {n d:Nat} {ops:Array Oper} {Q:Act→Prop} {S:World→Prop} {a:Act} {env:Env} {rest:List Oper} {o:Oper} {v:Value}
  {dd:Option Tmp} {ty:TypeId} {pos:String} {af:Array Edge} {gd:Option (Nat×Bool)}
theorem qcv {f:FuncId} {fx:Operand} {xs:Array Operand} {tys:Array TypeId} {vals:List Value} (v:Value) (ha:Has a n env) (hf:ev env fx=some (.func (.func f) #[] #[]))
    (hv:xs.toList.map (ev env)=vals.map some) (hB:bodyB P f=true)
    (hg:gok ops env gd=some true) (hd:dd=some d) (hdn:Nat.blt d n=true) (hC:∀ w,S w→To P f vals w fun u w'=>u=v∧S w')
    (hk:∀ a',Has a' n ((d,v)::env)→wpQuiet P ops S Q rest a') :
    wpQuiet P ops S Q (⟨dd,.call ⟨.value fx,xs,tys⟩,ty,pos,af,gd⟩::rest) a:=by
  have hargs:=args_eq ha hv
  have hrun:∀ w,(execOp a.eval ⟨dd,.call ⟨.value fx,xs,tys⟩,ty,pos,af,gd⟩).run P w=.ok (.enter f vals.toArray) w:=by
    intro w
    have e:execOp a.eval ⟨dd,.call ⟨.value fx,xs,tys⟩,ty,pos,af,gd⟩=callFunc f vals.toArray:=by
      simp [execOp,resolve,ha.ev hf,Deferred.ofValue,invoke,hargs]
    rw [e];exact run_callFunc hB _ w
  unfold wpQuiet
  rw [if_pos (gok_wanted ha hg)]
  refine ⟨v,fun w hw=>?_,?_⟩
  · unfold Oper.quietAt;rw [hrun w]
    exact ⟨rfl,Calls.mono (hC w hw) fun e w' ⟨u,he,hu,hs⟩=>⟨by rw [he,hu],hs⟩⟩
  · rw [hd];exact hk _ (ha.put hdn v)
theorem rt0r {P:Program} {fn:Func} {R:Value→World→Prop} {w:World} {a:Act} {env:Env} {n:Nat} (ha:Has a n env) (hr:fn.results=#[]) (hR:R (.tuple #[]) w) :
    bodyPost P fn (fun e w'=>∃ v,e=.returned v∧R v w') .ret a w :=
  bodyPost_ret (results_none hr _ _ _) ha.defers ⟨_,rfl,hR⟩
theorem swp_at {l:List α} {i j:Nat} (hi:i < l.length) (hj:j < l.length):(l.set i l[j]).set j l[i]=swp l i j:=by
  unfold swp;rw [List.getElem?_eq_getElem hi,List.getElem?_eq_getElem hj]
theorem wrapN (i:Nat) (h:i < 4611686018427387904):IntKind.i64.wrap (i:Int)=(i:Int):=by rw [IntKind.wrap_i64];omega
theorem wrapE {x:Int} (i:Nat) (h:i < 4611686018427387904) (e:x=(i:Int)):IntKind.i64.wrap x=(i:Int):=by rw [e];exact wrapN i h
end
def ltD (k:Nat) (x y:S_api_Choice):Bool:=decide ((decide_Compare.f k x y).getD 0 < 0)
theorem aggC {w:World} {M:List Nat} {cs:List Value} {x:S_api_Choice} (h:rS_api_Choice.R w M cs x):aggB Try.prog 46 cs.length=true:=by rw [rS_api_Choice.len h];kernel_rfl
theorem infC {w:World} {M:List Nat} {cs:List Value} {x:S_api_Choice} (h:rS_api_Choice.R w M cs x):((Try.prog.info? 46).map (·.size))=some cs.length:=by rw [rS_api_Choice.len h];kernel_rfl
theorem oneC {w:World} {M:List Nat} {cs:List Value} {x:S_api_Choice} (h:rS_api_Choice.R w M cs x):cs.all (·.oneCell')=true:=List.all_eq_true.2 (rS_api_Choice.one h)
theorem cmpTo {k:Nat} {w:World} {M:List Nat} {cs ds:List Value} {x y:S_api_Choice} {r:Int} (hx:rS_api_Choice.R w M cs x) (hy:rS_api_Choice.R w M ds y) (H:decide_Compare.f k x y=some r) :
    To Try.prog 7 [.agg cs.toArray,.agg ds.toArray] w fun v w'=>v=.int .i64 r∧Chg [] w w':=by
  obtain ⟨ao1,cap1,ao2,cap2,ao3,cap3,ao4,cap4,rfl,f1,f2,f3,f4⟩:=rS_api_Choice.open hx
  obtain ⟨ao5,cap5,ao6,cap6,ao7,cap7,ao8,cap8,rfl,f5,f6,f7,f8⟩:=rS_api_Choice.open hy
  have z:=Chg.refl [] w
  have o:Ok [] M w.heap.size:=Ok.nil _ _
  exact (decide_Compare.walk w [] (MS.nil _) x ao1 cap1 (f1.chg z o o) ao2 cap2 (f2.chg z o o) ao3 cap3 (f3.chg z o o) ao4 cap4 (f4.chg z o o) y ao5 cap5 (f5.chg z o o) ao6 cap6 (f6.chg z o o) ao7 cap7 (f7.chg z o o) ao8 cap8 (f8.chg z o o) k r H).mono fun v w' ⟨hv,hc,_⟩=>⟨hv,hc⟩
set_option maxRecDepth 100000 in
theorem swR_walk (w:World) (M:List Nat) (xs:List S_api_Choice) (ao:Option Addr) (cap:Nat) (hO:Own rS_api_Choice 46 w M ao cap xs) (x y n:Nat) (hx:x+n≤xs.length) (hy:y+n≤xs.length) (hl:xs.length < 1000000) (cf:Value) :
    To Try.prog 47 [.slice ao xs.length cap,.int .i64 x,.int .i64 y,.int .i64 n,cf] w fun v w'=>v=.tuple #[]∧Own rS_api_Choice 46 w' M ao cap (swR xs x y n)∧Chg (blkL ao) w w':=by
  obtain ⟨N,hN0⟩:∃ N,N=xs.length:=⟨_,rfl⟩
  rw [← hN0] at hx hy hl ⊢
  refine ent Try.func47 rfl [(0,.slice ao N cap),(1,.int .i64 (x:Int)),(2,.int .i64 (y:Int)),(3,.int .i64 (n:Int)),(4,cf)] rfl (by rfl) fun a ha=>?_
  refine wp_seq_k fun K hK=>?_
  refine wp_region_lit ?_
  refine sf ha 1 [(0,.slice ao N cap),(1,.int .i64 (x:Int)),(2,.int .i64 (y:Int)),(3,.int .i64 (n:Int)),(10,.int .i64 ((0:Nat):Int))] fun a ha=>?_
  refine hK _ _ ?_;clear hK K
  refine wp_block ?_
  refine wp_loop_ghost (fun kk a w1=>∃ (i:Nat) (ys:List S_api_Choice),kk=n - i∧i≤n∧ys.length=N∧swR ys (x+i) (y+i) (n - i)=swR xs x y n∧Own rS_api_Choice 46 w1 M ao cap ys∧Chg (blkL ao) w w1∧Has a Try.f47.ntmps [(0,.slice ao N cap),(1,.int .i64 (x:Int)),(2,.int .i64 (y:Int)),(3,.int .i64 (n:Int)),(10,.int .i64 (i:Int))]) n ?_ ?_
  · exact ⟨0,xs,rfl,Nat.zero_le _,hN0.symm,rfl,hO,Chg.refl _ _,ha⟩
  clear hO
  rintro kk a w1 ⟨i,ys,rfl,hi,hN,hT,hO,hC,ha⟩
  refine wp_seq_k fun KB hKB=>?_
  refine wp_seq_k fun KA hKA=>?_
  refine wp_region_lit ?_
  refine sf ha 3 [(0,.slice ao N cap),(1,.int .i64 (x:Int)),(2,.int .i64 (y:Int)),(3,.int .i64 (n:Int)),(10,.int .i64 (i:Int)),(13,.bool (decide ((i:Int) < (n:Int))))] fun a ha=>?_
  refine hKA _ _ ?_;clear hKA KA
  refine cnd ha rfl (fun h3=>?_) (fun h3=>?_)
  rotate_left
  · refine wx ?_
    have h3:=of_decide_eq_false h3
    have:n - i=0:=by omega
    rw [this] at hT
    rw [← hT]
    exact rt0 ha rfl ⟨rfl,hO,hC⟩
  have h3:(i:Int) < n:=of_decide_eq_true h3
  have hin:i < n:=by omega
  refine wp_skip ?_
  refine hKB _ _ ?_;clear hKB KB
  have h1:x+i < ys.length:=by omega
  have h2:y+i < ys.length:=by omega
  have e1:IntKind.i64.wrap ((x:Int)+(i:Int))=((x+i:Nat):Int):=wrapE _ (by omega) (by omega)
  have e2:IntKind.i64.wrap ((y:Int)+(i:Int))=((y+i:Nat):Int):=wrapE _ (by omega) (by omega)
  obtain ⟨g,rfl⟩:=Own.addr hO h1
  refine wp_seq_k fun KC hKC=>?_
  refine wp_block ?_
  have hgM:=hO.inM
  refine drl 20 (by kernel_rfl) fun w5 hc5=>?_
  have hO:=hO.chg hc5 (Ok.nil _ _) (Ok.refl _ _) (fun _ _ h=>nomatch h) (fun g h=>by simp [blkL] at h;subst h;exact hgM)
  have hid:=Chg.refl [] w5
  obtain ⟨cA,hRA,hEA⟩:=Own.el hO h1
  obtain ⟨cB,hRB,hEB⟩:=Own.el hO h2
  refine tlp 0 0 (.slice (some ⟨g,0,none⟩) N cap) ha hid (hk:=fun a ha=>?_)
  refine tlp 1 0 (.int .i64 (x:Int)) ha hid (hk:=fun a ha=>?_)
  refine tlp 2 0 (.int .i64 (i:Int)) ha hid (hk:=fun a ha=>?_)
  refine tlp 3 0 (.int .i64 (IntKind.i64.wrap ((x:Int)+(i:Int)))) ha hid (hk:=fun a ha=>?_)
  rw [e1] at ha
  refine tlp 4 0 (.slice (some ⟨g,0,none⟩) N cap) ha hid (hk:=fun a ha=>?_)
  refine tlp 5 0 (.int .i64 (y:Int)) ha hid (hk:=fun a ha=>?_)
  refine tlp 6 0 (.int .i64 (i:Int)) ha hid (hk:=fun a ha=>?_)
  refine tlp 7 0 (.int .i64 (IntKind.i64.wrap ((y:Int)+(i:Int)))) ha hid (hk:=fun a ha=>?_)
  rw [e2] at ha
  refine tlp 8 0 (.slice (some ⟨g,0,none⟩) N cap) ha hid (hk:=fun a ha=>?_)
  refine tlp 9 0 (.int .i64 (y:Int)) ha hid (hk:=fun a ha=>?_)
  refine tlp 10 0 (.int .i64 (i:Int)) ha hid (hk:=fun a ha=>?_)
  refine tlp 11 0 (.int .i64 (IntKind.i64.wrap ((y:Int)+(i:Int)))) ha hid (hk:=fun a ha=>?_)
  rw [e2] at ha
  refine tla (v:=.pointer (some ⟨g,0+(y+i)*rS_api_Choice.sz,none⟩)) 12 ha hid rfl (fun w'=>ix_run (r:=rS_api_Choice) (T:=46) (xs:=ys) (k:=.i64) (i:=(((y+i):Nat):Int)) (o:=0) ha (by kernel_rfl) (by kernel_rfl) (by rw [hN];rfl) (by rfl) rfl (Int.natCast_nonneg _) (Int.ofNat_lt.2 h2)) (hk:=fun a ha=>?_)
  refine tl (v:=.agg cB.toArray) 13 ha hid rfl (fun w' hs=>ldA_run (cs:=cB) ha rfl (aggC hRB) (cells_sub (fun j v hv=>hs.keep (hEB j v hv)) (all:=cB) [] [] (by simp))) (hk:=fun a ha=>?_)
  refine tlp 14 0 (.slice (some ⟨g,0,none⟩) N cap) ha hid (hk:=fun a ha=>?_)
  refine tlp 15 0 (.int .i64 (x:Int)) ha hid (hk:=fun a ha=>?_)
  refine tlp 16 0 (.int .i64 (i:Int)) ha hid (hk:=fun a ha=>?_)
  refine tlp 17 0 (.int .i64 (IntKind.i64.wrap ((x:Int)+(i:Int)))) ha hid (hk:=fun a ha=>?_)
  rw [e1] at ha
  refine tla (v:=.pointer (some ⟨g,0+(x+i)*rS_api_Choice.sz,none⟩)) 18 ha hid rfl (fun w'=>ix_run (r:=rS_api_Choice) (T:=46) (xs:=ys) (k:=.i64) (i:=(((x+i):Nat):Int)) (o:=0) ha (by kernel_rfl) (by kernel_rfl) (by rw [hN];rfl) (by rfl) rfl (Int.natCast_nonneg _) (Int.ofNat_lt.2 h1)) (hk:=fun a ha=>?_)
  refine tl (v:=.agg cA.toArray) 19 ha hid rfl (fun w' hs=>ldA_run (cs:=cA) ha rfl (aggC hRA) (cells_sub (fun j v hv=>hs.keep (hEA j v hv)) (all:=cA) [] [] (by simp))) (hk:=fun a ha=>?_)
  refine al2 20 (h:=fun K hK=>?_)
  refine hop (w':=_) ha rfl rfl rfl (ix_run (r:=rS_api_Choice) (T:=46) (xs:=ys) (k:=.i64) (i:=(((x+i):Nat):Int)) (o:=0) ha (by kernel_rfl) (by kernel_rfl) (by rw [hN];rfl) (by rfl) rfl (Int.natCast_nonneg _) (Int.ofNat_lt.2 h1)) fun a ha=>?_
  refine wpl_end (hK _ _ ?_);clear hK K
  refine al2 21 (h:=fun K hK=>?_)
  refine stS (r:=rS_api_Choice) (i:=(x+i)) (z:=ys[(y+i)]'h2) (l:=cB) ha rfl (by first | (rw [Nat.zero_add];done) | (rw [Nat.zero_add];rfl)) rfl (infC hRB) (oneC hRB) rfl hO h1 (rS_api_Choice.len hRB) (fun w' hc=>rS_api_Choice.chg hRB hc (Ok.one (.inl hgM)) (Ok.refl _ _)) fun a w6 ha hO hc6=>?_
  refine wpl_end (hK _ _ ?_);clear hK K
  have hRA:=rS_api_Choice.chg hRA hc6 (Ok.one (.inl hgM)) (Ok.refl _ _)
  refine al2 22 (h:=fun K hK=>?_)
  refine hop (w':=_) ha rfl rfl rfl (ix_run (r:=rS_api_Choice) (T:=46) (xs:=ys) (k:=.i64) (i:=(((y+i):Nat):Int)) (o:=0) ha (by kernel_rfl) (by kernel_rfl) (by rw [hN];rfl) (by rfl) rfl (Int.natCast_nonneg _) (Int.ofNat_lt.2 h2)) fun a ha=>?_
  refine wpl_end (hK _ _ ?_);clear hK K
  refine al2 23 (h:=fun K hK=>?_)
  refine stS (r:=rS_api_Choice) (i:=(y+i)) (z:=ys[(x+i)]'h1) (l:=cA) ha rfl (by first | (rw [Nat.zero_add];done) | (rw [Nat.zero_add];rfl)) rfl (infC hRA) (oneC hRA) rfl hO (by rw [List.length_set];exact h2) (rS_api_Choice.len hRA) (fun w' hc=>rS_api_Choice.chg hRA hc (Ok.one (.inl hgM)) (Ok.refl _ _)) fun a w7 ha hO hc7=>?_
  refine wpl_end (hK _ _ ?_);clear hK K
  rw [swp_at h1 h2] at hO
  have hC:=((hC.trans hc5 (Ok.nil _ _)).trans hc6 (fun x h=>.inl (by simpa [blkL] using h))).trans hc7 (fun x h=>.inl (by simpa [blkL] using h))
  refine dl ?_
  refine hKC _ _ ?_;clear hKC KC
  refine wp_region_lit ?_
  refine sf ha 3 [(0,.slice (some ⟨g,0,none⟩) N cap),(1,.int .i64 (x:Int)),(2,.int .i64 (y:Int)),(3,.int .i64 (n:Int)),(10,.int .i64 (IntKind.i64.wrap ((i:Int)+1)))] fun a ha=>?_
  refine ⟨n - (i+1),by omega,i+1,_,rfl,by omega,by rw [swp_len];exact hN,?_,hO,hC,?_⟩
  · rw [← hT,show n - i=(n - (i+1))+1 by omega];rfl
  · rw [wrapE (i+1) (by omega) (by omega)] at ha;exact ha
set_option maxRecDepth 100000 in
theorem rot_walk (w:World) (M:List Nat) (xs:List S_api_Choice) (ao:Option Addr) (cap:Nat) (hO:Own rS_api_Choice 46 w M ao cap xs) (x m b:Nat) (h1:x < m) (h2:m < b) (h3:b≤xs.length) (hl:xs.length < 1000000) (cf:Value) :
    To Try.prog 45 [.slice ao xs.length cap,.int .i64 x,.int .i64 m,.int .i64 b,cf] w fun v w'=>v=.tuple #[]∧Own rS_api_Choice 46 w' M ao cap (rotF (b - x) xs m (m - x) (b - m))∧Chg (blkL ao) w w':=by
  obtain ⟨N,hN0⟩:∃ N,N=xs.length:=⟨_,rfl⟩
  rw [← hN0] at h3 hl ⊢
  refine ent Try.func45 rfl [(0,.slice ao N cap),(1,.int .i64 (x:Int)),(2,.int .i64 (m:Int)),(3,.int .i64 (b:Int)),(4,cf)] rfl (by rfl) fun a ha=>?_
  have e1:IntKind.i64.wrap ((m:Int) - (x:Int))=((m - x:Nat):Int):=wrapE _ (by omega) (by omega)
  have e2:IntKind.i64.wrap ((b:Int) - (m:Int))=((b - m:Nat):Int):=wrapE _ (by omega) (by omega)
  refine wp_seq_k fun K hK=>?_
  refine wp_region_lit ?_
  refine sf ha 4 [(10,.int .i64 (IntKind.i64.wrap ((m:Int) - (x:Int)))),(0,.slice ao N cap),(1,.int .i64 (x:Int)),(2,.int .i64 (m:Int)),(3,.int .i64 (b:Int)),(4,cf)] fun a ha=>?_
  rw [e1] at ha
  refine hK _ _ ?_;clear hK K
  refine wp_seq_k fun K hK=>?_
  refine wp_region_lit ?_
  refine sf ha 4 [(11,.int .i64 (IntKind.i64.wrap ((b:Int) - (m:Int)))),(10,.int .i64 ((m - x:Nat):Int)),(0,.slice ao N cap),(1,.int .i64 (x:Int)),(2,.int .i64 (m:Int)),(3,.int .i64 (b:Int)),(4,cf)] fun a ha=>?_
  rw [e2] at ha
  refine hK _ _ ?_;clear hK K
  refine wp_seq_k fun KL hKL=>?_
  refine wp_block ?_
  refine wp_loop_ghost (fun kk a w1=>∃ (i j:Nat) (ys:List S_api_Choice),0 < i∧0 < j∧i+j≤kk∧x+i≤m∧m+j≤b∧ys.length=N∧rotF kk ys m i j=rotF (b - x) xs m (m - x) (b - m)∧Own rS_api_Choice 46 w1 M ao cap ys∧Chg (blkL ao) w w1∧Has a Try.f45.ntmps [(11,.int .i64 (j:Int)),(10,.int .i64 (i:Int)),(0,.slice ao N cap),(1,.int .i64 (x:Int)),(2,.int .i64 (m:Int)),(3,.int .i64 (b:Int)),(4,cf)]) (b - x) ?_ ?_
  · exact ⟨m - x,b - m,xs,by omega,by omega,by omega,by omega,by omega,hN0.symm,rfl,hO,Chg.refl _ _,ha⟩
  clear hO
  rintro kk a w1 ⟨i,j,ys,hi,hj,hij,hxi,hmj,hN,hT,hO,hC,ha⟩
  obtain ⟨kk,rfl⟩:∃ k',kk=k'+1:=⟨kk - 1,by omega⟩
  rw [rotF] at hT
  have e3:IntKind.i64.wrap ((m:Int) - (i:Int))=((m - i:Nat):Int):=wrapE _ (by omega) (by omega)
  refine wp_seq_k fun KA hKA=>?_
  refine wp_seq_k fun KB hKB=>?_
  refine wp_region_lit ?_
  refine sf ha 3 [(20,.bool (!((i:Int)==(j:Int)))),(11,.int .i64 (j:Int)),(10,.int .i64 (i:Int)),(0,.slice ao N cap),(1,.int .i64 (x:Int)),(2,.int .i64 (m:Int)),(3,.int .i64 (b:Int)),(4,cf)] fun a ha=>?_
  refine hKB _ _ ?_;clear hKB KB
  refine cnd ha rfl (fun c1=>?_) (fun c1=>?_)
  rotate_left
  · have c1:(i:Int)=j:=by simpa using c1
    have c1:i=j:=by omega
    subst c1
    rw [if_pos rfl] at hT
    refine wx ?_
    refine hKL _ _ ?_
    refine wp_region_lit ?_
    refine sf ha 7 [(50,.slice ao N cap),(53,.int .i64 (IntKind.i64.wrap ((m:Int) - (i:Int)))),(54,.int .i64 (m:Int)),(55,.int .i64 (i:Int)),(56,cf)] fun a ha=>?_
    rw [e3] at ha
    have hW:=swR_walk w1 M ys ao cap hO (m - i) m i (by omega) (by omega) (by omega) cf
    rw [hN,hT] at hW
    refine cl ha (by rfl) (by kernel_rfl) (by rfl) (by rfl) (by rfl) hW ?_
    rintro _ w2 ⟨rfl,hO,hc⟩ a ha
    refine wpl_end ?_
    exact rt0 ha rfl ⟨rfl,hO,hC.trans hc (fun x h=>.inl h)⟩
  have c1:¬ (i:Int)=j:=by simpa using c1
  have c1:i≠j:=by omega
  rw [if_neg c1] at hT
  refine wp_skip ?_
  refine hKA _ _ ?_;clear hKA KA
  refine wp_block ?_
  refine wp_seq_k fun KB hKB=>?_
  refine wp_region_lit ?_
  refine sf ha 3 [(23,.bool (decide ((j:Int) < (i:Int)))),(11,.int .i64 (j:Int)),(10,.int .i64 (i:Int)),(0,.slice ao N cap),(1,.int .i64 (x:Int)),(2,.int .i64 (m:Int)),(3,.int .i64 (b:Int)),(4,cf)] fun a ha=>?_
  refine hKB _ _ ?_;clear hKB KB
  refine cnd ha rfl (fun c2=>?_) (fun c2=>?_)
  · have c2:j < i:=by simpa using c2
    rw [if_pos c2] at hT
    refine wp_seq_k fun KB hKB=>?_
    refine wp_region_lit ?_
    refine sf ha 7 [(24,.slice ao N cap),(27,.int .i64 (IntKind.i64.wrap ((m:Int) - (i:Int)))),(28,.int .i64 (m:Int)),(29,.int .i64 (j:Int)),(30,cf),(11,.int .i64 (j:Int)),(10,.int .i64 (i:Int)),(0,.slice ao N cap),(1,.int .i64 (x:Int)),(2,.int .i64 (m:Int)),(3,.int .i64 (b:Int)),(4,cf)] fun a ha=>?_
    rw [e3] at ha
    have hW:=swR_walk w1 M ys ao cap hO (m - i) m j (by omega) (by omega) (by omega) cf
    rw [hN] at hW
    refine cl ha (by rfl) (by kernel_rfl) (by rfl) (by rfl) (by rfl) hW ?_
    rintro _ w2 ⟨rfl,hO,hc⟩ a ha
    refine wpl_end ?_
    refine hKB _ _ ?_;clear hKB KB
    refine wp_region_lit ?_
    have e4:IntKind.i64.wrap ((i:Int) - (j:Int))=((i - j:Nat):Int):=wrapE _ (by omega) (by omega)
    refine sf ha 4 [(11,.int .i64 (j:Int)),(10,.int .i64 (IntKind.i64.wrap ((i:Int) - (j:Int)))),(0,.slice ao N cap),(1,.int .i64 (x:Int)),(2,.int .i64 (m:Int)),(3,.int .i64 (b:Int)),(4,cf)] fun a ha=>?_
    rw [e4] at ha
    exact ⟨kk,by omega,i - j,j,_,by omega,hj,by omega,by omega,hmj,by rw [swR_len];exact hN,hT,hO,hC.trans hc (fun x h=>.inl h),ha⟩
  · have c2:¬ j < i:=by simpa using c2
    rw [if_neg c2] at hT
    refine wp_seq_k fun KB hKB=>?_
    refine wp_region_lit ?_
    have e5:IntKind.i64.wrap ((m:Int)+(j:Int))=((m+j:Nat):Int):=wrapE _ (by omega) (by omega)
    have e6:IntKind.i64.wrap (((m+j:Nat):Int) - (i:Int))=((m+j - i:Nat):Int):=wrapE _ (by omega) (by omega)
    refine sf ha 11 [(35,.slice ao N cap),(38,.int .i64 (IntKind.i64.wrap ((m:Int) - (i:Int)))),(43,.int .i64 (IntKind.i64.wrap (IntKind.i64.wrap ((m:Int)+(j:Int)) - (i:Int)))),(44,.int .i64 (i:Int)),(45,cf),(11,.int .i64 (j:Int)),(10,.int .i64 (i:Int)),(0,.slice ao N cap),(1,.int .i64 (x:Int)),(2,.int .i64 (m:Int)),(3,.int .i64 (b:Int)),(4,cf)] fun a ha=>?_
    rw [e3,e5,e6] at ha
    have hW:=swR_walk w1 M ys ao cap hO (m - i) (m+j - i) i (by omega) (by omega) (by omega) cf
    rw [hN] at hW
    refine cl ha (by rfl) (by kernel_rfl) (by rfl) (by rfl) (by rfl) hW ?_
    rintro _ w2 ⟨rfl,hO,hc⟩ a ha
    refine wpl_end ?_
    refine hKB _ _ ?_;clear hKB KB
    refine wp_region_lit ?_
    have e4:IntKind.i64.wrap ((j:Int) - (i:Int))=((j - i:Nat):Int):=wrapE _ (by omega) (by omega)
    refine sf ha 4 [(11,.int .i64 (IntKind.i64.wrap ((j:Int) - (i:Int)))),(10,.int .i64 (i:Int)),(0,.slice ao N cap),(1,.int .i64 (x:Int)),(2,.int .i64 (m:Int)),(3,.int .i64 (b:Int)),(4,cf)] fun a ha=>?_
    rw [e4] at ha
    exact ⟨kk,by omega,i,j - i,_,hi,by omega,by omega,hxi,by omega,by rw [swR_len];exact hN,hT,hO,hC.trans hc (fun x h=>.inl h),ha⟩
theorem insJ_eq {α:Type} (lt:α→α→Bool) (l:List α) (a j:Nat):insJ lt l a j=if (decide (a < j) && ltA lt l j (j - 1))=true then insJ lt (swp l j (j - 1)) a (j - 1) else l:=by
  cases j with
  | zero=>simp [insJ]
  | succ j=>rfl
theorem ltA_D {k:Nat} {l:List S_api_Choice} {i j:Nat} (hi:i < l.length) (hj:j < l.length) {r:Int} (h:decide_Compare.f k l[i] l[j]=some r):ltA (ltD k) l i j=decide (r < 0):=by
  unfold ltA ltD
  rw [List.getElem?_eq_getElem hi,List.getElem?_eq_getElem hj]
  simp only [h,Option.getD_some]
set_option maxRecDepth 100000 in
theorem ins_walk (k:Nat) (w:World) (M:List Nat) (xs:List S_api_Choice) (ao:Option Addr) (cap:Nat) (hO:Own rS_api_Choice 46 w M ao cap xs) (x b:Nat) (h1:x≤b) (h3:b≤xs.length) (hl:xs.length < 1000000) (hD:∀ u∈xs,∀ v∈xs,∃ r,decide_Compare.f k u v=some r) :
    To Try.prog 39 [.slice ao xs.length cap,.int .i64 x,.int .i64 b,.func (.func 7) #[] #[]] w fun v w'=>v=.tuple #[]∧Own rS_api_Choice 46 w' M ao cap (insI (ltD k) x (b - (x+1)) xs (x+1))∧Chg (blkL ao) w w':=by
  obtain ⟨N,hN0⟩:∃ N,N=xs.length:=⟨_,rfl⟩
  rw [← hN0] at h3 hl ⊢
  refine ent Try.func39 rfl [(0,.slice ao N cap),(1,.int .i64 (x:Int)),(2,.int .i64 (b:Int)),(3,.func (.func 7) #[] #[])] rfl (by rfl) fun a ha=>?_
  have e1:IntKind.i64.wrap ((x:Int)+1)=((x+1:Nat):Int):=wrapE _ (by omega) (by omega)
  refine wp_seq_k fun K hK=>?_
  refine wp_region_lit ?_
  refine sf ha 3 [(8,.int .i64 (IntKind.i64.wrap ((x:Int)+1))),(0,.slice ao N cap),(1,.int .i64 (x:Int)),(2,.int .i64 (b:Int)),(3,.func (.func 7) #[] #[])] fun a ha=>?_
  rw [e1] at ha
  refine hK _ _ ?_;clear hK K
  refine wp_block ?_
  refine wp_loop_ghost (fun kk a w1=>∃ (i:Nat) (us:List S_api_Choice),kk=b - i∧x < i∧(i≤b∨i=x+1)∧us.length=N∧(∀ u∈us,u∈xs)∧insI (ltD k) x (b - i) us i=insI (ltD k) x (b - (x+1)) xs (x+1)∧Own rS_api_Choice 46 w1 M ao cap us∧Chg (blkL ao) w w1∧Has a Try.f39.ntmps [(8,.int .i64 (i:Int)),(0,.slice ao N cap),(1,.int .i64 (x:Int)),(2,.int .i64 (b:Int)),(3,.func (.func 7) #[] #[])]) (b - (x+1)) ?_ ?_
  · exact ⟨x+1,xs,rfl,by omega,.inr rfl,hN0.symm,fun _ h=>h,rfl,hO,Chg.refl _ _,ha⟩
  clear hO
  rintro kk a w1 ⟨i,us,rfl,hi,hib,hNu,hU,hT,hO,hC,ha⟩
  refine wp_seq_k fun KB hKB=>?_
  refine wp_seq_k fun KA hKA=>?_
  refine wp_region_lit ?_
  refine sf ha 3 [(14,.bool (decide ((i:Int) < (b:Int)))),(8,.int .i64 (i:Int)),(0,.slice ao N cap),(1,.int .i64 (x:Int)),(2,.int .i64 (b:Int)),(3,.func (.func 7) #[] #[])] fun a ha=>?_
  refine hKA _ _ ?_;clear hKA KA
  refine cnd ha rfl (fun c1=>?_) (fun c1=>?_)
  rotate_left
  · refine wx ?_
    have c1:=of_decide_eq_false c1
    have:b - i=0:=by omega
    rw [this] at hT
    rw [← hT]
    exact rt0 ha rfl ⟨rfl,hO,hC⟩
  have c1:(i:Int) < b:=of_decide_eq_true c1
  refine wp_skip ?_
  refine hKB _ _ ?_;clear hKB KB
  refine wp_seq_k fun KC hKC=>?_
  refine wp_block ?_
  refine wp_seq_k fun KD hKD=>?_
  refine wp_region_lit ?_
  refine sf ha 2 [(9,.int .i64 (i:Int)),(8,.int .i64 (i:Int)),(0,.slice ao N cap),(1,.int .i64 (x:Int)),(2,.int .i64 (b:Int)),(3,.func (.func 7) #[] #[])] fun a ha=>?_
  refine hKD _ _ ?_;clear hKD KD
  refine wp_block ?_
  refine wp_loop_ghost (fun kk a w1=>∃ (j:Nat) (ys:List S_api_Choice),kk=j∧x≤j∧j≤i∧ys.length=N∧(∀ u∈ys,u∈xs)∧insJ (ltD k) ys x j=insJ (ltD k) us x i∧Own rS_api_Choice 46 w1 M ao cap ys∧Chg (blkL ao) w w1∧Has a Try.f39.ntmps [(9,.int .i64 (j:Int)),(8,.int .i64 (i:Int)),(0,.slice ao N cap),(1,.int .i64 (x:Int)),(2,.int .i64 (b:Int)),(3,.func (.func 7) #[] #[])]) i ?_ ?_
  · exact ⟨i,us,rfl,by omega,Nat.le_refl _,hNu,hU,rfl,hO,hC,ha⟩
  clear hO hC ha
  rintro kk a w1 ⟨j,ys,rfl,hxj,hji,hN,hY,hTj,hO,hC,ha⟩
  have ej:IntKind.i64.wrap ((i:Int)+1)=((i+1:Nat):Int):=wrapE _ (by omega) (by omega)
  refine wp_seq_k fun KE hKE=>?_
  refine wp_seq_k fun KF hKF=>?_
  have J:∀ (c:Bool) (a:Act) (w2:World),c=(decide (x < kk) && ltA (ltD k) ys kk (kk - 1))→Has a Try.f39.ntmps [(34,.bool c),(9,.int .i64 (kk:Int)),(8,.int .i64 (i:Int)),(0,.slice ao N cap),(1,.int .i64 (x:Int)),(2,.int .i64 (b:Int)),(3,.func (.func 7) #[] #[])]→Own rS_api_Choice 46 w2 M ao cap ys→Chg (blkL ao) w w2→KF a w2:=by
    clear hO hC ha
    intro c a w2 hc ha hO hC
    rw [insJ_eq,← hc] at hTj
    refine hKF _ _ ?_;clear hKF KF
    refine cnd ha rfl (fun c2=>?_) (fun c2=>?_)
    rotate_left
    · rw [c2,if_neg (by simp)] at hTj
      refine wx ?_
      refine hKC _ _ ?_
      refine wp_region_lit ?_
      refine sf ha 3 [(8,.int .i64 (IntKind.i64.wrap ((i:Int)+1))),(0,.slice ao N cap),(1,.int .i64 (x:Int)),(2,.int .i64 (b:Int)),(3,.func (.func 7) #[] #[])] fun a ha=>?_
      rw [ej] at ha
      refine ⟨b - (i+1),by omega,i+1,ys,rfl,by omega,.inl (by omega),hN,hY,?_,hO,hC,ha⟩
      rw [← hT,show b - i=(b - (i+1))+1 by omega,insI,hTj]
    · rw [c2,if_pos rfl] at hTj
      rw [c2] at hc
      have hc':=hc.symm
      simp only [Bool.and_eq_true,decide_eq_true_eq] at hc'
      have hj0:x < kk:=hc'.1
      have g1:kk < ys.length:=by omega
      have g2:kk - 1 < ys.length:=by omega
      have es:IntKind.i64.wrap ((kk:Int) - 1)=((kk - 1:Nat):Int):=wrapE _ (by omega) (by omega)
      refine wp_skip ?_
      refine hKE _ _ ?_;clear hKE KE
      refine wp_seq_k fun KG hKG=>?_
      obtain ⟨g,rfl⟩:=Own.addr hO g1
      refine wp_block ?_
      have hgM:=hO.inM
      refine drl 14 (by kernel_rfl) fun w5 hc5=>?_
      have hO:=hO.chg hc5 (Ok.nil _ _) (Ok.refl _ _) (fun _ _ h=>nomatch h) (fun g h=>by simp [blkL] at h;subst h;exact hgM)
      have hid:=Chg.refl [] w5
      obtain ⟨cA,hRA,hEA⟩:=Own.el hO g1
      obtain ⟨cB,hRB,hEB⟩:=Own.el hO g2
      refine tlp 0 0 (.slice (some ⟨g,0,none⟩) N cap) ha hid (hk:=fun a ha=>?_)
      refine tlp 1 0 (.int .i64 (kk:Int)) ha hid (hk:=fun a ha=>?_)
      refine tlp 2 0 (.slice (some ⟨g,0,none⟩) N cap) ha hid (hk:=fun a ha=>?_)
      refine tlp 3 0 (.int .i64 (kk:Int)) ha hid (hk:=fun a ha=>?_)
      refine tlp 4 0 (.int .i64 (IntKind.i64.wrap ((kk:Int) - (1:Int)))) ha hid (hk:=fun a ha=>?_)
      rw [es] at ha
      refine tlp 5 0 (.slice (some ⟨g,0,none⟩) N cap) ha hid (hk:=fun a ha=>?_)
      refine tlp 6 0 (.int .i64 (kk:Int)) ha hid (hk:=fun a ha=>?_)
      refine tlp 7 0 (.int .i64 (IntKind.i64.wrap ((kk:Int) - (1:Int)))) ha hid (hk:=fun a ha=>?_)
      rw [es] at ha
      refine tla (v:=.pointer (some ⟨g,0+(kk - 1)*rS_api_Choice.sz,none⟩)) 8 ha hid rfl (fun w'=>ix_run (r:=rS_api_Choice) (T:=46) (xs:=ys) (k:=.i64) (i:=(((kk - 1):Nat):Int)) (o:=0) ha (by kernel_rfl) (by kernel_rfl) (by rw [hN];rfl) (by rfl) rfl (Int.natCast_nonneg _) (Int.ofNat_lt.2 g2)) (hk:=fun a ha=>?_)
      refine tl (v:=.agg cB.toArray) 9 ha hid rfl (fun w' hs=>ldA_run (cs:=cB) ha rfl (aggC hRB) (cells_sub (fun j v hv=>hs.keep (hEB j v hv)) (all:=cB) [] [] (by simp))) (hk:=fun a ha=>?_)
      refine tlp 10 0 (.slice (some ⟨g,0,none⟩) N cap) ha hid (hk:=fun a ha=>?_)
      refine tlp 11 0 (.int .i64 (kk:Int)) ha hid (hk:=fun a ha=>?_)
      refine tla (v:=.pointer (some ⟨g,0+kk*rS_api_Choice.sz,none⟩)) 12 ha hid rfl (fun w'=>ix_run (r:=rS_api_Choice) (T:=46) (xs:=ys) (k:=.i64) (i:=((kk:Nat):Int)) (o:=0) ha (by kernel_rfl) (by kernel_rfl) (by rw [hN];rfl) (by rfl) rfl (Int.natCast_nonneg _) (Int.ofNat_lt.2 g1)) (hk:=fun a ha=>?_)
      refine tl (v:=.agg cA.toArray) 13 ha hid rfl (fun w' hs=>ldA_run (cs:=cA) ha rfl (aggC hRA) (cells_sub (fun j v hv=>hs.keep (hEA j v hv)) (all:=cA) [] [] (by simp))) (hk:=fun a ha=>?_)
      refine al2 14 (h:=fun K hK=>?_)
      refine hop (w':=_) ha rfl rfl rfl (ix_run (r:=rS_api_Choice) (T:=46) (xs:=ys) (k:=.i64) (i:=((kk:Nat):Int)) (o:=0) ha (by kernel_rfl) (by kernel_rfl) (by rw [hN];rfl) (by rfl) rfl (Int.natCast_nonneg _) (Int.ofNat_lt.2 g1)) fun a ha=>?_
      refine wpl_end (hK _ _ ?_);clear hK K
      refine al2 15 (h:=fun K hK=>?_)
      refine stS (r:=rS_api_Choice) (i:=kk) (z:=ys[(kk - 1)]'g2) (l:=cB) ha rfl (by first | (rw [Nat.zero_add];done) | (rw [Nat.zero_add];rfl)) rfl (infC hRB) (oneC hRB) rfl hO g1 (rS_api_Choice.len hRB) (fun w' hc=>rS_api_Choice.chg hRB hc (Ok.one (.inl hgM)) (Ok.refl _ _)) fun a w6 ha hO hc6=>?_
      refine wpl_end (hK _ _ ?_);clear hK K
      have hRA:=rS_api_Choice.chg hRA hc6 (Ok.one (.inl hgM)) (Ok.refl _ _)
      refine al2 16 (h:=fun K hK=>?_)
      refine hop (w':=_) ha rfl rfl rfl (ix_run (r:=rS_api_Choice) (T:=46) (xs:=ys) (k:=.i64) (i:=(((kk - 1):Nat):Int)) (o:=0) ha (by kernel_rfl) (by kernel_rfl) (by rw [hN];rfl) (by rfl) rfl (Int.natCast_nonneg _) (Int.ofNat_lt.2 g2)) fun a ha=>?_
      refine wpl_end (hK _ _ ?_);clear hK K
      refine al2 17 (h:=fun K hK=>?_)
      refine stS (r:=rS_api_Choice) (i:=(kk - 1)) (z:=ys[kk]'g1) (l:=cA) ha rfl (by first | (rw [Nat.zero_add];done) | (rw [Nat.zero_add];rfl)) rfl (infC hRA) (oneC hRA) rfl hO (by rw [List.length_set];exact g2) (rS_api_Choice.len hRA) (fun w' hc=>rS_api_Choice.chg hRA hc (Ok.one (.inl hgM)) (Ok.refl _ _)) fun a w7 ha hO hc7=>?_
      refine wpl_end (hK _ _ ?_);clear hK K
      rw [swp_at g1 g2] at hO
      have hC:=((hC.trans hc5 (Ok.nil _ _)).trans hc6 (fun x h=>.inl (by simpa [blkL] using h))).trans hc7 (fun x h=>.inl (by simpa [blkL] using h))
      refine dl ?_
      refine hKG _ _ ?_;clear hKG KG
      refine wp_region_lit ?_
      refine sf ha 3 [(9,.int .i64 (IntKind.i64.wrap ((kk:Int) - 1))),(8,.int .i64 (i:Int)),(0,.slice (some ⟨g,0,none⟩) N cap),(1,.int .i64 (x:Int)),(2,.int .i64 (b:Int)),(3,.func (.func 7) #[] #[])] fun a ha=>?_
      rw [es] at ha
      exact ⟨kk - 1,by omega,kk - 1,_,rfl,by omega,by omega,by rw [swp_len];exact hN,fun u hu=>hY u (swp_mem hu),hTj,hO,hC,ha⟩
  refine drq0 (fun w'=>Chg [] w1 w') (by kernel_rfl) (by kernel_rfl) (fun _ h=>h) ?_
  refine qP 0 (.int .i64 (kk:Int)) ha fun a ha=>?_
  refine qP 0 (.int .i64 (x:Int)) ha fun a ha=>?_
  refine qP 0 (.bool (decide ((x:Int) < (kk:Int)))) ha fun a ha=>?_
  refine qP 0 (.bool (decide ((x:Int) < (kk:Int)))) ha fun a ha=>?_
  have ha:=ha.sel (env':=[(21,.bool (decide ((x:Int) < (kk:Int)))),(9,.int .i64 (kk:Int)),(8,.int .i64 (i:Int)),(0,.slice ao N cap),(1,.int .i64 (x:Int)),(2,.int .i64 (b:Int)),(3,.func (.func 7) #[] #[])]) (by kernel_rfl)
  rcases Bool.eq_false_or_eq_true (decide ((x:Int) < (kk:Int))) with hb | hb
  rotate_left
  · have ha:=ha.lit hb
    refine qO ha fun a ha=>?_
    refine qO ha fun a ha=>?_
    refine qO ha fun a ha=>?_
    refine qO ha fun a ha=>?_
    refine qO ha fun a ha=>?_
    refine qO ha fun a ha=>?_
    refine qO ha fun a ha=>?_
    refine qO ha fun a ha=>?_
    refine qO ha fun a ha=>?_
    refine qO ha fun a ha=>?_
    refine qO ha fun a ha=>?_
    refine qO ha fun a ha=>?_
    refine qP 4 (.bool false) ha fun a ha=>?_
    refine wpQuiet_nil ?_
    intro w5 hc5
    refine wpl_end ?_
    have hb:=of_decide_eq_false hb
    refine J false _ _ ?_ (ha.sel (by kernel_rfl)) (hO.chg hc5 (Ok.nil _ _) (Ok.refl _ _) (fun _ _ h=>nomatch h) hO.inM') (hC.trans hc5 (Ok.nil _ _))
    rw [decide_eq_false (by omega)];rfl
  · have ha:=ha.lit hb
    have hb:=of_decide_eq_true hb
    have g1:kk < ys.length:=by omega
    have g2:kk - 1 < ys.length:=by omega
    have es:IntKind.i64.wrap ((kk:Int) - 1)=((kk - 1:Nat):Int):=wrapE _ (by omega) (by omega)
    obtain ⟨r,hr⟩:=hD _ (hY _ (List.getElem_mem g1)) _ (hY _ (List.getElem_mem g2))
    obtain ⟨g,rfl⟩:=Own.addr hO g1
    obtain ⟨cA,hRA,hEA⟩:=Own.el hO g1
    obtain ⟨cB,hRB,hEB⟩:=Own.el hO g2
    refine qP 0 (.func (.func 7) #[] #[]) ha fun a ha=>?_
    refine qP 0 (.slice (some ⟨g,0,none⟩) N cap) ha fun a ha=>?_
    refine qP 0 (.int .i64 (kk:Int)) ha fun a ha=>?_
    refine qV ha (fun w' hs=>ix_run (r:=rS_api_Choice) (T:=46) (xs:=ys) (k:=.i64) (i:=((kk:Nat):Int)) (o:=0) ha (by kernel_rfl) (by kernel_rfl) (by rw [hN];rfl) (by rfl) rfl (Int.natCast_nonneg _) (Int.ofNat_lt.2 g1)) fun a ha=>?_
    refine qV (v:=.agg cA.toArray) ha (fun w' hs=>ldA_run (cs:=cA) ha rfl (aggC hRA) (cells_sub (fun j v hv=>hs.keep (hEA j v hv)) (all:=cA) [] [] (by simp))) fun a ha=>?_
    refine qP 0 (.slice (some ⟨g,0,none⟩) N cap) ha fun a ha=>?_
    refine qP 0 (.int .i64 (kk:Int)) ha fun a ha=>?_
    refine qP 0 (.int .i64 (IntKind.i64.wrap ((kk:Int) - (1:Int)))) ha fun a ha=>?_
    rw [es] at ha
    refine qV ha (fun w' hs=>ix_run (r:=rS_api_Choice) (T:=46) (xs:=ys) (k:=.i64) (i:=(((kk - 1):Nat):Int)) (o:=0) ha (by kernel_rfl) (by kernel_rfl) (by rw [hN];rfl) (by rfl) rfl (Int.natCast_nonneg _) (Int.ofNat_lt.2 g2)) fun a ha=>?_
    refine qV (v:=.agg cB.toArray) ha (fun w' hs=>ldA_run (cs:=cB) ha rfl (aggC hRB) (cells_sub (fun j v hv=>hs.keep (hEB j v hv)) (all:=cB) [] [] (by simp))) fun a ha=>?_
    refine qcv (.int .i64 r) ha rfl (by rfl) (by kernel_rfl) rfl rfl rfl (fun w' hs=>(cmpTo (rS_api_Choice.chg hRA hs (Ok.nil _ _) (Ok.refl _ _)) (rS_api_Choice.chg hRB hs (Ok.nil _ _) (Ok.refl _ _)) hr).mono fun v w'' ⟨hv,hc⟩=>⟨hv,hs.trans hc (Ok.nil _ _)⟩) fun a ha=>?_
    refine qP 0 (.bool (decide (r < (0:Int)))) ha fun a ha=>?_
    refine qP 3 (.bool (decide (r < (0:Int)))) ha fun a ha=>?_
    refine wpQuiet_nil ?_
    intro w5 hc5
    refine wpl_end ?_
    refine J (decide (r < 0)) _ _ ?_ (ha.sel (by kernel_rfl)) (hO.chg hc5 (Ok.nil _ _) (Ok.refl _ _) (fun _ _ h=>nomatch h) hO.inM') (hC.trans hc5 (Ok.nil _ _))
    rw [ltA_D g1 g2 hr,decide_eq_true (show x < kk by omega)];rfl
theorem midE (i j:Nat) (h:i+j < 1000000000):IntKind.i64.wrap (Int.fdiv (IntKind.u64.wrap (IntKind.i64.wrap ((i:Int)+(j:Int)))) (2^(min (1:Int).toNat IntKind.u64.bits)))=(((i+j) / 2:Nat):Int):=by
  rw [wrapE (x:=(i:Int)+(j:Int)) (i+j) (by omega) (by omega)]
  have e1:IntKind.u64.wrap ((i+j:Nat):Int)=((i+j:Nat):Int):=by rw [IntKind.wrap_u64];omega
  rw [e1]
  have e2:((2:Int)^(min (1:Int).toNat IntKind.u64.bits))=2:=rfl
  rw [e2,Int.fdiv_eq_ediv_of_nonneg _ (by omega)]
  exact wrapE _ (by omega) (by omega)
set_option maxRecDepth 100000 in
theorem sym_walk (k:Nat):∀ (f:Nat) (w:World) (M:List Nat) (ys:List S_api_Choice) (ao:Option Addr) (cap:Nat) (_:Own rS_api_Choice 46 w M ao cap ys) (x m b:Nat) (_:x < m) (_:m < b) (_:b≤ys.length) (_:ys.length < 1000000) (_:b - x≤f) (_:∀ u∈ys,∀ v∈ys,∃ r,decide_Compare.f k u v=some r),
    To Try.prog 40 [.slice ao ys.length cap,.int .i64 x,.int .i64 m,.int .i64 b,.func (.func 7) #[] #[]] w fun v w'=>v=.tuple #[]∧Own rS_api_Choice 46 w' M ao cap (symF (ltD k) f ys x m b)∧Chg (blkL ao) w w':=by
  intro f
  induction f with
  | zero=>intro w M ys ao cap hO x m b h1 h2 h3 hl hf;omega
  | succ f ih =>
  intro w M ys ao cap hO x m b h1 h2 h3 hl hf hD
  obtain ⟨N,hN⟩:∃ N,N=ys.length:=⟨_,rfl⟩
  have hY:∀ u∈ys,u∈ys:=fun _ h=>h
  obtain ⟨tgt,hT⟩:∃ t,symF (ltD k) (f+1) ys x m b=t:=⟨_,rfl⟩
  rw [hT]
  rw [← hN] at h3 hl ⊢
  have hN:=hN.symm
  refine ent Try.func40 rfl [(0,.slice ao N cap),(1,.int .i64 (x:Int)),(2,.int .i64 (m:Int)),(3,.int .i64 (b:Int)),(4,.func (.func 7) #[] #[])] rfl (by rfl) fun a ha=>?_
  have e1:IntKind.i64.wrap ((m:Int) - (x:Int))=((m - x:Nat):Int):=wrapE _ (by omega) (by omega)
  have e2:IntKind.i64.wrap ((b:Int) - (m:Int))=((b - m:Nat):Int):=wrapE _ (by omega) (by omega)
  have hC:=Chg.refl (blkL ao) w
  unfold symF at hT
  refine wp_seq_k fun KI hKI=>?_
  refine wp_seq_k fun K hK=>?_
  refine wp_region_lit ?_
  refine sf ha 4 [(28,.bool (IntKind.i64.wrap ((m:Int) - (x:Int))==(1:Int))),(0,.slice ao N cap),(1,.int .i64 (x:Int)),(2,.int .i64 (m:Int)),(3,.int .i64 (b:Int)),(4,.func (.func 7) #[] #[])] fun a ha=>?_
  rw [e1] at ha
  refine hK _ _ ?_;clear hK K
  refine cnd ha rfl (fun c0=>?_) (fun c0=>?_)
  · have c0:m=x+1:=by have:=beq_iff_eq.1 c0;omega
    rw [if_pos c0] at hT
    refine wp_seq_k fun K hK=>?_
    refine wp_region_lit ?_
    refine sf ha 2 [(10,.int .i64 (m:Int)),(0,.slice ao N cap),(1,.int .i64 (x:Int)),(2,.int .i64 (m:Int)),(3,.int .i64 (b:Int)),(4,.func (.func 7) #[] #[])] fun a ha=>?_
    refine hK _ _ ?_;clear hK K
    refine wp_seq_k fun K hK=>?_
    refine wp_region_lit ?_
    refine sf ha 2 [(10,.int .i64 (m:Int)),(11,.int .i64 (b:Int)),(0,.slice ao N cap),(1,.int .i64 (x:Int)),(2,.int .i64 (m:Int)),(3,.int .i64 (b:Int)),(4,.func (.func 7) #[] #[])] fun a ha=>?_
    refine hK _ _ ?_;clear hK K
    refine wp_seq_k fun KL hKL=>?_
    refine wp_block ?_
    refine wp_loop_ghost (fun kk a w2=>∃ (i j:Nat),bsF (fun h=>ltA (ltD k) ys h x) kk i j=bsF (fun h=>ltA (ltD k) ys h x) (b - m) (m) (b)∧m≤i∧i≤j∧j≤b∧j - i≤kk∧Own rS_api_Choice 46 w2 M ao cap ys∧Chg (blkL ao) w w2∧Has a Try.f40.ntmps [(10,.int .i64 (i:Int)),(11,.int .i64 (j:Int)),(0,.slice ao N cap),(1,.int .i64 (x:Int)),(2,.int .i64 (m:Int)),(3,.int .i64 (b:Int)),(4,.func (.func 7) #[] #[])]) (b - m) ?_ ?_
    · exact ⟨m,b,rfl,Nat.le_refl _,by omega,Nat.le_refl _,by omega,hO,hC,ha⟩
    clear hO hC ha
    rintro kk a w2 ⟨i,j,hB,hlo,hij,hhi,hkk,hO,hC,ha⟩
    refine wp_seq_k fun KA hKA=>?_
    refine wp_seq_k fun KB hKB=>?_
    refine wp_region_lit ?_
    refine sf ha 3 [(33,.bool (decide ((i:Int) < (j:Int)))),(10,.int .i64 (i:Int)),(11,.int .i64 (j:Int)),(0,.slice ao N cap),(1,.int .i64 (x:Int)),(2,.int .i64 (m:Int)),(3,.int .i64 (b:Int)),(4,.func (.func 7) #[] #[])] fun a ha=>?_
    refine hKB _ _ ?_;clear hKB KB
    refine cnd ha rfl (fun c1=>?_) (fun c1=>?_)
    rotate_left
    · refine wx ?_
      have c1:=of_decide_eq_false c1
      rw [bsF_done _ (by omega)] at hB
      rw [← hB] at hT
      refine hKL _ _ ?_
      refine wp_seq_k fun KM hKM=>?_
      refine wp_seq_k fun K hK=>?_
      refine wp_region_lit ?_
      refine sf ha 2 [(13,.int .i64 (x:Int)),(10,.int .i64 (i:Int)),(0,.slice ao N cap),(1,.int .i64 (x:Int)),(2,.int .i64 (m:Int)),(3,.int .i64 (b:Int)),(4,.func (.func 7) #[] #[])] fun a ha=>?_
      refine hK _ _ ?_;clear hK K
      have hw1:IntKind.i64.wrap ((i:Int) - 1)=((i - 1:Nat):Int):=wrapE _ (by omega) (by omega)
      refine wp_block ?_
      refine wp_loop_ghost (fun kk a w2=>∃ (q:Nat) (zs:List S_api_Choice),kk=i - 1 - q∧q≤i - 1∧zs.length=N∧upF zs q (i - 1 - q)=tgt∧Own rS_api_Choice 46 w2 M ao cap zs∧Chg (blkL ao) w w2∧Has a Try.f40.ntmps [(13,.int .i64 (q:Int)),(10,.int .i64 (i:Int)),(0,.slice ao N cap),(1,.int .i64 (x:Int)),(2,.int .i64 (m:Int)),(3,.int .i64 (b:Int)),(4,.func (.func 7) #[] #[])]) (i - 1 - x) ?_ ?_
      · exact ⟨x,ys,rfl,by omega,hN,hT,hO,hC,ha⟩
      clear hO hC ha hN hT hY
      rintro kk a w2 ⟨q,ys,rfl,hq,hN,hT,hO,hC,ha⟩
      refine wp_seq_k fun KA hKA=>?_
      refine wp_seq_k fun KB hKB=>?_
      refine wp_region_lit ?_
      refine sf ha 4 [(58,.bool (decide ((q:Int) < IntKind.i64.wrap ((i:Int) - (1:Int))))),(13,.int .i64 (q:Int)),(10,.int .i64 (i:Int)),(0,.slice ao N cap),(1,.int .i64 (x:Int)),(2,.int .i64 (m:Int)),(3,.int .i64 (b:Int)),(4,.func (.func 7) #[] #[])] fun a ha=>?_
      refine hKB _ _ ?_;clear hKB KB
      refine cnd ha rfl (fun c1=>?_) (fun c1=>?_)
      rotate_left
      · have c1:=of_decide_eq_false c1
        try rw [hw1] at c1
        rw [show i - 1 - q=0 by omega] at hT
        refine wx ?_
        subst hT;refine hKM _ _ ?_;refine wp_ret ?_;try simp only [Exit.then,Exit.inBlock]
        exact rt0r ha rfl ⟨rfl,hO,hC⟩
      have c1:=of_decide_eq_true c1
      try rw [hw1] at c1
      refine wp_skip ?_
      refine hKA _ _ ?_;clear hKA KA
      refine wp_seq_k fun KC hKC=>?_
      have g1:q < ys.length:=by omega
      have g2:q+1 < ys.length:=by omega
      have es:IntKind.i64.wrap ((q:Int)+1)=((q+1:Nat):Int):=wrapE _ (by omega) (by omega)
      obtain ⟨g,rfl⟩:=Own.addr hO g1
      refine wp_block ?_
      have hgM:=hO.inM
      refine drl 14 (by kernel_rfl) fun w5 hc5=>?_
      have hO:=hO.chg hc5 (Ok.nil _ _) (Ok.refl _ _) (fun _ _ h=>nomatch h) (fun g h=>by simp [blkL] at h;subst h;exact hgM)
      have hid:=Chg.refl [] w5
      obtain ⟨cA,hRA,hEA⟩:=Own.el hO g1
      obtain ⟨cB,hRB,hEB⟩:=Own.el hO g2
      refine tlp 0 0 (.slice (some ⟨g,0,none⟩) N cap) ha hid (hk:=fun a ha=>?_)
      refine tlp 1 0 (.int .i64 (q:Int)) ha hid (hk:=fun a ha=>?_)
      refine tlp 2 0 (.slice (some ⟨g,0,none⟩) N cap) ha hid (hk:=fun a ha=>?_)
      refine tlp 3 0 (.int .i64 (q:Int)) ha hid (hk:=fun a ha=>?_)
      refine tlp 4 0 (.int .i64 (IntKind.i64.wrap ((q:Int)+(1:Int)))) ha hid (hk:=fun a ha=>?_)
      rw [es] at ha
      refine tlp 5 0 (.slice (some ⟨g,0,none⟩) N cap) ha hid (hk:=fun a ha=>?_)
      refine tlp 6 0 (.int .i64 (q:Int)) ha hid (hk:=fun a ha=>?_)
      refine tlp 7 0 (.int .i64 (IntKind.i64.wrap ((q:Int)+(1:Int)))) ha hid (hk:=fun a ha=>?_)
      rw [es] at ha
      refine tla (v:=.pointer (some ⟨g,0+(q+1)*rS_api_Choice.sz,none⟩)) 8 ha hid rfl (fun w'=>ix_run (r:=rS_api_Choice) (T:=46) (xs:=ys) (k:=.i64) (i:=(((q+1):Nat):Int)) (o:=0) ha (by kernel_rfl) (by kernel_rfl) (by rw [hN];rfl) (by rfl) rfl (Int.natCast_nonneg _) (Int.ofNat_lt.2 g2)) (hk:=fun a ha=>?_)
      refine tl (v:=.agg cB.toArray) 9 ha hid rfl (fun w' hs=>ldA_run (cs:=cB) ha rfl (aggC hRB) (cells_sub (fun j v hv=>hs.keep (hEB j v hv)) (all:=cB) [] [] (by simp))) (hk:=fun a ha=>?_)
      refine tlp 10 0 (.slice (some ⟨g,0,none⟩) N cap) ha hid (hk:=fun a ha=>?_)
      refine tlp 11 0 (.int .i64 (q:Int)) ha hid (hk:=fun a ha=>?_)
      refine tla (v:=.pointer (some ⟨g,0+q*rS_api_Choice.sz,none⟩)) 12 ha hid rfl (fun w'=>ix_run (r:=rS_api_Choice) (T:=46) (xs:=ys) (k:=.i64) (i:=((q:Nat):Int)) (o:=0) ha (by kernel_rfl) (by kernel_rfl) (by rw [hN];rfl) (by rfl) rfl (Int.natCast_nonneg _) (Int.ofNat_lt.2 g1)) (hk:=fun a ha=>?_)
      refine tl (v:=.agg cA.toArray) 13 ha hid rfl (fun w' hs=>ldA_run (cs:=cA) ha rfl (aggC hRA) (cells_sub (fun j v hv=>hs.keep (hEA j v hv)) (all:=cA) [] [] (by simp))) (hk:=fun a ha=>?_)
      refine al2 14 (h:=fun K hK=>?_)
      refine hop (w':=_) ha rfl rfl rfl (ix_run (r:=rS_api_Choice) (T:=46) (xs:=ys) (k:=.i64) (i:=((q:Nat):Int)) (o:=0) ha (by kernel_rfl) (by kernel_rfl) (by rw [hN];rfl) (by rfl) rfl (Int.natCast_nonneg _) (Int.ofNat_lt.2 g1)) fun a ha=>?_
      refine wpl_end (hK _ _ ?_);clear hK K
      refine al2 15 (h:=fun K hK=>?_)
      refine stS (r:=rS_api_Choice) (i:=q) (z:=ys[(q+1)]'g2) (l:=cB) ha rfl (by first | (rw [Nat.zero_add];done) | (rw [Nat.zero_add];rfl)) rfl (infC hRB) (oneC hRB) rfl hO g1 (rS_api_Choice.len hRB) (fun w' hc=>rS_api_Choice.chg hRB hc (Ok.one (.inl hgM)) (Ok.refl _ _)) fun a w6 ha hO hc6=>?_
      refine wpl_end (hK _ _ ?_);clear hK K
      have hRA:=rS_api_Choice.chg hRA hc6 (Ok.one (.inl hgM)) (Ok.refl _ _)
      refine al2 16 (h:=fun K hK=>?_)
      refine hop (w':=_) ha rfl rfl rfl (ix_run (r:=rS_api_Choice) (T:=46) (xs:=ys) (k:=.i64) (i:=(((q+1):Nat):Int)) (o:=0) ha (by kernel_rfl) (by kernel_rfl) (by rw [hN];rfl) (by rfl) rfl (Int.natCast_nonneg _) (Int.ofNat_lt.2 g2)) fun a ha=>?_
      refine wpl_end (hK _ _ ?_);clear hK K
      refine al2 17 (h:=fun K hK=>?_)
      refine stS (r:=rS_api_Choice) (i:=(q+1)) (z:=ys[q]'g1) (l:=cA) ha rfl (by first | (rw [Nat.zero_add];done) | (rw [Nat.zero_add];rfl)) rfl (infC hRA) (oneC hRA) rfl hO (by rw [List.length_set];exact g2) (rS_api_Choice.len hRA) (fun w' hc=>rS_api_Choice.chg hRA hc (Ok.one (.inl hgM)) (Ok.refl _ _)) fun a w7 ha hO hc7=>?_
      refine wpl_end (hK _ _ ?_);clear hK K
      rw [swp_at g1 g2] at hO
      have hC:=((hC.trans hc5 (Ok.nil _ _)).trans hc6 (fun x h=>.inl (by simpa [blkL] using h))).trans hc7 (fun x h=>.inl (by simpa [blkL] using h))
      refine dl ?_
      refine hKC _ _ ?_;clear hKC KC
      refine wp_region_lit ?_
      refine sf ha 3 [(13,.int .i64 (IntKind.i64.wrap ((q:Int)+1))),(10,.int .i64 (i:Int)),(0,.slice (some ⟨g,0,none⟩) N cap),(1,.int .i64 (x:Int)),(2,.int .i64 (m:Int)),(3,.int .i64 (b:Int)),(4,.func (.func 7) #[] #[])] fun a ha=>?_
      rw [es] at ha
      rw [show i - 1 - q=(i - 1 - (q+1))+1 by omega,upF] at hT
      exact ⟨i - 1 - (q+1),by omega,q+1,_,rfl,by omega,by rw [swp_len];exact hN,hT,hO,hC,ha⟩
    have c1:(i:Int) < j:=of_decide_eq_true c1
    have hij:i < j:=by omega
    obtain ⟨kk,rfl⟩:∃ k',kk=k'+1:=⟨kk - 1,by omega⟩
    rw [bsF,if_pos hij] at hB
    refine wp_skip ?_
    refine hKA _ _ ?_;clear hKA KA
    refine wp_block ?_
    refine wp_seq_k fun KB hKB=>?_
    refine wp_region_lit ?_
    refine sf ha 7 [(12,.int .i64 (IntKind.i64.wrap (Int.fdiv (IntKind.u64.wrap (IntKind.i64.wrap ((i:Int)+(j:Int)))) (2^(min (1:Int).toNat IntKind.u64.bits))))),(10,.int .i64 (i:Int)),(11,.int .i64 (j:Int)),(0,.slice ao N cap),(1,.int .i64 (x:Int)),(2,.int .i64 (m:Int)),(3,.int .i64 (b:Int)),(4,.func (.func 7) #[] #[])] fun a ha=>?_
    rw [midE i j (by omega)] at ha
    refine hKB _ _ ?_;clear hKB KB
    obtain ⟨h,hh⟩:∃ h,h=(i+j) / 2:=⟨_,rfl⟩
    rw [← hh] at ha hB
    have hm1:i≤h:=by omega
    have hm2:h < j:=by omega
    have gx:h < ys.length:=by omega
    have gy:x < ys.length:=by omega
    obtain ⟨r,hr⟩:=hD _ (hY _ (List.getElem_mem gx)) _ (hY _ (List.getElem_mem gy))
    have hL:=ltA_D gx gy hr
    simp only [hL] at hB
    have eh:IntKind.i64.wrap ((h:Int)+1)=((h+1:Nat):Int):=wrapE _ (by omega) (by omega)
    refine wp_seq_k fun KB hKB=>?_
    obtain ⟨g,rfl⟩:=Own.addr hO gx
    obtain ⟨cA,hRA,hEA⟩:=Own.el hO gx
    obtain ⟨cB,hRB,hEB⟩:=Own.el hO gy
    refine drq0 (fun w'=>Chg [] w2 w') (by kernel_rfl) (by kernel_rfl) (fun _ h=>h) ?_
    refine qP 0 (.func (.func 7) #[] #[]) ha fun a ha=>?_
    refine qP 0 (.slice (some ⟨g,0,none⟩) N cap) ha fun a ha=>?_
    refine qP 0 (.int .i64 (h:Int)) ha fun a ha=>?_
    refine qV ha (fun w' hs=>ix_run (r:=rS_api_Choice) (T:=46) (xs:=ys) (k:=.i64) (i:=((h:Nat):Int)) (o:=0) ha (by kernel_rfl) (by kernel_rfl) (by rw [hN];rfl) (by rfl) rfl (Int.natCast_nonneg _) (Int.ofNat_lt.2 gx)) fun a ha=>?_
    refine qV (v:=.agg cA.toArray) ha (fun w' hs=>ldA_run (cs:=cA) ha rfl (aggC hRA) (cells_sub (fun j v hv=>hs.keep (hEA j v hv)) (all:=cA) [] [] (by simp))) fun a ha=>?_
    refine qP 0 (.slice (some ⟨g,0,none⟩) N cap) ha fun a ha=>?_
    refine qP 0 (.int .i64 (x:Int)) ha fun a ha=>?_
    refine qV ha (fun w' hs=>ix_run (r:=rS_api_Choice) (T:=46) (xs:=ys) (k:=.i64) (i:=((x:Nat):Int)) (o:=0) ha (by kernel_rfl) (by kernel_rfl) (by rw [hN];rfl) (by rfl) rfl (Int.natCast_nonneg _) (Int.ofNat_lt.2 gy)) fun a ha=>?_
    refine qV (v:=.agg cB.toArray) ha (fun w' hs=>ldA_run (cs:=cB) ha rfl (aggC hRB) (cells_sub (fun j v hv=>hs.keep (hEB j v hv)) (all:=cB) [] [] (by simp))) fun a ha=>?_
    refine qcv (.int .i64 r) ha rfl (by rfl) (by kernel_rfl) rfl rfl rfl (fun w' hs=>(cmpTo (rS_api_Choice.chg hRA hs (Ok.nil _ _) (Ok.refl _ _)) (rS_api_Choice.chg hRB hs (Ok.nil _ _) (Ok.refl _ _)) hr).mono fun v w'' ⟨hv,hc⟩=>⟨hv,hs.trans hc (Ok.nil _ _)⟩) fun a ha=>?_
    refine qP 0 (.bool (decide (r < (0:Int)))) ha fun a ha=>?_
    refine wpQuiet_nil ?_
    intro w5 hc5
    have hO:=hO.chg hc5 (Ok.nil _ _) (Ok.refl _ _) (fun _ _ h=>nomatch h) hO.inM'
    have hC:=hC.t0 hc5
    refine wpl_end ?_
    refine hKB _ _ ?_;clear hKB KB
    have ha:=ha.sel (env':=[(50,.bool (decide (r < (0:Int)))),(12,.int .i64 (h:Int)),(10,.int .i64 (i:Int)),(11,.int .i64 (j:Int)),(0,.slice (some ⟨g,0,none⟩) N cap),(1,.int .i64 (x:Int)),(2,.int .i64 (m:Int)),(3,.int .i64 (b:Int)),(4,.func (.func 7) #[] #[])]) (by kernel_rfl)
    refine cnd ha rfl (fun c2=>?_) (fun c2=>?_)
    · rw [c2,if_pos rfl] at hB
      refine wp_region_lit ?_
      refine sf ha 3 [(10,.int .i64 (IntKind.i64.wrap ((h:Int)+1))),(11,.int .i64 (j:Int)),(0,.slice (some ⟨g,0,none⟩) N cap),(1,.int .i64 (x:Int)),(2,.int .i64 (m:Int)),(3,.int .i64 (b:Int)),(4,.func (.func 7) #[] #[])] fun a ha=>?_
      rw [eh] at ha
      exact ⟨kk,by omega,h+1,j,hB,by omega,by omega,by omega,by omega,hO,hC,ha⟩
    · rw [c2,if_neg (by simp)] at hB
      refine wp_region_lit ?_
      refine sf ha 2 [(10,.int .i64 (i:Int)),(11,.int .i64 (h:Int)),(0,.slice (some ⟨g,0,none⟩) N cap),(1,.int .i64 (x:Int)),(2,.int .i64 (m:Int)),(3,.int .i64 (b:Int)),(4,.func (.func 7) #[] #[])] fun a ha=>?_
      exact ⟨kk,by omega,i,h,hB,by omega,by omega,by omega,by omega,hO,hC,ha⟩
  have c0 : m ≠ x + 1 := by have : ¬ (((m - x : Nat) : Int) = 1) := by simpa using c0
                            omega
  rw [if_neg c0] at hT
  refine wp_skip ?_
  refine hKI _ _ ?_;clear hKI KI
  refine wp_seq_k fun KI hKI=>?_
  refine wp_seq_k fun K hK=>?_
  refine wp_region_lit ?_
  refine sf ha 4 [(80,.bool (IntKind.i64.wrap ((b:Int) - (m:Int))==(1:Int))),(0,.slice ao N cap),(1,.int .i64 (x:Int)),(2,.int .i64 (m:Int)),(3,.int .i64 (b:Int)),(4,.func (.func 7) #[] #[])] fun a ha=>?_
  rw [e2] at ha
  refine hK _ _ ?_;clear hK K
  refine cnd ha rfl (fun c0'=>?_) (fun c0'=>?_)
  · have c0':b=m+1:=by have:=beq_iff_eq.1 c0';omega
    rw [if_pos c0'] at hT
    refine wp_seq_k fun K hK=>?_
    refine wp_region_lit ?_
    refine sf ha 2 [(14,.int .i64 (x:Int)),(0,.slice ao N cap),(1,.int .i64 (x:Int)),(2,.int .i64 (m:Int)),(3,.int .i64 (b:Int)),(4,.func (.func 7) #[] #[])] fun a ha=>?_
    refine hK _ _ ?_;clear hK K
    refine wp_seq_k fun K hK=>?_
    refine wp_region_lit ?_
    refine sf ha 2 [(14,.int .i64 (x:Int)),(15,.int .i64 (m:Int)),(0,.slice ao N cap),(1,.int .i64 (x:Int)),(2,.int .i64 (m:Int)),(3,.int .i64 (b:Int)),(4,.func (.func 7) #[] #[])] fun a ha=>?_
    refine hK _ _ ?_;clear hK K
    refine wp_seq_k fun KL hKL=>?_
    refine wp_block ?_
    refine wp_loop_ghost (fun kk a w2=>∃ (i j:Nat),bsF (fun h=>!ltA (ltD k) ys m h) kk i j=bsF (fun h=>!ltA (ltD k) ys m h) (m - x) (x) (m)∧x≤i∧i≤j∧j≤m∧j - i≤kk∧Own rS_api_Choice 46 w2 M ao cap ys∧Chg (blkL ao) w w2∧Has a Try.f40.ntmps [(14,.int .i64 (i:Int)),(15,.int .i64 (j:Int)),(0,.slice ao N cap),(1,.int .i64 (x:Int)),(2,.int .i64 (m:Int)),(3,.int .i64 (b:Int)),(4,.func (.func 7) #[] #[])]) (m - x) ?_ ?_
    · exact ⟨x,m,rfl,Nat.le_refl _,by omega,Nat.le_refl _,by omega,hO,hC,ha⟩
    clear hO hC ha
    rintro kk a w2 ⟨i,j,hB,hlo,hij,hhi,hkk,hO,hC,ha⟩
    refine wp_seq_k fun KA hKA=>?_
    refine wp_seq_k fun KB hKB=>?_
    refine wp_region_lit ?_
    refine sf ha 3 [(85,.bool (decide ((i:Int) < (j:Int)))),(14,.int .i64 (i:Int)),(15,.int .i64 (j:Int)),(0,.slice ao N cap),(1,.int .i64 (x:Int)),(2,.int .i64 (m:Int)),(3,.int .i64 (b:Int)),(4,.func (.func 7) #[] #[])] fun a ha=>?_
    refine hKB _ _ ?_;clear hKB KB
    refine cnd ha rfl (fun c1=>?_) (fun c1=>?_)
    rotate_left
    · refine wx ?_
      have c1:=of_decide_eq_false c1
      rw [bsF_done _ (by omega)] at hB
      rw [← hB] at hT
      refine hKL _ _ ?_
      refine wp_seq_k fun KM hKM=>?_
      refine wp_seq_k fun K hK=>?_
      refine wp_region_lit ?_
      refine sf ha 2 [(17,.int .i64 (m:Int)),(14,.int .i64 (i:Int)),(0,.slice ao N cap),(1,.int .i64 (x:Int)),(2,.int .i64 (m:Int)),(3,.int .i64 (b:Int)),(4,.func (.func 7) #[] #[])] fun a ha=>?_
      refine hK _ _ ?_;clear hK K
      refine wp_block ?_
      refine wp_loop_ghost (fun kk a w2=>∃ (q:Nat) (zs:List S_api_Choice),kk=q - i∧(q≤m∧i≤q)∧zs.length=N∧dnF zs q (q - i)=tgt∧Own rS_api_Choice 46 w2 M ao cap zs∧Chg (blkL ao) w w2∧Has a Try.f40.ntmps [(17,.int .i64 (q:Int)),(14,.int .i64 (i:Int)),(0,.slice ao N cap),(1,.int .i64 (x:Int)),(2,.int .i64 (m:Int)),(3,.int .i64 (b:Int)),(4,.func (.func 7) #[] #[])]) (m - i) ?_ ?_
      · exact ⟨m,ys,rfl,by omega,hN,hT,hO,hC,ha⟩
      clear hO hC ha hN hT hY
      rintro kk a w2 ⟨q,ys,rfl,hq,hN,hT,hO,hC,ha⟩
      refine wp_seq_k fun KA hKA=>?_
      refine wp_seq_k fun KB hKB=>?_
      refine wp_region_lit ?_
      refine sf ha 3 [(110,.bool (decide ((i:Int) < (q:Int)))),(17,.int .i64 (q:Int)),(14,.int .i64 (i:Int)),(0,.slice ao N cap),(1,.int .i64 (x:Int)),(2,.int .i64 (m:Int)),(3,.int .i64 (b:Int)),(4,.func (.func 7) #[] #[])] fun a ha=>?_
      refine hKB _ _ ?_;clear hKB KB
      refine cnd ha rfl (fun c1=>?_) (fun c1=>?_)
      rotate_left
      · have c1:=of_decide_eq_false c1
        try rw [hw1] at c1
        rw [show q - i=0 by omega] at hT
        refine wx ?_
        subst hT;refine hKM _ _ ?_;refine wp_ret ?_;try simp only [Exit.then,Exit.inBlock]
        exact rt0r ha rfl ⟨rfl,hO,hC⟩
      have c1:=of_decide_eq_true c1
      try rw [hw1] at c1
      refine wp_skip ?_
      refine hKA _ _ ?_;clear hKA KA
      refine wp_seq_k fun KC hKC=>?_
      have g1:q < ys.length:=by omega
      have g2:q - 1 < ys.length:=by omega
      have es:IntKind.i64.wrap ((q:Int) - 1)=((q - 1:Nat):Int):=wrapE _ (by omega) (by omega)
      obtain ⟨g,rfl⟩:=Own.addr hO g1
      refine wp_block ?_
      have hgM:=hO.inM
      refine drl 14 (by kernel_rfl) fun w5 hc5=>?_
      have hO:=hO.chg hc5 (Ok.nil _ _) (Ok.refl _ _) (fun _ _ h=>nomatch h) (fun g h=>by simp [blkL] at h;subst h;exact hgM)
      have hid:=Chg.refl [] w5
      obtain ⟨cA,hRA,hEA⟩:=Own.el hO g1
      obtain ⟨cB,hRB,hEB⟩:=Own.el hO g2
      refine tlp 0 0 (.slice (some ⟨g,0,none⟩) N cap) ha hid (hk:=fun a ha=>?_)
      refine tlp 1 0 (.int .i64 (q:Int)) ha hid (hk:=fun a ha=>?_)
      refine tlp 2 0 (.slice (some ⟨g,0,none⟩) N cap) ha hid (hk:=fun a ha=>?_)
      refine tlp 3 0 (.int .i64 (q:Int)) ha hid (hk:=fun a ha=>?_)
      refine tlp 4 0 (.int .i64 (IntKind.i64.wrap ((q:Int) - (1:Int)))) ha hid (hk:=fun a ha=>?_)
      rw [es] at ha
      refine tlp 5 0 (.slice (some ⟨g,0,none⟩) N cap) ha hid (hk:=fun a ha=>?_)
      refine tlp 6 0 (.int .i64 (q:Int)) ha hid (hk:=fun a ha=>?_)
      refine tlp 7 0 (.int .i64 (IntKind.i64.wrap ((q:Int) - (1:Int)))) ha hid (hk:=fun a ha=>?_)
      rw [es] at ha
      refine tla (v:=.pointer (some ⟨g,0+(q - 1)*rS_api_Choice.sz,none⟩)) 8 ha hid rfl (fun w'=>ix_run (r:=rS_api_Choice) (T:=46) (xs:=ys) (k:=.i64) (i:=(((q - 1):Nat):Int)) (o:=0) ha (by kernel_rfl) (by kernel_rfl) (by rw [hN];rfl) (by rfl) rfl (Int.natCast_nonneg _) (Int.ofNat_lt.2 g2)) (hk:=fun a ha=>?_)
      refine tl (v:=.agg cB.toArray) 9 ha hid rfl (fun w' hs=>ldA_run (cs:=cB) ha rfl (aggC hRB) (cells_sub (fun j v hv=>hs.keep (hEB j v hv)) (all:=cB) [] [] (by simp))) (hk:=fun a ha=>?_)
      refine tlp 10 0 (.slice (some ⟨g,0,none⟩) N cap) ha hid (hk:=fun a ha=>?_)
      refine tlp 11 0 (.int .i64 (q:Int)) ha hid (hk:=fun a ha=>?_)
      refine tla (v:=.pointer (some ⟨g,0+q*rS_api_Choice.sz,none⟩)) 12 ha hid rfl (fun w'=>ix_run (r:=rS_api_Choice) (T:=46) (xs:=ys) (k:=.i64) (i:=((q:Nat):Int)) (o:=0) ha (by kernel_rfl) (by kernel_rfl) (by rw [hN];rfl) (by rfl) rfl (Int.natCast_nonneg _) (Int.ofNat_lt.2 g1)) (hk:=fun a ha=>?_)
      refine tl (v:=.agg cA.toArray) 13 ha hid rfl (fun w' hs=>ldA_run (cs:=cA) ha rfl (aggC hRA) (cells_sub (fun j v hv=>hs.keep (hEA j v hv)) (all:=cA) [] [] (by simp))) (hk:=fun a ha=>?_)
      refine al2 14 (h:=fun K hK=>?_)
      refine hop (w':=_) ha rfl rfl rfl (ix_run (r:=rS_api_Choice) (T:=46) (xs:=ys) (k:=.i64) (i:=((q:Nat):Int)) (o:=0) ha (by kernel_rfl) (by kernel_rfl) (by rw [hN];rfl) (by rfl) rfl (Int.natCast_nonneg _) (Int.ofNat_lt.2 g1)) fun a ha=>?_
      refine wpl_end (hK _ _ ?_);clear hK K
      refine al2 15 (h:=fun K hK=>?_)
      refine stS (r:=rS_api_Choice) (i:=q) (z:=ys[(q - 1)]'g2) (l:=cB) ha rfl (by first | (rw [Nat.zero_add];done) | (rw [Nat.zero_add];rfl)) rfl (infC hRB) (oneC hRB) rfl hO g1 (rS_api_Choice.len hRB) (fun w' hc=>rS_api_Choice.chg hRB hc (Ok.one (.inl hgM)) (Ok.refl _ _)) fun a w6 ha hO hc6=>?_
      refine wpl_end (hK _ _ ?_);clear hK K
      have hRA:=rS_api_Choice.chg hRA hc6 (Ok.one (.inl hgM)) (Ok.refl _ _)
      refine al2 16 (h:=fun K hK=>?_)
      refine hop (w':=_) ha rfl rfl rfl (ix_run (r:=rS_api_Choice) (T:=46) (xs:=ys) (k:=.i64) (i:=(((q - 1):Nat):Int)) (o:=0) ha (by kernel_rfl) (by kernel_rfl) (by rw [hN];rfl) (by rfl) rfl (Int.natCast_nonneg _) (Int.ofNat_lt.2 g2)) fun a ha=>?_
      refine wpl_end (hK _ _ ?_);clear hK K
      refine al2 17 (h:=fun K hK=>?_)
      refine stS (r:=rS_api_Choice) (i:=(q - 1)) (z:=ys[q]'g1) (l:=cA) ha rfl (by first | (rw [Nat.zero_add];done) | (rw [Nat.zero_add];rfl)) rfl (infC hRA) (oneC hRA) rfl hO (by rw [List.length_set];exact g2) (rS_api_Choice.len hRA) (fun w' hc=>rS_api_Choice.chg hRA hc (Ok.one (.inl hgM)) (Ok.refl _ _)) fun a w7 ha hO hc7=>?_
      refine wpl_end (hK _ _ ?_);clear hK K
      rw [swp_at g1 g2] at hO
      have hC:=((hC.trans hc5 (Ok.nil _ _)).trans hc6 (fun x h=>.inl (by simpa [blkL] using h))).trans hc7 (fun x h=>.inl (by simpa [blkL] using h))
      refine dl ?_
      refine hKC _ _ ?_;clear hKC KC
      refine wp_region_lit ?_
      refine sf ha 3 [(17,.int .i64 (IntKind.i64.wrap ((q:Int) - 1))),(14,.int .i64 (i:Int)),(0,.slice (some ⟨g,0,none⟩) N cap),(1,.int .i64 (x:Int)),(2,.int .i64 (m:Int)),(3,.int .i64 (b:Int)),(4,.func (.func 7) #[] #[])] fun a ha=>?_
      rw [es] at ha
      rw [show q - i=(q - 1 - i)+1 by omega,dnF] at hT
      exact ⟨q - 1 - i,by omega,q - 1,_,rfl,by omega,by rw [swp_len];exact hN,hT,hO,hC,ha⟩
    have c1:(i:Int) < j:=of_decide_eq_true c1
    have hij:i < j:=by omega
    obtain ⟨kk,rfl⟩:∃ k',kk=k'+1:=⟨kk - 1,by omega⟩
    rw [bsF,if_pos hij] at hB
    refine wp_skip ?_
    refine hKA _ _ ?_;clear hKA KA
    refine wp_block ?_
    refine wp_seq_k fun KB hKB=>?_
    refine wp_region_lit ?_
    refine sf ha 7 [(16,.int .i64 (IntKind.i64.wrap (Int.fdiv (IntKind.u64.wrap (IntKind.i64.wrap ((i:Int)+(j:Int)))) (2^(min (1:Int).toNat IntKind.u64.bits))))),(14,.int .i64 (i:Int)),(15,.int .i64 (j:Int)),(0,.slice ao N cap),(1,.int .i64 (x:Int)),(2,.int .i64 (m:Int)),(3,.int .i64 (b:Int)),(4,.func (.func 7) #[] #[])] fun a ha=>?_
    rw [midE i j (by omega)] at ha
    refine hKB _ _ ?_;clear hKB KB
    obtain ⟨h,hh⟩:∃ h,h=(i+j) / 2:=⟨_,rfl⟩
    rw [← hh] at ha hB
    have hm1:i≤h:=by omega
    have hm2:h < j:=by omega
    have gx:m < ys.length:=by omega
    have gy:h < ys.length:=by omega
    obtain ⟨r,hr⟩:=hD _ (hY _ (List.getElem_mem gx)) _ (hY _ (List.getElem_mem gy))
    have hL:=ltA_D gx gy hr
    simp only [hL] at hB
    have eh:IntKind.i64.wrap ((h:Int)+1)=((h+1:Nat):Int):=wrapE _ (by omega) (by omega)
    refine wp_seq_k fun KB hKB=>?_
    obtain ⟨g,rfl⟩:=Own.addr hO gx
    obtain ⟨cA,hRA,hEA⟩:=Own.el hO gx
    obtain ⟨cB,hRB,hEB⟩:=Own.el hO gy
    refine drq0 (fun w'=>Chg [] w2 w') (by kernel_rfl) (by kernel_rfl) (fun _ h=>h) ?_
    refine qP 0 (.func (.func 7) #[] #[]) ha fun a ha=>?_
    refine qP 0 (.slice (some ⟨g,0,none⟩) N cap) ha fun a ha=>?_
    refine qP 0 (.int .i64 (m:Int)) ha fun a ha=>?_
    refine qV ha (fun w' hs=>ix_run (r:=rS_api_Choice) (T:=46) (xs:=ys) (k:=.i64) (i:=((m:Nat):Int)) (o:=0) ha (by kernel_rfl) (by kernel_rfl) (by rw [hN];rfl) (by rfl) rfl (Int.natCast_nonneg _) (Int.ofNat_lt.2 gx)) fun a ha=>?_
    refine qV (v:=.agg cA.toArray) ha (fun w' hs=>ldA_run (cs:=cA) ha rfl (aggC hRA) (cells_sub (fun j v hv=>hs.keep (hEA j v hv)) (all:=cA) [] [] (by simp))) fun a ha=>?_
    refine qP 0 (.slice (some ⟨g,0,none⟩) N cap) ha fun a ha=>?_
    refine qP 0 (.int .i64 (h:Int)) ha fun a ha=>?_
    refine qV ha (fun w' hs=>ix_run (r:=rS_api_Choice) (T:=46) (xs:=ys) (k:=.i64) (i:=((h:Nat):Int)) (o:=0) ha (by kernel_rfl) (by kernel_rfl) (by rw [hN];rfl) (by rfl) rfl (Int.natCast_nonneg _) (Int.ofNat_lt.2 gy)) fun a ha=>?_
    refine qV (v:=.agg cB.toArray) ha (fun w' hs=>ldA_run (cs:=cB) ha rfl (aggC hRB) (cells_sub (fun j v hv=>hs.keep (hEB j v hv)) (all:=cB) [] [] (by simp))) fun a ha=>?_
    refine qcv (.int .i64 r) ha rfl (by rfl) (by kernel_rfl) rfl rfl rfl (fun w' hs=>(cmpTo (rS_api_Choice.chg hRA hs (Ok.nil _ _) (Ok.refl _ _)) (rS_api_Choice.chg hRB hs (Ok.nil _ _) (Ok.refl _ _)) hr).mono fun v w'' ⟨hv,hc⟩=>⟨hv,hs.trans hc (Ok.nil _ _)⟩) fun a ha=>?_
    refine qP 0 (.bool (decide (r < (0:Int)))) ha fun a ha=>?_
    refine qP 0 (.bool (!decide (r < (0:Int)))) ha fun a ha=>?_
    refine wpQuiet_nil ?_
    intro w5 hc5
    have hO:=hO.chg hc5 (Ok.nil _ _) (Ok.refl _ _) (fun _ _ h=>nomatch h) hO.inM'
    have hC:=hC.t0 hc5
    refine wpl_end ?_
    refine hKB _ _ ?_;clear hKB KB
    have ha:=ha.sel (env':=[(103,.bool (!decide (r < (0:Int)))),(16,.int .i64 (h:Int)),(14,.int .i64 (i:Int)),(15,.int .i64 (j:Int)),(0,.slice (some ⟨g,0,none⟩) N cap),(1,.int .i64 (x:Int)),(2,.int .i64 (m:Int)),(3,.int .i64 (b:Int)),(4,.func (.func 7) #[] #[])]) (by kernel_rfl)
    refine cnd ha rfl (fun c2=>?_) (fun c2=>?_)
    · rw [c2,if_pos rfl] at hB
      refine wp_region_lit ?_
      refine sf ha 3 [(14,.int .i64 (IntKind.i64.wrap ((h:Int)+1))),(15,.int .i64 (j:Int)),(0,.slice (some ⟨g,0,none⟩) N cap),(1,.int .i64 (x:Int)),(2,.int .i64 (m:Int)),(3,.int .i64 (b:Int)),(4,.func (.func 7) #[] #[])] fun a ha=>?_
      rw [eh] at ha
      exact ⟨kk,by omega,h+1,j,hB,by omega,by omega,by omega,by omega,hO,hC,ha⟩
    · rw [c2,if_neg (by simp)] at hB
      refine wp_region_lit ?_
      refine sf ha 2 [(14,.int .i64 (i:Int)),(15,.int .i64 (h:Int)),(0,.slice (some ⟨g,0,none⟩) N cap),(1,.int .i64 (x:Int)),(2,.int .i64 (m:Int)),(3,.int .i64 (b:Int)),(4,.func (.func 7) #[] #[])] fun a ha=>?_
      exact ⟨kk,by omega,i,h,hB,by omega,by omega,by omega,by omega,hO,hC,ha⟩
  have c0' : b ≠ m + 1 := by have : ¬ (((b - m : Nat) : Int) = 1) := by simpa using c0'
                             omega
  rw [if_neg c0'] at hT
  refine wp_skip ?_
  refine hKI _ _ ?_;clear hKI KI
  obtain ⟨d,hd⟩:∃ d,d=(x+b) / 2:=⟨_,rfl⟩
  have d1:x+b - 1≤2*d:=by omega
  have d2:2*d≤x+b:=by omega
  have en:IntKind.i64.wrap ((d:Int)+(m:Int))=((d+m:Nat):Int):=wrapE _ (by omega) (by omega)
  have eb:IntKind.i64.wrap (((d+m:Nat):Int) - (b:Int))=((d+m:Nat):Int) - (b:Int):=by rw [IntKind.wrap_i64];omega
  have ep:IntKind.i64.wrap (((d+m:Nat):Int) - 1)=((d+m - 1:Nat):Int):=wrapE _ (by omega) (by omega)
  refine wp_seq_k fun K hK=>?_
  refine wp_region_lit ?_
  refine sf ha 7 [(18,.int .i64 (IntKind.i64.wrap (Int.fdiv (IntKind.u64.wrap (IntKind.i64.wrap ((x:Int)+(b:Int)))) (2^(min (1:Int).toNat IntKind.u64.bits))))),(0,.slice ao N cap),(1,.int .i64 (x:Int)),(2,.int .i64 (m:Int)),(3,.int .i64 (b:Int)),(4,.func (.func 7) #[] #[])] fun a ha=>?_
  rw [midE x b (by omega),← hd] at ha
  refine hK _ _ ?_;clear hK K
  refine wp_seq_k fun K hK=>?_
  refine wp_region_lit ?_
  refine sf ha 4 [(19,.int .i64 (IntKind.i64.wrap ((d:Int)+(m:Int)))),(18,.int .i64 (d:Int)),(0,.slice ao N cap),(1,.int .i64 (x:Int)),(2,.int .i64 (m:Int)),(3,.int .i64 (b:Int)),(4,.func (.func 7) #[] #[])] fun a ha=>?_
  rw [en] at ha
  refine hK _ _ ?_;clear hK K
  refine wp_seq_k fun K hK=>?_
  refine wp_region_lit ?_
  refine sf ha 2 [(19,.int .i64 ((d+m:Nat):Int)),(18,.int .i64 (d:Int)),(0,.slice ao N cap),(1,.int .i64 (x:Int)),(2,.int .i64 (m:Int)),(3,.int .i64 (b:Int)),(4,.func (.func 7) #[] #[])] fun a ha=>?_
  refine hK _ _ ?_;clear hK K
  refine wp_seq_k fun KI hKI=>?_
  refine wp_seq_k fun K hK=>?_
  refine wp_region_lit ?_
  refine sf ha 3 [(140,.bool (decide ((d:Int) < (m:Int)))),(19,.int .i64 ((d+m:Nat):Int)),(18,.int .i64 (d:Int)),(0,.slice ao N cap),(1,.int .i64 (x:Int)),(2,.int .i64 (m:Int)),(3,.int .i64 (b:Int)),(4,.func (.func 7) #[] #[])] fun a ha=>?_
  refine hK _ _ ?_;clear hK K
  have J:∀ (s0 r0:Nat) (a:Act),s0=(if d < m then d+m - b else x)→r0=(if d < m then d else m)→Has a Try.f40.ntmps [(20,.int .i64 (s0:Int)),(21,.int .i64 (r0:Int)),(19,.int .i64 ((d+m:Nat):Int)),(18,.int .i64 (d:Int)),(0,.slice ao N cap),(1,.int .i64 (x:Int)),(2,.int .i64 (m:Int)),(3,.int .i64 (b:Int)),(4,.func (.func 7) #[] #[])]→KI a w:=by
    clear ha
    intro s0 r0 a hs0 hr0 ha
    have q1:x≤s0:=by rw [hs0];split<;>omega
    have q2:d+m≤b+s0:=by rw [hs0];split<;>omega
    have q3:r0≤m:=by rw [hr0];split<;>omega
    have q4:r0≤d:=by rw [hr0];split<;>omega
    have q5:s0≤r0:=by rw [hs0,hr0];split<;>omega
    refine hKI _ _ ?_;clear hKI KI
    refine wp_seq_k fun K hK=>?_
    refine wp_region_lit ?_
    refine sf ha 3 [(20,.int .i64 (s0:Int)),(21,.int .i64 (r0:Int)),(22,.int .i64 (IntKind.i64.wrap (((d+m:Nat):Int) - (1:Int)))),(19,.int .i64 ((d+m:Nat):Int)),(18,.int .i64 (d:Int)),(0,.slice ao N cap),(1,.int .i64 (x:Int)),(2,.int .i64 (m:Int)),(3,.int .i64 (b:Int)),(4,.func (.func 7) #[] #[])] fun a ha=>?_
    rw [ep] at ha
    refine hK _ _ ?_;clear hK K
    refine wp_seq_k fun KL hKL=>?_
    refine wp_block ?_
    refine wp_loop_ghost (fun kk a w2=>∃ (i j:Nat),bsF (fun h=>!ltA (ltD k) ys (d+m - 1 - h) h) kk i j=bsF (fun h=>!ltA (ltD k) ys (d+m - 1 - h) h) (b - x) (s0) (r0)∧s0≤i∧i≤j∧j≤r0∧j - i≤kk∧Own rS_api_Choice 46 w2 M ao cap ys∧Chg (blkL ao) w w2∧Has a Try.f40.ntmps [(20,.int .i64 (i:Int)),(21,.int .i64 (j:Int)),(22,.int .i64 ((d+m - 1:Nat):Int)),(19,.int .i64 ((d+m:Nat):Int)),(18,.int .i64 (d:Int)),(0,.slice ao N cap),(1,.int .i64 (x:Int)),(2,.int .i64 (m:Int)),(3,.int .i64 (b:Int)),(4,.func (.func 7) #[] #[])]) (b - x) ?_ ?_
    · exact ⟨s0,r0,rfl,Nat.le_refl _,by omega,Nat.le_refl _,by omega,hO,hC,ha⟩
    clear hO hC ha
    rintro kk a w2 ⟨i,j,hB,hlo,hij,hhi,hkk,hO,hC,ha⟩
    refine wp_seq_k fun KA hKA=>?_
    refine wp_seq_k fun KB hKB=>?_
    refine wp_region_lit ?_
    refine sf ha 3 [(151,.bool (decide ((i:Int) < (j:Int)))),(20,.int .i64 (i:Int)),(21,.int .i64 (j:Int)),(22,.int .i64 ((d+m - 1:Nat):Int)),(19,.int .i64 ((d+m:Nat):Int)),(18,.int .i64 (d:Int)),(0,.slice ao N cap),(1,.int .i64 (x:Int)),(2,.int .i64 (m:Int)),(3,.int .i64 (b:Int)),(4,.func (.func 7) #[] #[])] fun a ha=>?_
    refine hKB _ _ ?_;clear hKB KB
    refine cnd ha rfl (fun c1=>?_) (fun c1=>?_)
    rotate_left
    · refine wx ?_
      have c1:=of_decide_eq_false c1
      rw [bsF_done _ (by omega)] at hB
      have hs:symS (ltD k) ys x m b=i:=by
        unfold symS
        rw [← hd,← hs0,← hr0,← hB]
      clear hB
      simp only [hs,← hd] at hT
      obtain ⟨e,he⟩:∃ e,e=d+m - i:=⟨_,rfl⟩
      rw [← he] at hT
      have ee:IntKind.i64.wrap (((d+m:Nat):Int) - (i:Int))=(e:Int):=wrapE _ (by omega) (by omega)
      refine hKL _ _ ?_
      refine wp_seq_k fun K hK=>?_
      refine wp_region_lit ?_
      refine sf ha 4 [(24,.int .i64 (IntKind.i64.wrap (((d+m:Nat):Int) - (i:Int)))),(20,.int .i64 (i:Int)),(18,.int .i64 (d:Int)),(0,.slice ao N cap),(1,.int .i64 (x:Int)),(2,.int .i64 (m:Int)),(3,.int .i64 (b:Int)),(4,.func (.func 7) #[] #[])] fun a ha=>?_
      rw [ee] at ha
      refine hK _ _ ?_;clear hK K
      refine wp_seq_k fun KJ hKJ=>?_
      refine wp_seq_k fun K hK=>?_
      have J:∀ (c:Bool) (a:Act),(c=true↔i < m∧m < e)→Has a Try.f40.ntmps [(185,.bool c),(24,.int .i64 (e:Int)),(20,.int .i64 (i:Int)),(18,.int .i64 (d:Int)),(0,.slice ao N cap),(1,.int .i64 (x:Int)),(2,.int .i64 (m:Int)),(3,.int .i64 (b:Int)),(4,.func (.func 7) #[] #[])]→K a w2:=by
        clear ha
        intro c a hc ha
        refine hK _ _ ?_;clear hK K
        have J2:∀ (a:Act) (w3:World) (zs:List S_api_Choice),(if i < m∧m < e then rotF (e - i) ys m (m - i) (e - m) else ys)=zs→Own rS_api_Choice 46 w3 M ao cap zs→Chg (blkL ao) w w3→Has a Try.f40.ntmps [(24,.int .i64 (e:Int)),(20,.int .i64 (i:Int)),(18,.int .i64 (d:Int)),(0,.slice ao N cap),(1,.int .i64 (x:Int)),(2,.int .i64 (m:Int)),(3,.int .i64 (b:Int)),(4,.func (.func 7) #[] #[])]→KJ a w3:=by
          clear ha hC hO
          intro a w3 zs hz hO hC ha
          refine hKJ _ _ ?_;clear hKJ KJ
          rw [hz] at hT
          have hzN:zs.length=N:=by rw [← hz];split<;>simp only [rotF_len,hN]
          have hzY:∀ u∈zs,u∈ys:=by
            rw [← hz];intro u hu
            split at hu
            · exact rotF_mem _ _ _ _ _ hu
            · exact hu
          clear hz
          refine wp_seq_k fun KP hKP=>?_
          refine wp_seq_k fun K hK=>?_
          have J:∀ (c:Bool) (a:Act),(c=true↔x < i∧i < d)→Has a Try.f40.ntmps [(199,.bool c),(24,.int .i64 (e:Int)),(20,.int .i64 (i:Int)),(18,.int .i64 (d:Int)),(0,.slice ao N cap),(1,.int .i64 (x:Int)),(2,.int .i64 (m:Int)),(3,.int .i64 (b:Int)),(4,.func (.func 7) #[] #[])]→K a w3:=by
            clear ha
            intro c a hc ha
            refine hK _ _ ?_;clear hK K
            have J3:∀ (a:Act) (w4:World) (vs:List S_api_Choice),(if x < i∧i < d then symF (ltD k) f zs x i d else zs)=vs→Own rS_api_Choice 46 w4 M ao cap vs→Chg (blkL ao) w w4→Has a Try.f40.ntmps [(24,.int .i64 (e:Int)),(20,.int .i64 (i:Int)),(18,.int .i64 (d:Int)),(0,.slice ao N cap),(1,.int .i64 (x:Int)),(2,.int .i64 (m:Int)),(3,.int .i64 (b:Int)),(4,.func (.func 7) #[] #[])]→KP a w4:=by
              clear ha hC hO
              intro a w4 vs hv hO hC ha
              refine hKP _ _ ?_;clear hKP KP
              rw [hv] at hT
              have hvN:vs.length=N:=by rw [← hv];split<;>simp only [symF_len,hzN]
              have hvY:∀ u∈vs,u∈ys:=by
                rw [← hv];intro u hu
                split at hu
                · exact hzY u (symF_mem _ _ _ _ _ _ hu)
                · exact hzY u hu
              clear hv
              refine wp_seq_k fun K hK=>?_
              have J:∀ (c:Bool) (a:Act),(c=true↔d < e∧e < b)→Has a Try.f40.ntmps [(213,.bool c),(24,.int .i64 (e:Int)),(20,.int .i64 (i:Int)),(18,.int .i64 (d:Int)),(0,.slice ao N cap),(1,.int .i64 (x:Int)),(2,.int .i64 (m:Int)),(3,.int .i64 (b:Int)),(4,.func (.func 7) #[] #[])]→K a w4:=by
                clear ha
                intro c a hc ha
                refine hK _ _ ?_;clear hK K
                refine cnd ha rfl (fun c2=>?_) (fun c2=>?_)
                · have c3:=hc.1 c2
                  rw [if_pos c3] at hT
                  refine wp_region_lit ?_
                  refine sf ha 5 [(214,.slice ao N cap),(215,.int .i64 (d:Int)),(216,.int .i64 (e:Int)),(217,.int .i64 (b:Int)),(218,.func (.func 7) #[] #[])] fun a ha=>?_
                  have hW:=ih w4 M vs ao cap hO d e b c3.1 c3.2 (by omega) (by omega) (by omega) (fun u hu v hv=>hD u (hvY u hu) v (hvY v hv))
                  rw [hvN,hT] at hW
                  refine cl ha (by rfl) (by kernel_rfl) (by rfl) (by rfl) (by rfl) hW ?_
                  rintro _ w5 ⟨rfl,hO,hc3⟩ a ha
                  refine wpl_end ?_
                  exact rt0 ha rfl ⟨rfl,hO,hC.trans hc3 (fun x h=>.inl h)⟩
                · rw [if_neg (fun h=>by rw [hc.2 h] at c2;cases c2)] at hT
                  subst hT
                  refine wp_skip ?_
                  exact rt0 ha rfl ⟨rfl,hO,hC⟩
              clear hK
              refine wp_region_lit ?_
              refine sf ha 4 [(209,.bool (decide ((d:Int) < (e:Int)))),(24,.int .i64 (e:Int)),(20,.int .i64 (i:Int)),(18,.int .i64 (d:Int)),(0,.slice ao N cap),(1,.int .i64 (x:Int)),(2,.int .i64 (m:Int)),(3,.int .i64 (b:Int)),(4,.func (.func 7) #[] #[])] fun a ha=>?_
              rcases Bool.eq_false_or_eq_true (decide ((d:Int) < (e:Int))) with hb | hb
              · have ha:=ha.lit hb
                have hb:=of_decide_eq_true hb
                refine sgf ha 4 [2,2,2,3] [(213,.bool (decide ((e:Int) < (b:Int)))),(24,.int .i64 (e:Int)),(20,.int .i64 (i:Int)),(18,.int .i64 (d:Int)),(0,.slice ao N cap),(1,.int .i64 (x:Int)),(2,.int .i64 (m:Int)),(3,.int .i64 (b:Int)),(4,.func (.func 7) #[] #[])] fun a ha=>?_
                exact J _ _ (by rw [decide_eq_true_eq];omega) ha
              · have ha:=ha.lit hb
                have hb:=of_decide_eq_false hb
                refine sgf ha 4 [1,1,1,4] [(213,.bool false),(24,.int .i64 (e:Int)),(20,.int .i64 (i:Int)),(18,.int .i64 (d:Int)),(0,.slice ao N cap),(1,.int .i64 (x:Int)),(2,.int .i64 (m:Int)),(3,.int .i64 (b:Int)),(4,.func (.func 7) #[] #[])] fun a ha=>?_
                exact J _ _ (by simp;omega) ha
            refine cnd ha rfl (fun c2=>?_) (fun c2=>?_)
            · have c3:=hc.1 c2
              refine wp_region_lit ?_
              refine sf ha 5 [(200,.slice ao N cap),(201,.int .i64 (x:Int)),(202,.int .i64 (i:Int)),(203,.int .i64 (d:Int)),(204,.func (.func 7) #[] #[]),(24,.int .i64 (e:Int)),(20,.int .i64 (i:Int)),(18,.int .i64 (d:Int)),(0,.slice ao N cap),(1,.int .i64 (x:Int)),(2,.int .i64 (m:Int)),(3,.int .i64 (b:Int)),(4,.func (.func 7) #[] #[])] fun a ha=>?_
              have hW:=ih w3 M zs ao cap hO x i d c3.1 c3.2 (by omega) (by omega) (by omega) (fun u hu v hv=>hD u (hzY u hu) v (hzY v hv))
              rw [hzN] at hW
              refine cl ha (by rfl) (by kernel_rfl) (by rfl) (by rfl) (by rfl) hW ?_
              rintro _ w5 ⟨rfl,hO,hc3⟩ a ha
              refine wpl_end ?_
              exact J3 _ _ _ (if_pos c3) hO (hC.trans hc3 (fun x h=>.inl h)) (ha.sel (by kernel_rfl))
            · refine wp_skip ?_
              exact J3 _ _ _ (if_neg (fun h=>by rw [hc.2 h] at c2;cases c2)) hO hC (ha.sel (by kernel_rfl))
          clear hK
          refine wp_region_lit ?_
          refine sf ha 4 [(195,.bool (decide ((x:Int) < (i:Int)))),(24,.int .i64 (e:Int)),(20,.int .i64 (i:Int)),(18,.int .i64 (d:Int)),(0,.slice ao N cap),(1,.int .i64 (x:Int)),(2,.int .i64 (m:Int)),(3,.int .i64 (b:Int)),(4,.func (.func 7) #[] #[])] fun a ha=>?_
          rcases Bool.eq_false_or_eq_true (decide ((x:Int) < (i:Int))) with hb | hb
          · have ha:=ha.lit hb
            have hb:=of_decide_eq_true hb
            refine sgf ha 4 [2,2,2,3] [(199,.bool (decide ((i:Int) < (d:Int)))),(24,.int .i64 (e:Int)),(20,.int .i64 (i:Int)),(18,.int .i64 (d:Int)),(0,.slice ao N cap),(1,.int .i64 (x:Int)),(2,.int .i64 (m:Int)),(3,.int .i64 (b:Int)),(4,.func (.func 7) #[] #[])] fun a ha=>?_
            exact J _ _ (by rw [decide_eq_true_eq];omega) ha
          · have ha:=ha.lit hb
            have hb:=of_decide_eq_false hb
            refine sgf ha 4 [1,1,1,4] [(199,.bool false),(24,.int .i64 (e:Int)),(20,.int .i64 (i:Int)),(18,.int .i64 (d:Int)),(0,.slice ao N cap),(1,.int .i64 (x:Int)),(2,.int .i64 (m:Int)),(3,.int .i64 (b:Int)),(4,.func (.func 7) #[] #[])] fun a ha=>?_
            exact J _ _ (by simp;omega) ha
        refine cnd ha rfl (fun c2=>?_) (fun c2=>?_)
        · have c3:=hc.1 c2
          refine wp_region_lit ?_
          refine sf ha 5 [(186,.slice ao N cap),(187,.int .i64 (i:Int)),(188,.int .i64 (m:Int)),(189,.int .i64 (e:Int)),(190,.func (.func 7) #[] #[]),(24,.int .i64 (e:Int)),(20,.int .i64 (i:Int)),(18,.int .i64 (d:Int)),(0,.slice ao N cap),(1,.int .i64 (x:Int)),(2,.int .i64 (m:Int)),(3,.int .i64 (b:Int)),(4,.func (.func 7) #[] #[])] fun a ha=>?_
          have hW:=rot_walk w2 M ys ao cap hO i m e c3.1 c3.2 (by omega) (by omega) (.func (.func 7) #[] #[])
          rw [hN] at hW
          refine cl ha (by rfl) (by kernel_rfl) (by rfl) (by rfl) (by rfl) hW ?_
          rintro _ w5 ⟨rfl,hO,hc3⟩ a ha
          refine wpl_end ?_
          exact J2 _ _ _ (if_pos c3) hO (hC.trans hc3 (fun x h=>.inl h)) (ha.sel (by kernel_rfl))
        · refine wp_skip ?_
          exact J2 _ _ _ (if_neg (fun h=>by rw [hc.2 h] at c2;cases c2)) hO hC (ha.sel (by kernel_rfl))
      clear hK
      refine wp_region_lit ?_
      refine sf ha 4 [(181,.bool (decide ((i:Int) < (m:Int)))),(24,.int .i64 (e:Int)),(20,.int .i64 (i:Int)),(18,.int .i64 (d:Int)),(0,.slice ao N cap),(1,.int .i64 (x:Int)),(2,.int .i64 (m:Int)),(3,.int .i64 (b:Int)),(4,.func (.func 7) #[] #[])] fun a ha=>?_
      rcases Bool.eq_false_or_eq_true (decide ((i:Int) < (m:Int))) with hb | hb
      · have ha:=ha.lit hb
        have hb:=of_decide_eq_true hb
        refine sgf ha 4 [2,2,2,3] [(185,.bool (decide ((m:Int) < (e:Int)))),(24,.int .i64 (e:Int)),(20,.int .i64 (i:Int)),(18,.int .i64 (d:Int)),(0,.slice ao N cap),(1,.int .i64 (x:Int)),(2,.int .i64 (m:Int)),(3,.int .i64 (b:Int)),(4,.func (.func 7) #[] #[])] fun a ha=>?_
        exact J _ _ (by rw [decide_eq_true_eq];omega) ha
      · have ha:=ha.lit hb
        have hb:=of_decide_eq_false hb
        refine sgf ha 4 [1,1,1,4] [(185,.bool false),(24,.int .i64 (e:Int)),(20,.int .i64 (i:Int)),(18,.int .i64 (d:Int)),(0,.slice ao N cap),(1,.int .i64 (x:Int)),(2,.int .i64 (m:Int)),(3,.int .i64 (b:Int)),(4,.func (.func 7) #[] #[])] fun a ha=>?_
        exact J _ _ (by simp;omega) ha
    have c1:(i:Int) < j:=of_decide_eq_true c1
    have hij:i < j:=by omega
    obtain ⟨kk,rfl⟩:∃ k',kk=k'+1:=⟨kk - 1,by omega⟩
    rw [bsF,if_pos hij] at hB
    refine wp_skip ?_
    refine hKA _ _ ?_;clear hKA KA
    refine wp_block ?_
    refine wp_seq_k fun KB hKB=>?_
    refine wp_region_lit ?_
    refine sf ha 7 [(23,.int .i64 (IntKind.i64.wrap (Int.fdiv (IntKind.u64.wrap (IntKind.i64.wrap ((i:Int)+(j:Int)))) (2^(min (1:Int).toNat IntKind.u64.bits))))),(20,.int .i64 (i:Int)),(21,.int .i64 (j:Int)),(22,.int .i64 ((d+m - 1:Nat):Int)),(19,.int .i64 ((d+m:Nat):Int)),(18,.int .i64 (d:Int)),(0,.slice ao N cap),(1,.int .i64 (x:Int)),(2,.int .i64 (m:Int)),(3,.int .i64 (b:Int)),(4,.func (.func 7) #[] #[])] fun a ha=>?_
    rw [midE i j (by omega)] at ha
    refine hKB _ _ ?_;clear hKB KB
    obtain ⟨h,hh⟩:∃ h,h=(i+j) / 2:=⟨_,rfl⟩
    rw [← hh] at ha hB
    have hm1:i≤h:=by omega
    have hm2:h < j:=by omega
    have gx:d+m - 1 - h < ys.length:=by omega
    have gy:h < ys.length:=by omega
    have eq:IntKind.i64.wrap (((d+m - 1:Nat):Int) - (h:Int))=((d+m - 1 - h:Nat):Int):=wrapE _ (by omega) (by omega)
    obtain ⟨r,hr⟩:=hD _ (hY _ (List.getElem_mem gx)) _ (hY _ (List.getElem_mem gy))
    have hL:=ltA_D gx gy hr
    simp only [hL] at hB
    have eh:IntKind.i64.wrap ((h:Int)+1)=((h+1:Nat):Int):=wrapE _ (by omega) (by omega)
    refine wp_seq_k fun KB hKB=>?_
    obtain ⟨g,rfl⟩:=Own.addr hO gx
    obtain ⟨cA,hRA,hEA⟩:=Own.el hO gx
    obtain ⟨cB,hRB,hEB⟩:=Own.el hO gy
    refine drq0 (fun w'=>Chg [] w2 w') (by kernel_rfl) (by kernel_rfl) (fun _ h=>h) ?_
    refine qP 0 (.func (.func 7) #[] #[]) ha fun a ha=>?_
    refine qP 0 (.slice (some ⟨g,0,none⟩) N cap) ha fun a ha=>?_
    refine qP 0 (.int .i64 ((d+m - 1:Nat):Int)) ha fun a ha=>?_
    refine qP 0 (.int .i64 (h:Int)) ha fun a ha=>?_
    refine qP 0 (.int .i64 (IntKind.i64.wrap (((d+m - 1:Nat):Int) - (h:Int)))) ha fun a ha=>?_
    rw [eq] at ha
    refine qV ha (fun w' hs=>ix_run (r:=rS_api_Choice) (T:=46) (xs:=ys) (k:=.i64) (i:=(((d+m - 1 - h):Nat):Int)) (o:=0) ha (by kernel_rfl) (by kernel_rfl) (by rw [hN];rfl) (by rfl) rfl (Int.natCast_nonneg _) (Int.ofNat_lt.2 gx)) fun a ha=>?_
    refine qV (v:=.agg cA.toArray) ha (fun w' hs=>ldA_run (cs:=cA) ha rfl (aggC hRA) (cells_sub (fun j v hv=>hs.keep (hEA j v hv)) (all:=cA) [] [] (by simp))) fun a ha=>?_
    refine qP 0 (.slice (some ⟨g,0,none⟩) N cap) ha fun a ha=>?_
    refine qP 0 (.int .i64 (h:Int)) ha fun a ha=>?_
    refine qV ha (fun w' hs=>ix_run (r:=rS_api_Choice) (T:=46) (xs:=ys) (k:=.i64) (i:=((h:Nat):Int)) (o:=0) ha (by kernel_rfl) (by kernel_rfl) (by rw [hN];rfl) (by rfl) rfl (Int.natCast_nonneg _) (Int.ofNat_lt.2 gy)) fun a ha=>?_
    refine qV (v:=.agg cB.toArray) ha (fun w' hs=>ldA_run (cs:=cB) ha rfl (aggC hRB) (cells_sub (fun j v hv=>hs.keep (hEB j v hv)) (all:=cB) [] [] (by simp))) fun a ha=>?_
    refine qcv (.int .i64 r) ha rfl (by rfl) (by kernel_rfl) rfl rfl rfl (fun w' hs=>(cmpTo (rS_api_Choice.chg hRA hs (Ok.nil _ _) (Ok.refl _ _)) (rS_api_Choice.chg hRB hs (Ok.nil _ _) (Ok.refl _ _)) hr).mono fun v w'' ⟨hv,hc⟩=>⟨hv,hs.trans hc (Ok.nil _ _)⟩) fun a ha=>?_
    refine qP 0 (.bool (decide (r < (0:Int)))) ha fun a ha=>?_
    refine qP 0 (.bool (!decide (r < (0:Int)))) ha fun a ha=>?_
    refine wpQuiet_nil ?_
    intro w5 hc5
    have hO:=hO.chg hc5 (Ok.nil _ _) (Ok.refl _ _) (fun _ _ h=>nomatch h) hO.inM'
    have hC:=hC.t0 hc5
    refine wpl_end ?_
    refine hKB _ _ ?_;clear hKB KB
    have ha:=ha.sel (env':=[(171,.bool (!decide (r < (0:Int)))),(23,.int .i64 (h:Int)),(20,.int .i64 (i:Int)),(21,.int .i64 (j:Int)),(22,.int .i64 ((d+m - 1:Nat):Int)),(19,.int .i64 ((d+m:Nat):Int)),(18,.int .i64 (d:Int)),(0,.slice (some ⟨g,0,none⟩) N cap),(1,.int .i64 (x:Int)),(2,.int .i64 (m:Int)),(3,.int .i64 (b:Int)),(4,.func (.func 7) #[] #[])]) (by kernel_rfl)
    refine cnd ha rfl (fun c2=>?_) (fun c2=>?_)
    · rw [c2,if_pos rfl] at hB
      refine wp_region_lit ?_
      refine sf ha 3 [(20,.int .i64 (IntKind.i64.wrap ((h:Int)+1))),(21,.int .i64 (j:Int)),(22,.int .i64 ((d+m - 1:Nat):Int)),(19,.int .i64 ((d+m:Nat):Int)),(18,.int .i64 (d:Int)),(0,.slice (some ⟨g,0,none⟩) N cap),(1,.int .i64 (x:Int)),(2,.int .i64 (m:Int)),(3,.int .i64 (b:Int)),(4,.func (.func 7) #[] #[])] fun a ha=>?_
      rw [eh] at ha
      exact ⟨kk,by omega,h+1,j,hB,by omega,by omega,by omega,by omega,hO,hC,ha⟩
    · rw [c2,if_neg (by simp)] at hB
      refine wp_region_lit ?_
      refine sf ha 2 [(20,.int .i64 (i:Int)),(21,.int .i64 (h:Int)),(22,.int .i64 ((d+m - 1:Nat):Int)),(19,.int .i64 ((d+m:Nat):Int)),(18,.int .i64 (d:Int)),(0,.slice (some ⟨g,0,none⟩) N cap),(1,.int .i64 (x:Int)),(2,.int .i64 (m:Int)),(3,.int .i64 (b:Int)),(4,.func (.func 7) #[] #[])] fun a ha=>?_
      exact ⟨kk,by omega,i,h,hB,by omega,by omega,by omega,by omega,hO,hC,ha⟩
  refine cnd ha rfl (fun c2=>?_) (fun c2=>?_)
  · have c2:(d:Int) < m:=of_decide_eq_true c2
    refine wp_seq_k fun K hK=>?_
    refine wp_region_lit ?_
    refine sf ha 4 [(20,.int .i64 (IntKind.i64.wrap (((d+m:Nat):Int) - (b:Int)))),(19,.int .i64 ((d+m:Nat):Int)),(18,.int .i64 (d:Int)),(0,.slice ao N cap),(1,.int .i64 (x:Int)),(2,.int .i64 (m:Int)),(3,.int .i64 (b:Int)),(4,.func (.func 7) #[] #[])] fun a ha=>?_
    rw [eb,show ((d+m:Nat):Int) - (b:Int)=((d+m - b:Nat):Int) by omega] at ha
    refine hK _ _ ?_;clear hK K
    refine wp_region_lit ?_
    refine sf ha 2 [(20,.int .i64 ((d+m - b:Nat):Int)),(21,.int .i64 (d:Int)),(19,.int .i64 ((d+m:Nat):Int)),(18,.int .i64 (d:Int)),(0,.slice ao N cap),(1,.int .i64 (x:Int)),(2,.int .i64 (m:Int)),(3,.int .i64 (b:Int)),(4,.func (.func 7) #[] #[])] fun a ha=>?_
    exact J _ _ _ (by rw [if_pos (by omega)]) (by rw [if_pos (by omega)]) ha
  · have c2:¬ (d:Int) < m:=of_decide_eq_false c2
    refine wp_seq_k fun K hK=>?_
    refine wp_region_lit ?_
    refine sf ha 2 [(20,.int .i64 (x:Int)),(19,.int .i64 ((d+m:Nat):Int)),(18,.int .i64 (d:Int)),(0,.slice ao N cap),(1,.int .i64 (x:Int)),(2,.int .i64 (m:Int)),(3,.int .i64 (b:Int)),(4,.func (.func 7) #[] #[])] fun a ha=>?_
    refine hK _ _ ?_;clear hK K
    refine wp_region_lit ?_
    refine sf ha 2 [(20,.int .i64 (x:Int)),(21,.int .i64 (m:Int)),(19,.int .i64 ((d+m:Nat):Int)),(18,.int .i64 (d:Int)),(0,.slice ao N cap),(1,.int .i64 (x:Int)),(2,.int .i64 (m:Int)),(3,.int .i64 (b:Int)),(4,.func (.func 7) #[] #[])] fun a ha=>?_
    exact J _ _ _ (by rw [if_neg (by omega)]) (by rw [if_neg (by omega)]) ha
section
seal insI symF
theorem st_pre {α:Type} (lt:α→α→Bool) {xs ys tgt:List α} {N z:Nat} (hN0:N=xs.length) (hT:(if N < 20 then insI lt 0 (N - 1) xs 1 else
    let l1:=insI lt 0 19 xs 1
    let l2:=insI lt 20 (N - 21) l1 21
    if 20 < N then symF lt N l2 0 20 N else l2)=tgt) (hz:(z=0∧ys=xs∧N < 20)∨(z=20∧20≤N∧ys=insI lt 0 19 xs 1)) :
    ys.length=N∧(∀ u∈ys,u∈xs)∧z≤N∧(if 20 < N then symF lt N (insI lt z (N - (z+1)) ys (z+1)) 0 20 N else insI lt z (N - (z+1)) ys (z+1))=tgt:=by
  rcases hz with ⟨rfl,rfl,h⟩ | ⟨rfl,h,rfl⟩
  · rw [if_pos h] at hT
    exact ⟨hN0.symm,fun _ h=>h,Nat.zero_le _,by rw [if_neg (by omega)];exact hT⟩
  · rw [if_neg (by omega)] at hT
    simp only at hT
    exact ⟨by rw [insI_len];exact hN0.symm,fun u hu=>insI_mem _ _ _ _ _ hu,h,by simp only [show 20+1=21 from rfl];exact hT⟩
set_option maxHeartbeats 2000000 in
set_option maxRecDepth 100000 in
theorem stable_walk (k:Nat) (w:World) (M:List Nat) (xs:List S_api_Choice) (ao:Option Addr) (cap:Nat) (hO:Own rS_api_Choice 46 w M ao cap xs) (hl:xs.length < 40) (hD:∀ u∈xs,∀ v∈xs,∃ r,decide_Compare.f k u v=some r) :
    To Try.prog 36 [.slice ao xs.length cap,.int .i64 xs.length,.func (.func 7) #[] #[]] w fun v w'=>v=.tuple #[]∧Own rS_api_Choice 46 w' M ao cap (stF (ltD k) xs)∧Chg (blkL ao) w w':=by
  obtain ⟨N,hN0⟩:∃ N,N=xs.length:=⟨_,rfl⟩
  obtain ⟨tgt,hT⟩:∃ t,stF (ltD k) xs=t:=⟨_,rfl⟩
  rw [hT]
  unfold stF at hT
  rw [← hN0] at hl hT ⊢
  refine ent Try.func36 rfl [(0,.slice ao N cap),(1,.int .i64 (N:Int)),(2,.func (.func 7) #[] #[])] rfl (by rfl) fun a ha=>?_
  refine wp_seq_k fun K hK=>?_
  refine wp_region_lit ?_
  refine sf ha 1 [(6,.int .i64 ((20:Nat):Int)),(0,.slice ao N cap),(1,.int .i64 (N:Int)),(2,.func (.func 7) #[] #[])] fun a ha=>?_
  refine hK _ _ ?_;clear hK K
  refine wp_seq_k fun K hK=>?_
  refine wp_region_lit ?_
  refine sf ha 3 [(7,.int .i64 ((0:Nat):Int)),(8,.int .i64 ((20:Nat):Int)),(6,.int .i64 ((20:Nat):Int)),(0,.slice ao N cap),(1,.int .i64 (N:Int)),(2,.func (.func 7) #[] #[])] fun a ha=>?_
  refine hK _ _ ?_;clear hK K
  refine wp_seq_k fun KL hKL=>?_
  have J:∀ (a:Act) (w1:World) (ys:List S_api_Choice) (z:Nat),((z=0∧ys=xs∧N < 20)∨(z=20∧20≤N∧ys=insI (ltD k) 0 19 xs 1))→Has a Try.f36.ntmps [(7,.int .i64 (z:Int)),(6,.int .i64 ((20:Nat):Int)),(0,.slice ao N cap),(1,.int .i64 (N:Int)),(2,.func (.func 7) #[] #[])]→Own rS_api_Choice 46 w1 M ao cap ys→Chg (blkL ao) w w1→KL a w1:=by
    clear ha hO
    intro a w1 ys z hz ha hO hC
    refine hKL _ _ ?_;clear hKL KL
    obtain ⟨hyN,hyY,hzN,hT2⟩:=st_pre (ltD k) hN0 hT hz
    clear hz hT
    refine wp_seq_k fun K hK=>?_
    refine wp_region_lit ?_
    refine sf ha 4 [(23,.slice ao N cap),(24,.int .i64 (z:Int)),(25,.int .i64 (N:Int)),(26,.func (.func 7) #[] #[]),(6,.int .i64 ((20:Nat):Int)),(0,.slice ao N cap),(1,.int .i64 (N:Int)),(2,.func (.func 7) #[] #[])] fun a ha=>?_
    have hW:=ins_walk k w1 M ys ao cap hO z N hzN (by omega) (by omega) (fun u hu v hv=>hD u (hyY u hu) v (hyY v hv))
    rw [hyN] at hW
    refine cl ha (by rfl) (by kernel_rfl) (by rfl) (by rfl) (by rfl) hW ?_
    rintro _ w2 ⟨rfl,hO,hc3⟩ a ha
    refine wpl_end ?_
    refine hK _ _ ?_;clear hK K
    have hC:=hC.trans hc3 (fun x h=>.inl h)
    clear hW
    have h2N:(insI (ltD k) z (N - (z+1)) ys (z+1)).length=N:=by rw [insI_len];exact hyN
    have h2Y:∀ u∈insI (ltD k) z (N - (z+1)) ys (z+1),u∈xs:=fun u hu=>hyY u (insI_mem _ _ _ _ _ hu)
    generalize insI (ltD k) z (N - (z+1)) ys (z+1)=l2 at hT2 hO h2N h2Y
    refine wp_block ?_
    refine wp_loop_ghost (fun kk a w2=>∃ zs:List S_api_Choice,((kk=1∧zs=l2∧Has a Try.f36.ntmps [(6,.int .i64 ((20:Nat):Int)),(0,.slice ao N cap),(1,.int .i64 (N:Int)),(2,.func (.func 7) #[] #[])])∨(kk=0∧zs=tgt∧Has a Try.f36.ntmps [(6,.int .i64 ((40:Nat):Int)),(0,.slice ao N cap),(1,.int .i64 (N:Int)),(2,.func (.func 7) #[] #[])]))∧Own rS_api_Choice 46 w2 M ao cap zs∧Chg (blkL ao) w w2) 1 ?_ ?_
    · exact ⟨l2,.inl ⟨rfl,rfl,ha.sel (by kernel_rfl)⟩,hO,hC⟩
    clear hO hC ha
    rintro kk a w3 ⟨zs,hst,hO,hC⟩
    refine wp_seq_k fun KA hKA=>?_
    refine wp_seq_k fun KB hKB=>?_
    rcases hst with ⟨rfl,rfl,ha⟩ | ⟨rfl,rfl,ha⟩
    rotate_left
    · refine wp_region_lit ?_
      refine sf ha 3 [(30,.bool (decide (((40:Nat):Int) < (N:Int))))] fun a ha=>?_
      refine hKB _ _ ?_
      refine cnd ha rfl (fun c1=>?_) (fun c1=>?_)
      · have c1:=of_decide_eq_true c1;omega
      · refine wx ?_
        exact rt0 ha rfl ⟨rfl,hO,hC⟩
    refine wp_region_lit ?_
    refine sf ha 3 [(30,.bool (decide (((20:Nat):Int) < (N:Int)))),(6,.int .i64 ((20:Nat):Int)),(0,.slice ao N cap),(1,.int .i64 (N:Int)),(2,.func (.func 7) #[] #[])] fun a ha=>?_
    refine hKB _ _ ?_;clear hKB KB
    refine cnd ha rfl (fun c1=>?_) (fun c1=>?_)
    rotate_left
    · have c1:=of_decide_eq_false c1
      rw [if_neg (by omega)] at hT2
      subst hT2
      refine wx ?_
      exact rt0 ha rfl ⟨rfl,hO,hC⟩
    have c1:=of_decide_eq_true c1
    rw [if_pos (by omega)] at hT2
    refine wp_skip ?_
    refine hKA _ _ ?_;clear hKA KA
    refine wp_block ?_
    refine wp_seq_k fun K hK=>?_
    refine wp_region_lit ?_
    refine sf ha 4 [(7,.int .i64 ((0:Nat):Int)),(8,.int .i64 ((40:Nat):Int)),(6,.int .i64 ((20:Nat):Int)),(0,.slice ao N cap),(1,.int .i64 (N:Int)),(2,.func (.func 7) #[] #[])] fun a ha=>?_
    refine hK _ _ ?_;clear hK K
    refine wp_seq_k fun K4 hK4=>?_
    refine wp_block ?_
    refine wp_loop_ghost (fun kk a w4=>w4=w3∧Has a Try.f36.ntmps [(7,.int .i64 ((0:Nat):Int)),(8,.int .i64 ((40:Nat):Int)),(6,.int .i64 ((20:Nat):Int)),(0,.slice ao N cap),(1,.int .i64 (N:Int)),(2,.func (.func 7) #[] #[])]) 1 ⟨rfl,ha⟩ ?_
    clear ha
    rintro kk a w4 ⟨rfl,ha⟩
    refine wp_seq_k fun KA hKA=>?_
    refine wp_seq_k fun KB hKB=>?_
    refine wp_region_lit ?_
    refine sf ha 3 [(35,.bool (decide (((40:Nat):Int)≤(N:Int)))),(7,.int .i64 ((0:Nat):Int)),(6,.int .i64 ((20:Nat):Int)),(0,.slice ao N cap),(1,.int .i64 (N:Int)),(2,.func (.func 7) #[] #[])] fun a ha=>?_
    refine hKB _ _ ?_;clear hKB KB
    refine cnd ha rfl (fun c1=>?_) (fun c1=>?_)
    · have c1:=of_decide_eq_true c1;omega
    refine wx ?_
    refine hK4 _ _ ?_
    refine wp_seq_k fun KA hKA=>?_
    refine wp_seq_k fun K hK=>?_
    refine wp_region_lit ?_
    refine sf ha 4 [(9,.int .i64 ((20:Nat):Int)),(7,.int .i64 ((0:Nat):Int)),(6,.int .i64 ((20:Nat):Int)),(0,.slice ao N cap),(1,.int .i64 (N:Int)),(2,.func (.func 7) #[] #[])] fun a ha=>?_
    refine hK _ _ ?_;clear hK K
    refine wp_seq_k fun K hK=>?_
    refine wp_region_lit ?_
    refine sf ha 3 [(54,.bool (decide (((20:Nat):Int) < (N:Int)))),(9,.int .i64 ((20:Nat):Int)),(7,.int .i64 ((0:Nat):Int)),(6,.int .i64 ((20:Nat):Int)),(0,.slice ao N cap),(1,.int .i64 (N:Int)),(2,.func (.func 7) #[] #[])] fun a ha=>?_
    refine hK _ _ ?_;clear hK K
    refine cnd ha rfl (fun c3=>?_) (fun c3=>?_)
    rotate_left
    · have c3:=of_decide_eq_false c3;omega
    refine wp_region_lit ?_
    refine sf ha 5 [(55,.slice ao N cap),(56,.int .i64 ((0:Nat):Int)),(57,.int .i64 ((20:Nat):Int)),(58,.int .i64 (N:Int)),(59,.func (.func 7) #[] #[]),(6,.int .i64 ((20:Nat):Int)),(0,.slice ao N cap),(1,.int .i64 (N:Int)),(2,.func (.func 7) #[] #[])] fun a ha=>?_
    have hW:=sym_walk k N w4 M zs ao cap hO 0 20 N (by omega) (by omega) (by omega) (by omega) (by omega) (fun u hu v hv=>hD u (h2Y u hu) v (h2Y v hv))
    rw [h2N,hT2] at hW
    refine cl ha (by rfl) (by kernel_rfl) (by rfl) (by rfl) (by rfl) hW ?_
    rintro _ w5 ⟨rfl,hO,hc3⟩ a ha
    refine wpl_end ?_
    refine hKA _ _ ?_;clear hKA KA
    refine wp_region_lit ?_
    refine sf ha 3 [(6,.int .i64 ((40:Nat):Int)),(0,.slice ao N cap),(1,.int .i64 (N:Int)),(2,.func (.func 7) #[] #[])] fun a ha=>?_
    exact ⟨0,by omega,tgt,.inr ⟨rfl,rfl,ha⟩,hO,hC.trans hc3 (fun x h=>.inl h)⟩
  refine wp_block ?_
  refine wp_loop_ghost (fun kk a w1=>∃ ys:List S_api_Choice,((kk=1∧ys=xs∧Has a Try.f36.ntmps [(7,.int .i64 ((0:Nat):Int)),(8,.int .i64 ((20:Nat):Int)),(6,.int .i64 ((20:Nat):Int)),(0,.slice ao N cap),(1,.int .i64 (N:Int)),(2,.func (.func 7) #[] #[])])∨(kk=0∧20≤N∧ys=insI (ltD k) 0 19 xs 1∧Has a Try.f36.ntmps [(7,.int .i64 ((20:Nat):Int)),(8,.int .i64 ((40:Nat):Int)),(6,.int .i64 ((20:Nat):Int)),(0,.slice ao N cap),(1,.int .i64 (N:Int)),(2,.func (.func 7) #[] #[])]))∧Own rS_api_Choice 46 w1 M ao cap ys∧Chg (blkL ao) w w1) 1 ?_ ?_
  · exact ⟨xs,.inl ⟨rfl,rfl,ha⟩,hO,Chg.refl _ _⟩
  clear hO ha
  rintro kk a w1 ⟨ys,hst,hO,hC⟩
  refine wp_seq_k fun KA hKA=>?_
  refine wp_seq_k fun KB hKB=>?_
  rcases hst with ⟨rfl,rfl,ha⟩ | ⟨rfl,h20,rfl,ha⟩
  rotate_left
  · refine wp_region_lit ?_
    refine sf ha 3 [(13,.bool (decide (((40:Nat):Int)≤(N:Int)))),(7,.int .i64 ((20:Nat):Int)),(6,.int .i64 ((20:Nat):Int)),(0,.slice ao N cap),(1,.int .i64 (N:Int)),(2,.func (.func 7) #[] #[])] fun a ha=>?_
    refine hKB _ _ ?_
    refine cnd ha rfl (fun c1=>?_) (fun c1=>?_)
    · have c1:=of_decide_eq_true c1;omega
    · refine wx ?_
      exact J _ _ _ 20 (.inr ⟨rfl,h20,rfl⟩) (ha.sel (by kernel_rfl)) hO hC
  refine wp_region_lit ?_
  refine sf ha 3 [(13,.bool (decide (((20:Nat):Int)≤(N:Int)))),(7,.int .i64 ((0:Nat):Int)),(8,.int .i64 ((20:Nat):Int)),(6,.int .i64 ((20:Nat):Int)),(0,.slice ao N cap),(1,.int .i64 (N:Int)),(2,.func (.func 7) #[] #[])] fun a ha=>?_
  refine hKB _ _ ?_;clear hKB KB
  refine cnd ha rfl (fun c1=>?_) (fun c1=>?_)
  rotate_left
  · have c1:=of_decide_eq_false c1
    refine wx ?_
    exact J _ _ _ 0 (.inl ⟨rfl,rfl,by omega⟩) (ha.sel (by kernel_rfl)) hO hC
  have c1:=of_decide_eq_true c1
  clear J
  refine wp_skip ?_
  refine hKA _ _ ?_;clear hKA KA
  refine wp_block ?_
  refine wp_seq_k fun K hK=>?_
  refine wp_region_lit ?_
  refine sf ha 4 [(14,.slice ao N cap),(15,.int .i64 ((0:Nat):Int)),(16,.int .i64 ((20:Nat):Int)),(17,.func (.func 7) #[] #[]),(7,.int .i64 ((0:Nat):Int)),(8,.int .i64 ((20:Nat):Int)),(6,.int .i64 ((20:Nat):Int)),(0,.slice ao N cap),(1,.int .i64 (N:Int)),(2,.func (.func 7) #[] #[])] fun a ha=>?_
  have hW:=ins_walk k w1 M ys ao cap hO 0 20 (by omega) (by omega) (by omega) hD
  rw [← hN0] at hW
  simp only [Nat.zero_add,show 20 - 1=19 from rfl] at hW
  refine cl ha (by rfl) (by kernel_rfl) (by rfl) (by rfl) (by rfl) hW ?_
  rintro _ w2 ⟨rfl,hO,hc3⟩ a ha
  refine wpl_end ?_
  refine hK _ _ ?_;clear hK K
  refine wp_seq_k fun K hK=>?_
  refine wp_region_lit ?_
  refine sf ha 2 [(7,.int .i64 ((20:Nat):Int)),(8,.int .i64 ((20:Nat):Int)),(6,.int .i64 ((20:Nat):Int)),(0,.slice ao N cap),(1,.int .i64 (N:Int)),(2,.func (.func 7) #[] #[])] fun a ha=>?_
  refine hK _ _ ?_;clear hK K
  refine wp_region_lit ?_
  refine sf ha 4 [(7,.int .i64 ((20:Nat):Int)),(8,.int .i64 ((40:Nat):Int)),(6,.int .i64 ((20:Nat):Int)),(0,.slice ao N cap),(1,.int .i64 (N:Int)),(2,.func (.func 7) #[] #[])] fun a ha=>?_
  exact ⟨0,by omega,_,.inr ⟨rfl,by omega,rfl,ha⟩,hO,hC.trans hc3 (fun x h=>.inl h)⟩
set_option maxRecDepth 100000 in
theorem sortstable_walk (k:Nat) (w:World) (M:List Nat) (xs:List S_api_Choice) (ao:Option Addr) (cap:Nat) (hO:Own rS_api_Choice 46 w M ao cap xs) (hl:xs.length < 40) (hD:∀ u∈xs,∀ v∈xs,∃ r,decide_Compare.f k u v=some r) :
    To Try.prog 30 [.slice ao xs.length cap,.func (.func 7) #[] #[]] w fun v w'=>v=.tuple #[]∧Own rS_api_Choice 46 w' M ao cap (stF (ltD k) xs)∧Chg (blkL ao) w w':=by
  refine ent Try.func30 rfl [(0,.slice ao xs.length cap),(1,.func (.func 7) #[] #[])] rfl (by rfl) fun a ha=>?_
  refine wp_region_lit ?_
  refine sf ha 4 [(4,.slice ao xs.length cap),(6,.int .i64 (xs.length:Int)),(7,.func (.func 7) #[] #[])] fun a ha=>?_
  refine cL ha (stable_walk k w M xs ao cap hO hl hD) ?_
  rintro _ w5 ⟨rfl,hO,hc3⟩ a ha
  refine wpl_end ?_
  exact rt0 ha rfl ⟨rfl,hO,hc3⟩
end
def slices_SortStableFunc_Choice.f (k:Nat) (xs:List S_api_Choice):Option (List S_api_Choice) :=
  if (decide (xs.length < 40) && xs.all fun x=>xs.all fun y=>(decide_Compare.f k x y).isSome)=true then some (stF (ltD k) xs) else none
theorem slices_SortStableFunc_Choice.walk (w:World) (M:List Nat) (hM:MS M w) (xs:List S_api_Choice) (ao:Option Addr) (cap:Nat) (hO:Own rS_api_Choice 46 w M ao cap xs) (k:Nat) (r:List S_api_Choice) (H:slices_SortStableFunc_Choice.f k xs=some r) :
    To Try.prog 30 [.slice ao xs.length cap,.func (.func 7) #[] #[]] w fun v w'=>v=.tuple #[]∧r.length=xs.length∧Own rS_api_Choice 46 w' M ao cap r∧Chg (blkL ao) w w'∧MS M w':=by
  unfold slices_SortStableFunc_Choice.f at H;split at H
  · rename_i hh;simp only [Bool.and_eq_true,decide_eq_true_eq,List.all_eq_true] at hh;cases H;refine (sortstable_walk k w M xs ao cap hO hh.1 (fun u hu v hv=>Option.isSome_iff_exists.1 (hh.2 u hu v hv))).mono fun v w' ⟨h1,h2,h3⟩=>⟨h1,stF_len _ _,h2,h3,hM.chg h3⟩
  · cases H

def decide_Sort.f (k:Nat) (a0:List S_api_Choice):Option (List S_api_Choice):=(slices_CloneC.f a0).bind fun t4=>(slices_SortStableFunc_Choice.f k t4).bind fun t7=>some ((t7:List S_api_Choice))
set_option maxRecDepth 100000 in
theorem decide_Sort.walk (w:World) (M:List Nat) (hM:MS M w) (a0:List S_api_Choice) (ao1:Option Addr) (cap1:Nat) (f1:RSl rS_api_Choice 46 w M ao1 cap1 a0) (k:Nat) (r:List S_api_Choice) (H:decide_Sort.f k a0=some r) :
    To Try.prog 12 [.slice ao1 a0.length cap1] w fun v w'=>∃ (ao9:Option Addr) (cap9:Nat),v=.slice ao9 r.length cap9∧(Own rS_api_Choice 46 w' (blkL ao9++(M)) ao9 cap9 r)∧(∀ x∈blkL ao9,w.heap.size≤x)∧Chg [] w w'∧MS (blkL ao9++(M)) w':=by
 unfold decide_Sort.f at H;refine ent Try.func12 rfl [(0,.slice ao1 a0.length cap1)] rfl (by rfl) fun a ha=>?_;have hC:Chg [] w w:=Chg.refl _ _;refine sqd ha 1 [] [] fun a ha=>?_;refine wsr fun K3 hK3=>?_;refine sf ha 1 [(4,.slice ao1 a0.length cap1)] fun a ha=>?_;obtain ⟨t4,H4,H⟩:=bind_some H;refine cL ha (slices_CloneC.walk w _ hM a0 ao1 cap1 f1 _ H4) ?_;rintro _ w4 ⟨ao5,cap5,rfl,f5,ne_i5,hc4,hMn⟩ a ha;have e_i5:=eN hC ne_i5;have hM:MS (blkL ao5++(M)) w4:=(MS.app (fun x h=>hMn x (ml h)) (hM.chg hc4))
 have hC:=hC.t0 hc4;refine sf ha 1 [(3,.slice ao5 t4.length cap5)] fun a ha=>?_;refine hK3 _ _ ?_;refine wsr fun K6 hK6=>?_;refine sd ha 1 [] [(6,.slice ao5 t4.length cap5)] fun a ha=>?_;obtain ⟨t7,H7,H⟩:=bind_some H;refine cL ha (slices_SortStableFunc_Choice.walk w4 _ hM t4 ao5 cap5 f5 k _ H7) ?_;rintro _ w7 ⟨rfl,len7,nf7,hc7,hMn⟩ a ha;rw [← len7] at ha;have hM:=hM.chg hc7;have hC:=hC.t1 hc7 e_i5;have f5:=nf7;refine hK6 _ _ ?_;refine sq ha 2 [(2,.slice ao5 t7.length cap5)] fun a ha=>?_;refine wrt ?_;obtain rfl:=oj H;refine rt1 ha rfl rfl ?_;exact ⟨ao5,cap5,rfl,f5,e_i5,hC,hM⟩
def vineryref06_Same.f (a0:S_api_Tunnel) (a1:S_api_Tunnel):Option (Bool):=((if (a0.Kind==a1.Kind)=true then (if ((a0.Root.Size==a1.Root.Size) && ((eqA 16 a0.Root.B a1.Root.B) && true))=true then some ((bstr (b2s a0.Id)).toList==(bstr (b2s a1.Id)).toList:Bool) else some (false:Bool)) else some (false:Bool))).bind fun s15=>some ((s15:Bool))
set_option maxRecDepth 100000 in
theorem vineryref06_Same.walk (w:World) (M:List Nat) (hM:MS M w) (a0:S_api_Tunnel) (ao1:Option Addr) (cap1:Nat) (f1:RSl (rInt .u8) 5 w M ao1 cap1 a0.Id) (a1:S_api_Tunnel) (ao2:Option Addr) (cap2:Nat) (f2:RSl (rInt .u8) 5 w M ao2 cap2 a1.Id) (r:Bool) (H:vineryref06_Same.f a0 a1=some r) :
    To Try.prog 46 [.agg (cS_api_Tunnel a0 ao1 cap1).toArray,.agg (cS_api_Tunnel a1 ao2 cap2).toArray] w fun v w'=>v=.bool r∧Chg [] w w'∧MS (M) w':=by
 unfold vineryref06_Same.f at H;refine ent Try.func46 rfl [(0,.agg (cS_api_Tunnel a0 ao1 cap1).toArray),(1,.agg (cS_api_Tunnel a1 ao2 cap2).toArray)] rfl (by rfl) fun a ha=>?_;have hC:Chg [] w w:=Chg.refl _ _;refine wsr fun K3 hK3=>?_;refine bx (cs:=(cS_api_Tunnel a0 ao1 cap1)) ha rfl rfl rfl rfl rfl fun a w4 g5 hN6 ha=>?_;have hn8:=hN6.notin hM;have o1:=oN M w;have o2:=oR M w;have f1:=f1.chg hN6.chg o1 o2;have f2:=f2.chg hN6.chg o1 o2;have hM:=hM.chg hN6.chg;have hC:=hC.t0 hN6.chg;have hE7:Cs w4 g5 0 (cS_api_Tunnel a0 ao1 cap1):=Box.cells (New.box hN6);refine bx (cs:=(cS_api_Tunnel a1 ao2 cap2)) ha rfl rfl rfl rfl rfl fun a w9 g10 hN11 ha=>?_;have o1:=oN M w4;have o2:=oR M w4;have f2:=f2.chg hN11.chg o1 o2;have f1:=f1.chg hN11.chg o1 o2;have hE7:=ck hN11.chg o1 hn8 hE7;have hM:=hM.chg hN11.chg;have hC:=hC.t0 hN11.chg;have hE12:Cs w9 g10 0 (cS_api_Tunnel a1 ao2 cap2):=Box.cells (New.box hN11);refine sf ha 1 [(2,pt g5 0),(3,pt g10 0)] fun a ha=>?_;refine hK3 _ _ ?_;refine wsr fun K14 hK14=>?_;obtain ⟨s15,H15,H⟩:=bind_some H;have J15:∀ (a:Act) (w15:World),Has a Try.f46.ntmps [(4,.bool s15)]→(Chg [] w w15)→(MS (M) w15)→K14 a w15:=by
  intro a w15 ha hC hM;refine hK14 _ _ ?_;refine wrt ?_;obtain rfl:=oj H;refine rt1 ha rfl rfl ?_;exact ⟨rfl,hC,hM⟩
 have H:=H15;refine sd ha 1 [] [(5,.pointer (some ⟨g5,0+1,none⟩))] fun a ha=>?_;refine ld ha rfl (by kernel_rfl) rfl rfl rfl (hE7 1 (.int .i64 a0.Kind) (by kernel_rfl)) fun a ha=>?_;refine sd ha 1 [5] [(6,.int .i64 a0.Kind),(7,.pointer (some ⟨g10,0+1,none⟩))] fun a ha=>?_;refine ld ha rfl (by kernel_rfl) rfl rfl rfl (hE12 1 (.int .i64 a1.Kind) (by kernel_rfl)) fun a ha=>?_;refine sd ha 2 [6,7] [(10,.bool (a0.Kind==a1.Kind))] fun a ha=>?_;rcases Bool.eq_false_or_eq_true (a0.Kind==a1.Kind) with hb16 | hb16
 ·have ha:=ha.lit hb16;have H:=ite_t hb16 H;refine sgd ha 1 [2] [] [(10,.bool true),(11,.pointer (some ⟨g5,0+3,none⟩))] fun a ha=>?_;refine ldA (cs:=(cS_api_Addr a0.Root)) ha rfl (by kernel_rfl) rfl rfl rfl (cells_sub hE7 (all:=(cS_api_Tunnel a0 ao1 cap1)) [.bool a0.Leaf,.int .i64 a0.Kind,.int .i64 a0.Label] [.slice ao1 a0.Id.length cap1] (by kernel_rfl)) fun a ha=>?_;refine sgd ha 1 [2] [11] [(12,.agg (cS_api_Addr a0.Root).toArray),(13,.pointer (some ⟨g10,0+3,none⟩))] fun a ha=>?_;refine ldA (cs:=(cS_api_Addr a1.Root)) ha rfl (by kernel_rfl) rfl rfl rfl (cells_sub hE12 (all:=(cS_api_Tunnel a1 ao2 cap2)) [.bool a1.Leaf,.int .i64 a1.Kind,.int .i64 a1.Label] [.slice ao2 a1.Id.length cap2] (by kernel_rfl)) fun a ha=>?_;refine hop (v:=.bool ((a0.Root.Size==a1.Root.Size) && ((eqA 16 a0.Root.B a1.Root.B) && true))) (w':=w9) ha rfl rfl rfl (eqs_run (r:=((a0.Root.Size==a1.Root.Size) && ((eqA 16 a0.Root.B a1.Root.B) && true))) (m:=9) ha rfl rfl (by kernel_rfl) rfl (by kernel_rfl) _) fun a ha=>?_;refine sgd ha 2 [3,0] [10,12,13] [(17,.bool ((a0.Root.Size==a1.Root.Size) && ((eqA 16 a0.Root.B a1.Root.B) && true)))] fun a ha=>?_;rcases Bool.eq_false_or_eq_true (((a0.Root.Size==a1.Root.Size) && ((eqA 16 a0.Root.B a1.Root.B) && true))) with hb17 | hb17
  ·have ha:=ha.lit hb17;have H:=ite_t hb17 H;refine sgd ha 1 [2] [2] [(17,.bool true),(18,.pointer (some ⟨g5,0+20,none⟩))] fun a ha=>?_;refine ld ha rfl (by kernel_rfl) rfl rfl rfl (hE7 20 (.slice ao1 a0.Id.length cap1) (by kernel_rfl)) fun a ha=>?_;refine cvs ha rfl (by kernel_rfl) (by kernel_rfl) (by kernel_rfl) rfl rfl rfl f1 fun a ha=>?_;refine sgd ha 1 [2] [3,18] [(20,.string (bstr (b2s a0.Id))),(21,.pointer (some ⟨g10,0+20,none⟩))] fun a ha=>?_;refine ld ha rfl (by kernel_rfl) rfl rfl rfl (hE12 20 (.slice ao2 a1.Id.length cap2) (by kernel_rfl)) fun a ha=>?_;refine cvs ha rfl (by kernel_rfl) (by kernel_rfl) (by kernel_rfl) rfl rfl rfl f2 fun a ha=>?_;refine sgf ha 3 [2,3,0] [(4,.bool ((bstr (b2s a0.Id)).toList==(bstr (b2s a1.Id)).toList))] fun a ha=>?_;obtain rfl:=oj H;exact J15 _ _ (ha.sel (by kernel_rfl)) hC hM
  ·have ha:=ha.lit hb17;have H:=ite_f hb17 H;refine sgf ha 9 [1,1,1,1,1,1,1,4,0] [(4,.bool false)] fun a ha=>?_;obtain rfl:=oj H;exact J15 _ _ (ha.sel (by kernel_rfl)) hC hM
 ·have ha:=ha.lit hb16;have H:=ite_f hb16 H;refine sgf ha 16 [1,1,1,1,1,4,0,1,1,1,1,1,1,1,4,0] [(4,.bool false)] fun a ha=>?_;obtain rfl:=oj H;exact J15 _ _ (ha.sel (by kernel_rfl)) hC hM
def vineryref06_Equal.f (a0:S_api_Tunnel) (a1:S_api_Tunnel):Option (Bool):=(vineryref06_Same.f a0 a1).bind fun t15=>((if t15=true then (if (a0.Leaf==a1.Leaf)=true then some (a0.Label==a1.Label:Bool) else some (false:Bool)) else some (false:Bool))).bind fun s17=>some ((s17:Bool))
set_option maxRecDepth 100000 in
theorem vineryref06_Equal.walk (w:World) (M:List Nat) (hM:MS M w) (a0:S_api_Tunnel) (ao1:Option Addr) (cap1:Nat) (f1:RSl (rInt .u8) 5 w M ao1 cap1 a0.Id) (a1:S_api_Tunnel) (ao2:Option Addr) (cap2:Nat) (f2:RSl (rInt .u8) 5 w M ao2 cap2 a1.Id) (r:Bool) (H:vineryref06_Equal.f a0 a1=some r) :
    To Try.prog 41 [.agg (cS_api_Tunnel a0 ao1 cap1).toArray,.agg (cS_api_Tunnel a1 ao2 cap2).toArray] w fun v w'=>v=.bool r∧Chg [] w w'∧MS (M) w':=by
 unfold vineryref06_Equal.f at H;refine ent Try.func41 rfl [(0,.agg (cS_api_Tunnel a0 ao1 cap1).toArray),(1,.agg (cS_api_Tunnel a1 ao2 cap2).toArray)] rfl (by rfl) fun a ha=>?_;have hC:Chg [] w w:=Chg.refl _ _;refine wsr fun K3 hK3=>?_;refine bx (cs:=(cS_api_Tunnel a0 ao1 cap1)) ha rfl rfl rfl rfl rfl fun a w4 g5 hN6 ha=>?_;have hn8:=hN6.notin hM;have o1:=oN M w;have o2:=oR M w;have f1:=f1.chg hN6.chg o1 o2;have f2:=f2.chg hN6.chg o1 o2;have hM:=hM.chg hN6.chg;have hC:=hC.t0 hN6.chg;have hE7:Cs w4 g5 0 (cS_api_Tunnel a0 ao1 cap1):=Box.cells (New.box hN6);refine bx (cs:=(cS_api_Tunnel a1 ao2 cap2)) ha rfl rfl rfl rfl rfl fun a w9 g10 hN11 ha=>?_;have hn13:=hN11.notin hM;have o1:=oN M w4;have o2:=oR M w4;have f2:=f2.chg hN11.chg o1 o2;have f1:=f1.chg hN11.chg o1 o2;have q_hn8:=qn o2 hn8 (hE7 0 _ rfl);have hE7:=ck hN11.chg o1 hn8 hE7;have hn8:=q_hn8;have hM:=hM.chg hN11.chg;have hC:=hC.t0 hN11.chg;have hE12:Cs w9 g10 0 (cS_api_Tunnel a1 ao2 cap2):=Box.cells (New.box hN11);refine sf ha 1 [(2,pt g5 0),(3,pt g10 0)] fun a ha=>?_;refine hK3 _ _ ?_;refine wsr fun K14 hK14=>?_;refine ldE hE7 ha fun a ha=>?_;refine ldE hE12 ha fun a ha=>?_;obtain ⟨t15,H15,H⟩:=bind_some H;refine cL ha (vineryref06_Same.walk w9 _ hM a0 ao1 cap1 f1 a1 ao2 cap2 f2 _ H15) ?_;rintro _ w15 ⟨rfl,hc15,hMn⟩ a ha;have o1:=oN M w9;have hE7:=ck hc15 o1 hn8 hE7;have hE12:=ck hc15 o1 hn13 hE12;have hM:=hM.chg hc15;have hC:=hC.t0 hc15;refine sd ha 1 [] [(5,.bool t15)] fun a ha=>?_;refine hK14 _ _ ?_;refine wsr fun K16 hK16=>?_;obtain ⟨s17,H17,H⟩:=bind_some H;have J17:∀ (a:Act) (w17:World),Has a Try.f41.ntmps [(4,.bool s17)]→(Chg [] w w17)→(MS (M) w17)→K16 a w17:=by
  intro a w17 ha hC hM;refine hK16 _ _ ?_;refine wrt ?_;obtain rfl:=oj H;refine rt1 ha rfl rfl ?_;exact ⟨rfl,hC,hM⟩
 have H:=H17;refine sd ha 2 [5] [(10,.bool t15)] fun a ha=>?_;rcases Bool.eq_false_or_eq_true (t15) with hb18 | hb18
 ·have ha:=ha.lit hb18;have H:=ite_t hb18 H;refine sgd ha 1 [2] [] [(10,.bool true),(11,pt g5 0)] fun a ha=>?_;refine ld ha rfl (by kernel_rfl) rfl rfl rfl (hE7 0 (.bool a0.Leaf) (by kernel_rfl)) fun a ha=>?_;refine sgd ha 1 [2] [11] [(12,.bool a0.Leaf),(13,pt g10 0)] fun a ha=>?_;refine ld ha rfl (by kernel_rfl) rfl rfl rfl (hE12 0 (.bool a1.Leaf) (by kernel_rfl)) fun a ha=>?_;refine sgd ha 3 [2,3,0] [10,12,13] [(17,.bool (a0.Leaf==a1.Leaf))] fun a ha=>?_;rcases Bool.eq_false_or_eq_true (a0.Leaf==a1.Leaf) with hb19 | hb19
  ·have ha:=ha.lit hb19;have H:=ite_t hb19 H;refine sgd ha 1 [2] [2] [(17,.bool true),(18,.pointer (some ⟨g5,0+2,none⟩))] fun a ha=>?_;refine ld ha rfl (by kernel_rfl) rfl rfl rfl (hE7 2 (.int .i64 a0.Label) (by kernel_rfl)) fun a ha=>?_;refine sgd ha 1 [2] [3,18] [(19,.int .i64 a0.Label),(20,.pointer (some ⟨g10,0+2,none⟩))] fun a ha=>?_;refine ld ha rfl (by kernel_rfl) rfl rfl rfl (hE12 2 (.int .i64 a1.Label) (by kernel_rfl)) fun a ha=>?_;refine sgf ha 3 [2,3,0] [(4,.bool (a0.Label==a1.Label))] fun a ha=>?_;obtain rfl:=oj H;exact J17 _ _ (ha.sel (by kernel_rfl)) hC hM
  ·have ha:=ha.lit hb19;have H:=ite_f hb19 H;refine sgf ha 7 [1,1,1,1,1,4,0] [(4,.bool false)] fun a ha=>?_;obtain rfl:=oj H;exact J17 _ _ (ha.sel (by kernel_rfl)) hC hM
 ·have ha:=ha.lit hb18;have H:=ite_f hb18 H;refine sgf ha 14 [1,1,1,1,1,4,0,1,1,1,1,1,4,0] [(4,.bool false)] fun a ha=>?_;obtain rfl:=oj H;exact J17 _ _ (ha.sel (by kernel_rfl)) hC hM
def vineryref09_samePath.l1 (a0:List S_api_Segment) (a1:List S_api_Segment) (x11:Int):Nat→Int→Option ((Bool) ⊕ (Unit))
  | 0,_=>none
  | kk+1,x24=>(if 0≤x11∧x11 < (a0.length:Int) then (if (decide (x24 < (((rd a0 x11).AS).length:Int)))=true then (if 0≤x11∧x11 < (a0.length:Int) then (if 0≤x24∧x24 < (((rd a0 x11).AS).length:Int) then (if 0≤x11∧x11 < (a1.length:Int) then (if 0≤x24∧x24 < (((rd a1 x11).AS).length:Int) then (if ((rd ((rd a0 x11).AS) x24) != (rd ((rd a1 x11).AS) x24))=true then some (.inl ((false:Bool))) else vineryref09_samePath.l1 a0 a1 x11 kk (IntKind.i64.wrap (x24+(1:Int)))) else none) else none) else none) else none) else some (.inr (():Unit))) else none)
def vineryref09_samePath.l0 (k:Nat) (a0:List S_api_Segment) (a1:List S_api_Segment):Nat→Int→Option ((Bool) ⊕ (Unit))
  | 0,_=>none
  | kk+1,x11=>(if (decide (x11 < (a0.length:Int)))=true then ((if 0≤x11∧x11 < (a0.length:Int) then (if 0≤x11∧x11 < (a1.length:Int) then (if (!(((rd a0 x11).Set)==((rd a1 x11).Set)))=true then some (true:Bool) else (if 0≤x11∧x11 < (a0.length:Int) then (if 0≤x11∧x11 < (a1.length:Int) then some ((((rd a0 x11).AS).length:Int) != (((rd a1 x11).AS).length:Int):Bool) else none) else none)) else none) else none)).bind fun s19=>(if s19=true then some (.inl ((false:Bool))) else (vineryref09_samePath.l1 a0 a1 x11 k (0:Int)).bind fun s23=>match s23 with | .inl r=>some (.inl r) | .inr s23'=>vineryref09_samePath.l0 k a0 a1 kk (IntKind.i64.wrap (x11+(1:Int)))) else some (.inr (():Unit)))
def vineryref09_samePath.f (k:Nat) (a0:List S_api_Segment) (a1:List S_api_Segment):Option (Bool):=(if ((a0.length:Int) != (a1.length:Int))=true then some ((false:Bool)) else (vineryref09_samePath.l0 k a0 a1 k (0:Int)).bind fun s10=>match s10 with | .inl r=>some r | .inr s10'=>some ((true:Bool)))
set_option maxRecDepth 100000 in
theorem vineryref09_samePath.walk (w:World) (M:List Nat) (hM:MS M w) (a0:List S_api_Segment) (ao1:Option Addr) (cap1:Nat) (f1:RSl rS_api_Segment 56 w M ao1 cap1 a0) (a1:List S_api_Segment) (ao2:Option Addr) (cap2:Nat) (f2:RSl rS_api_Segment 56 w M ao2 cap2 a1) (k:Nat) (r:Bool) (H:vineryref09_samePath.f k a0 a1=some r) :
    To Try.prog 42 [.slice ao1 a0.length cap1,.slice ao2 a1.length cap2] w fun v w'=>v=.bool r∧Chg [] w w'∧MS (M) w':=by
 unfold vineryref09_samePath.f at H;refine ent Try.func42 rfl [(0,.slice ao1 a0.length cap1),(1,.slice ao2 a1.length cap2)] rfl (by rfl) fun a ha=>?_;have hC:Chg [] w w:=Chg.refl _ _;refine sqd ha 1 [] [] fun a ha=>?_;refine wp_seq_k fun K4 hK4=>?_;refine sqd ha 5 [] [(11,.bool ((a0.length:Int) != (a1.length:Int)))] fun a ha=>?_;refine cnH H ha (fun hc6 H=>?_) (fun hc6 H=>?_)
 ·refine sq ha 1 [(4,.bool false)] fun a ha=>?_;refine wrt ?_;obtain rfl:=oj H;refine rt1 ha rfl rfl ?_;exact ⟨rfl,hC,hM⟩
 ·refine wp_skip ?_;refine hK4 _ _ ?_;refine wp_seq_k fun K8 hK8=>?_;refine sqd ha 1 [11] [(5,.int .i64 0)] fun a ha=>?_;refine wp_block ?_;obtain ⟨s10,H10,H⟩:=bind_some H;have J10:∀ s10' (a:Act) (wx10:World),s10=.inr s10'→Has a Try.f42.ntmps []→(Chg [] w wx10)→(MS (M) wx10)→K8 a wx10:=by
   intro s10' a wx10 hs ha hC hM;subst hs;refine hK8 _ _ ?_;refine sq ha 1 [(4,.bool true)] fun a ha=>?_;refine wrt ?_;obtain rfl:=oj H;refine rt1 ha rfl rfl ?_;exact ⟨rfl,hC,hM⟩
  have Hc10:=H;have H:=H10;refine wp_loop_ghost (fun kk a w10=>∃ (x11:Int),vineryref09_samePath.l0 k a0 a1 kk x11=some s10∧Has a Try.f42.ntmps [(0,.slice ao1 a0.length cap1),(1,.slice ao2 a1.length cap2),(5,.int .i64 x11)]∧(RSl rS_api_Segment 56 w10 (M) ao1 cap1 a0)∧(RSl rS_api_Segment 56 w10 (M) ao2 cap2 a1)∧(Chg [] w w10)∧(MS (M) w10)) k ?_ ?_
  ·skip;exact ⟨(0:Int),H,(ha.sel (by kernel_rfl)),f1,f2,hC,hM⟩
  ·rintro kk a w10 ⟨x11,H,ha,f1,f2,hC,hM⟩;obtain _ | kk:=kk
   ·exact nomatch (show none=some _ from H)
   rw [vineryref09_samePath.l0] at H;refine wp_seq_k fun K13 hK13=>?_;refine sqd ha 4 [] [(15,.bool (decide (x11 < (a0.length:Int))))] fun a ha=>?_;refine cnH H ha (fun hc15 H=>?_) (fun hc15 H=>?_)
   ·refine wp_skip ?_;refine hK13 _ _ ?_;refine wp_seq_k fun K16 hK16=>?_;refine wp_block ?_;refine wp_seq_k fun K17 hK17=>?_;refine wp_seq_k fun K18 hK18=>?_;refine drq0 (fun w'=>Chg [] w10 w') (by kernel_rfl) (by kernel_rfl) (fun _ h=>h) ?_;obtain ⟨s19,H19,H⟩:=bind_some H;have J19:∀ (a:Act) (w19:World),Has a Try.f42.ntmps [(0,.slice ao1 a0.length cap1),(1,.slice ao2 a1.length cap2),(5,.int .i64 x11),(43,.bool s19)]→(RSl rS_api_Segment 56 w19 (M) ao1 cap1 a0)→(RSl rS_api_Segment 56 w19 (M) ao2 cap2 a1)→(Chg [] w w19)→(MS (M) w19)→K18 a w19:=by
     intro a w19 ha f1 f2 hC hM;refine hK18 _ _ ?_;refine cnH H ha (fun hc20 H=>?_) (fun hc20 H=>?_)
     ·refine sq ha 1 [(4,.bool false)] fun a ha=>?_;refine wrt ?_;obtain rfl:=oj H;have H:=(show some _=some _ from Hc10)
      obtain rfl:=oj H;refine rt1 ha rfl rfl ?_;exact ⟨rfl,hC,hM⟩
     ·refine wp_skip ?_;refine hK17 _ _ ?_;refine sqd ha 1 [43] [(6,.int .i64 0)] fun a ha=>?_;refine wp_block ?_;obtain ⟨s23,H23,H⟩:=bind_some H;have J23:∀ s23' (a:Act) (wx23:World),s23=.inr s23'→Has a Try.f42.ntmps [(0,.slice ao1 a0.length cap1),(1,.slice ao2 a1.length cap2),(5,.int .i64 x11)]→(RSl rS_api_Segment 56 wx23 (M) ao1 cap1 a0)→(RSl rS_api_Segment 56 wx23 (M) ao2 cap2 a1)→(Chg [] w wx23)→(MS (M) wx23)→K16 a wx23:=by
       intro s23' a wx23 hs ha f1 f2 hC hM;subst hs;refine hK16 _ _ ?_;refine wp_region_lit ?_;refine sd ha 3 [] [(5,.int .i64 (IntKind.i64.wrap (x11+(1:Int))))] fun a ha=>?_;exact ⟨kk,Nat.lt_succ_self _,⟨IntKind.i64.wrap (x11+(1:Int)),H,(ha.sel (by kernel_rfl)),f1,f2,hC,hM⟩⟩
      have Hc23:=H;have H:=H23;refine wp_loop_ghost (fun kk a w23=>∃ (x24:Int),vineryref09_samePath.l1 a0 a1 x11 kk x24=some s23∧Has a Try.f42.ntmps [(0,.slice ao1 a0.length cap1),(1,.slice ao2 a1.length cap2),(5,.int .i64 x11),(6,.int .i64 x24)]∧(RSl rS_api_Segment 56 w23 (M) ao1 cap1 a0)∧(RSl rS_api_Segment 56 w23 (M) ao2 cap2 a1)∧(Chg [] w w23)∧(MS (M) w23)) k ?_ ?_
      ·skip;exact ⟨(0:Int),H,(ha.sel (by kernel_rfl)),f1,f2,hC,hM⟩
      ·rintro kk a w23 ⟨x24,H,ha,f1,f2,hC,hM⟩;obtain _ | kk:=kk
       ·exact nomatch (show none=some _ from H)
       rw [vineryref09_samePath.l1] at H;refine wp_seq_k fun K25 hK25=>?_;refine wsr fun K26 hK26=>?_;refine sd ha 3 [] [(44,.int .i64 x24),(45,.slice ao1 a0.length cap1),(46,.int .i64 x11)] fun a ha=>?_;obtain ⟨⟨hx27,hx27'⟩,H⟩:=ite_some H;refine ix (r:=rS_api_Segment) ha (by kernel_rfl) (by kernel_rfl) rfl rfl rfl rfl rfl f1 hx27 hx27' fun a ge28 oe29 cs30 hn33 hR31 hE32 ha=>?_;rw [rd_get] at hR31;obtain ⟨ao34,cap34,rfl,f34⟩:=rS_api_Segment.open hR31;refine sd ha 1 [45,46] [(48,.pointer (some ⟨ge28,oe29+1,none⟩))] fun a ha=>?_;refine ld ha rfl (by kernel_rfl) rfl rfl rfl (hE32 1 (.slice ao34 ((rd a0 x11).AS).length cap34) (by kernel_rfl)) fun a ha=>?_;refine sd ha 2 [44,48] [(51,.bool (decide (x24 < (((rd a0 x11).AS).length:Int))))] fun a ha=>?_;refine hK26 _ _ ?_;refine cnH H ha (fun hc35 H=>?_) (fun hc35 H=>?_)
       ·refine wp_skip ?_;refine hK25 _ _ ?_;refine wp_seq_k fun K36 hK36=>?_;refine wp_block ?_;refine wp_seq_k fun K37 hK37=>?_;refine drq0 (fun w'=>Chg [] w23 w') (by kernel_rfl) (by kernel_rfl) (fun _ h=>h) ?_;refine qP 0 (.slice ao1 a0.length cap1) ha fun a ha=>?_;refine qP 0 (.int .i64 x11) ha fun a ha=>?_;obtain ⟨⟨hx38,hx38'⟩,H⟩:=ite_some H;obtain ⟨ge39,oe400,cs41,hx38eq,hn44,hR42,hE43⟩:=RSl.elem f1 (Int.toNat x11) (by omega);rw [rd_get] at hR42;obtain ⟨ao45,cap45,rfl,f45⟩:=rS_api_Segment.open hR42;refine qV ha (fun w' hs=>ix_run (r:=rS_api_Segment) (T:=56) ha (by kernel_rfl) (by kernel_rfl) (by rfl) (by rfl) hx38eq hx38 hx38') fun a ha=>?_;refine qP 0 (.pointer (some ⟨ge39,(oe400+(Int.toNat x11)*rS_api_Segment.sz)+1,none⟩)) ha fun a ha=>?_;refine qV (v:=.slice ao45 ((rd a0 x11).AS).length cap45) ha (fun w' hs=>ld_run ha rfl (by kernel_rfl) (hs.keep (hE43 1 (.slice ao45 ((rd a0 x11).AS).length cap45) (by kernel_rfl)))) fun a ha=>?_;refine qP 0 (.int .i64 x24) ha fun a ha=>?_;obtain ⟨⟨hx46,hx46'⟩,H⟩:=ite_some H;obtain ⟨ge47,oe480,cs49,hx46eq,hn52,hR50,hE51⟩:=RSl.elem f45 (Int.toNat x24) (by omega);rw [rd_get] at hR50;obtain rfl:=hR50;have hE51:Cs w23 ge47 (oe480+(Int.toNat x24)*(rInt .i64).sz) ([.int .i64 (rd ((rd a0 x11).AS) x24)]:List Value):=hE51;refine qV ha (fun w' hs=>ix_run (r:=(rInt .i64)) (T:=3) ha (by kernel_rfl) (by kernel_rfl) (by rfl) (by rfl) hx46eq hx46 hx46') fun a ha=>?_;refine qV (v:=.int .i64 (rd ((rd a0 x11).AS) x24)) ha (fun w' hs=>ld_run ha rfl (by kernel_rfl) (hs.keep (hE51 0 (.int .i64 (rd ((rd a0 x11).AS) x24)) (by kernel_rfl)))) fun a ha=>?_;refine qP 0 (.slice ao2 a1.length cap2) ha fun a ha=>?_;refine qP 0 (.int .i64 x11) ha fun a ha=>?_;obtain ⟨⟨hx53,hx53'⟩,H⟩:=ite_some H;obtain ⟨ge54,oe550,cs56,hx53eq,hn59,hR57,hE58⟩:=RSl.elem f2 (Int.toNat x11) (by omega);rw [rd_get] at hR57;obtain ⟨ao60,cap60,rfl,f60⟩:=rS_api_Segment.open hR57;refine qV ha (fun w' hs=>ix_run (r:=rS_api_Segment) (T:=56) ha (by kernel_rfl) (by kernel_rfl) (by rfl) (by rfl) hx53eq hx53 hx53') fun a ha=>?_;refine qP 0 (.pointer (some ⟨ge54,(oe550+(Int.toNat x11)*rS_api_Segment.sz)+1,none⟩)) ha fun a ha=>?_;refine qV (v:=.slice ao60 ((rd a1 x11).AS).length cap60) ha (fun w' hs=>ld_run ha rfl (by kernel_rfl) (hs.keep (hE58 1 (.slice ao60 ((rd a1 x11).AS).length cap60) (by kernel_rfl)))) fun a ha=>?_;refine qP 0 (.int .i64 x24) ha fun a ha=>?_;obtain ⟨⟨hx61,hx61'⟩,H⟩:=ite_some H;obtain ⟨ge62,oe630,cs64,hx61eq,hn67,hR65,hE66⟩:=RSl.elem f60 (Int.toNat x24) (by omega);rw [rd_get] at hR65;obtain rfl:=hR65;have hE66:Cs w23 ge62 (oe630+(Int.toNat x24)*(rInt .i64).sz) ([.int .i64 (rd ((rd a1 x11).AS) x24)]:List Value):=hE66;refine qV ha (fun w' hs=>ix_run (r:=(rInt .i64)) (T:=3) ha (by kernel_rfl) (by kernel_rfl) (by rfl) (by rfl) hx61eq hx61 hx61') fun a ha=>?_;refine qV (v:=.int .i64 (rd ((rd a1 x11).AS) x24)) ha (fun w' hs=>ld_run ha rfl (by kernel_rfl) (hs.keep (hE66 0 (.int .i64 (rd ((rd a1 x11).AS) x24)) (by kernel_rfl)))) fun a ha=>?_;refine qP 0 (.bool ((rd ((rd a0 x11).AS) x24) != (rd ((rd a1 x11).AS) x24))) ha fun a ha=>?_;refine wpQuiet_nil ?_;intro w68 hc69;have o1:=oN M w23;have o2:=oR M w23;have f1:=f1.chg hc69 o1 o2;have f2:=f2.chg hc69 o1 o2;have hM:=hM.chg hc69;have hC:=hC.t0 hc69;refine wpl_end ?_;refine hK37 _ _ ?_;refine cnH H ha (fun hc70 H=>?_) (fun hc70 H=>?_)
        ·refine sq ha 1 [(4,.bool false)] fun a ha=>?_;refine wrt ?_;obtain rfl:=oj H;have H:=(show some _=some _ from Hc23)
         obtain rfl:=oj H;have H:=(show some _=some _ from Hc10)
         obtain rfl:=oj H;refine rt1 ha rfl rfl ?_;exact ⟨rfl,hC,hM⟩
        ·refine wp_skip ?_;refine hK36 _ _ ?_;refine wp_region_lit ?_;refine sd ha 3 [51] [(6,.int .i64 (IntKind.i64.wrap (x24+(1:Int))))] fun a ha=>?_;exact ⟨kk,Nat.lt_succ_self _,⟨IntKind.i64.wrap (x24+(1:Int)),H,(ha.sel (by kernel_rfl)),f1,f2,hC,hM⟩⟩
       ·refine wx ?_;obtain rfl:=oj H;exact J23 _ _ _ rfl (ha.sel (by kernel_rfl)) f1 f2 hC hM
    have H:=H19;refine qP 0 (.slice ao1 a0.length cap1) ha fun a ha=>?_;refine qP 0 (.int .i64 x11) ha fun a ha=>?_;obtain ⟨⟨hx72,hx72'⟩,H⟩:=ite_some H;obtain ⟨ge73,oe740,cs75,hx72eq,hn78,hR76,hE77⟩:=RSl.elem f1 (Int.toNat x11) (by omega);rw [rd_get] at hR76;obtain ⟨ao79,cap79,rfl,f79⟩:=rS_api_Segment.open hR76;refine qV ha (fun w' hs=>ix_run (r:=rS_api_Segment) (T:=56) ha (by kernel_rfl) (by kernel_rfl) (by rfl) (by rfl) hx72eq hx72 hx72') fun a ha=>?_;refine qP 0 (.pointer (some ⟨ge73,(oe740+(Int.toNat x11)*rS_api_Segment.sz),none⟩)) ha fun a ha=>?_;refine qV (v:=.bool ((rd a0 x11).Set)) ha (fun w' hs=>ld_run ha rfl (by kernel_rfl) (hs.keep (hE77 0 (.bool ((rd a0 x11).Set)) (by kernel_rfl)))) fun a ha=>?_;refine qP 0 (.slice ao2 a1.length cap2) ha fun a ha=>?_;refine qP 0 (.int .i64 x11) ha fun a ha=>?_;obtain ⟨⟨hx80,hx80'⟩,H⟩:=ite_some H;obtain ⟨ge81,oe820,cs83,hx80eq,hn86,hR84,hE85⟩:=RSl.elem f2 (Int.toNat x11) (by omega);rw [rd_get] at hR84;obtain ⟨ao87,cap87,rfl,f87⟩:=rS_api_Segment.open hR84;refine qV ha (fun w' hs=>ix_run (r:=rS_api_Segment) (T:=56) ha (by kernel_rfl) (by kernel_rfl) (by rfl) (by rfl) hx80eq hx80 hx80') fun a ha=>?_;refine qP 0 (.pointer (some ⟨ge81,(oe820+(Int.toNat x11)*rS_api_Segment.sz),none⟩)) ha fun a ha=>?_;refine qV (v:=.bool ((rd a1 x11).Set)) ha (fun w' hs=>ld_run ha rfl (by kernel_rfl) (hs.keep (hE85 0 (.bool ((rd a1 x11).Set)) (by kernel_rfl)))) fun a ha=>?_;refine qP 0 (.bool (!(((rd a0 x11).Set)==((rd a1 x11).Set)))) ha fun a ha=>?_;refine qP 0 (.bool (!(((rd a0 x11).Set)==((rd a1 x11).Set)))) ha fun a ha=>?_;have ha:=ha.sel (env':=[(29,.bool (!(((rd a0 x11).Set)==((rd a1 x11).Set)))),(0,.slice ao1 a0.length cap1),(1,.slice ao2 a1.length cap2),(5,.int .i64 x11)]) (by kernel_rfl);rcases Bool.eq_false_or_eq_true (!(((rd a0 x11).Set)==((rd a1 x11).Set))) with hb88 | hb88
    ·have ha:=ha.lit hb88;have H:=ite_t hb88 H;refine qO ha fun a ha=>?_;refine qO ha fun a ha=>?_;refine qO ha fun a ha=>?_;refine qO ha fun a ha=>?_;refine qO ha fun a ha=>?_;refine qO ha fun a ha=>?_;refine qO ha fun a ha=>?_;refine qO ha fun a ha=>?_;refine qO ha fun a ha=>?_;refine qO ha fun a ha=>?_;refine qO ha fun a ha=>?_;refine qO ha fun a ha=>?_;refine qO ha fun a ha=>?_;refine qP 3 (.bool true) ha fun a ha=>?_;refine wpQuiet_nil ?_;intro w89 hc90;have o1:=oN M w10;have o2:=oR M w10;have f1:=f1.chg hc90 o1 o2;have f2:=f2.chg hc90 o1 o2;have hM:=hM.chg hc90;have hC:=hC.t0 hc90;refine wpl_end ?_;obtain rfl:=oj H;exact J19 _ _ (ha.sel (by kernel_rfl)) f1 f2 hC hM
    ·have ha:=ha.lit hb88;have H:=ite_f hb88 H;refine qP 0 (.slice ao1 a0.length cap1) ha fun a ha=>?_;refine qP 0 (.int .i64 x11) ha fun a ha=>?_;obtain ⟨⟨hx91,hx91'⟩,H⟩:=ite_some H;obtain ⟨ge92,oe930,cs94,hx91eq,hn97,hR95,hE96⟩:=RSl.elem f1 (Int.toNat x11) (by omega);rw [rd_get] at hR95;obtain ⟨ao98,cap98,rfl,f98⟩:=rS_api_Segment.open hR95;refine qV ha (fun w' hs=>ix_run (r:=rS_api_Segment) (T:=56) ha (by kernel_rfl) (by kernel_rfl) (by rfl) (by rfl) hx91eq hx91 hx91') fun a ha=>?_;refine qP 0 (.pointer (some ⟨ge92,(oe930+(Int.toNat x11)*rS_api_Segment.sz)+1,none⟩)) ha fun a ha=>?_;refine qV (v:=.slice ao98 ((rd a0 x11).AS).length cap98) ha (fun w' hs=>ld_run ha rfl (by kernel_rfl) (hs.keep (hE96 1 (.slice ao98 ((rd a0 x11).AS).length cap98) (by kernel_rfl)))) fun a ha=>?_;refine qP 0 (.int .i64 (((rd a0 x11).AS).length:Int)) ha fun a ha=>?_;refine qP 0 (.slice ao2 a1.length cap2) ha fun a ha=>?_;refine qP 0 (.int .i64 x11) ha fun a ha=>?_;obtain ⟨⟨hx99,hx99'⟩,H⟩:=ite_some H;obtain ⟨ge100,oe1010,cs102,hx99eq,hn105,hR103,hE104⟩:=RSl.elem f2 (Int.toNat x11) (by omega);rw [rd_get] at hR103;obtain ⟨ao106,cap106,rfl,f106⟩:=rS_api_Segment.open hR103;refine qV ha (fun w' hs=>ix_run (r:=rS_api_Segment) (T:=56) ha (by kernel_rfl) (by kernel_rfl) (by rfl) (by rfl) hx99eq hx99 hx99') fun a ha=>?_;refine qP 0 (.pointer (some ⟨ge100,(oe1010+(Int.toNat x11)*rS_api_Segment.sz)+1,none⟩)) ha fun a ha=>?_;refine qV (v:=.slice ao106 ((rd a1 x11).AS).length cap106) ha (fun w' hs=>ld_run ha rfl (by kernel_rfl) (hs.keep (hE104 1 (.slice ao106 ((rd a1 x11).AS).length cap106) (by kernel_rfl)))) fun a ha=>?_;refine qP 0 (.int .i64 (((rd a1 x11).AS).length:Int)) ha fun a ha=>?_;refine qP 0 (.bool ((((rd a0 x11).AS).length:Int) != (((rd a1 x11).AS).length:Int))) ha fun a ha=>?_;refine qP 4 (.bool ((((rd a0 x11).AS).length:Int) != (((rd a1 x11).AS).length:Int))) ha fun a ha=>?_;refine wpQuiet_nil ?_;intro w107 hc108;have o1:=oN M w10;have o2:=oR M w10;have f1:=f1.chg hc108 o1 o2;have f2:=f2.chg hc108 o1 o2;have hM:=hM.chg hc108;have hC:=hC.t0 hc108;refine wpl_end ?_;obtain rfl:=oj H;exact J19 _ _ (ha.sel (by kernel_rfl)) f1 f2 hC hM
   ·refine wx ?_;obtain rfl:=oj H;exact J10 _ _ _ rfl (ha.sel (by kernel_rfl)) hC hM
def vineryref04_Same.l0 (a0:List (List Int)) (a1:List (List Int)):Nat→Int→Option ((Bool) ⊕ (Unit))
  | 0,_=>none
  | kk+1,x11=>(if (decide (x11 < (a0.length:Int)))=true then (if 0≤x11∧x11 < (a0.length:Int) then (if 0≤x11∧x11 < (a1.length:Int) then (if (!(eqA 8 (rd a0 x11) (rd a1 x11)))=true then some (.inl ((false:Bool))) else vineryref04_Same.l0 a0 a1 kk (IntKind.i64.wrap (x11+(1:Int)))) else none) else none) else some (.inr (():Unit)))
def vineryref04_Same.f (k:Nat) (a0:List (List Int)) (a1:List (List Int)):Option (Bool):=(if ((a0.length:Int) != (a1.length:Int))=true then some ((false:Bool)) else (vineryref04_Same.l0 a0 a1 k (0:Int)).bind fun s10=>match s10 with | .inl r=>some r | .inr s10'=>some ((true:Bool)))
set_option maxRecDepth 100000 in
theorem vineryref04_Same.walk (w:World) (M:List Nat) (hM:MS M w) (a0:List (List Int)) (ao1:Option Addr) (cap1:Nat) (f1:RSl (rArr .u8 8) 79 w M ao1 cap1 a0) (a1:List (List Int)) (ao2:Option Addr) (cap2:Nat) (f2:RSl (rArr .u8 8) 79 w M ao2 cap2 a1) (k:Nat) (r:Bool) (H:vineryref04_Same.f k a0 a1=some r) :
    To Try.prog 43 [.slice ao1 a0.length cap1,.slice ao2 a1.length cap2] w fun v w'=>v=.bool r∧Chg [] w w'∧MS (M) w':=by
 unfold vineryref04_Same.f at H;refine ent Try.func43 rfl [(0,.slice ao1 a0.length cap1),(1,.slice ao2 a1.length cap2)] rfl (by rfl) fun a ha=>?_;have hC:Chg [] w w:=Chg.refl _ _;refine sqd ha 1 [] [] fun a ha=>?_;refine wp_seq_k fun K4 hK4=>?_;refine sqd ha 5 [] [(10,.bool ((a0.length:Int) != (a1.length:Int)))] fun a ha=>?_;refine cnH H ha (fun hc6 H=>?_) (fun hc6 H=>?_)
 ·refine sq ha 1 [(4,.bool false)] fun a ha=>?_;refine wrt ?_;obtain rfl:=oj H;refine rt1 ha rfl rfl ?_;exact ⟨rfl,hC,hM⟩
 ·refine wp_skip ?_;refine hK4 _ _ ?_;refine wp_seq_k fun K8 hK8=>?_;refine sqd ha 1 [10] [(5,.int .i64 0)] fun a ha=>?_;refine wp_block ?_;obtain ⟨s10,H10,H⟩:=bind_some H;have J10:∀ s10' (a:Act) (wx10:World),s10=.inr s10'→Has a Try.f43.ntmps []→(Chg [] w wx10)→(MS (M) wx10)→K8 a wx10:=by
   intro s10' a wx10 hs ha hC hM;subst hs;refine hK8 _ _ ?_;refine sq ha 1 [(4,.bool true)] fun a ha=>?_;refine wrt ?_;obtain rfl:=oj H;refine rt1 ha rfl rfl ?_;exact ⟨rfl,hC,hM⟩
  have Hc10:=H;have H:=H10;refine wp_loop_ghost (fun kk a w10=>∃ (x11:Int),vineryref04_Same.l0 a0 a1 kk x11=some s10∧Has a Try.f43.ntmps [(0,.slice ao1 a0.length cap1),(1,.slice ao2 a1.length cap2),(5,.int .i64 x11)]∧(RSl (rArr .u8 8) 79 w10 (M) ao1 cap1 a0)∧(RSl (rArr .u8 8) 79 w10 (M) ao2 cap2 a1)∧(Chg [] w w10)∧(MS (M) w10)) k ?_ ?_
  ·skip;exact ⟨(0:Int),H,(ha.sel (by kernel_rfl)),f1,f2,hC,hM⟩
  ·rintro kk a w10 ⟨x11,H,ha,f1,f2,hC,hM⟩;obtain _ | kk:=kk
   ·exact nomatch (show none=some _ from H)
   rw [vineryref04_Same.l0] at H;refine wp_seq_k fun K13 hK13=>?_;refine sqd ha 4 [] [(14,.bool (decide (x11 < (a0.length:Int))))] fun a ha=>?_;refine cnH H ha (fun hc15 H=>?_) (fun hc15 H=>?_)
   ·refine wp_skip ?_;refine hK13 _ _ ?_;refine wp_seq_k fun K16 hK16=>?_;refine wp_block ?_;refine wp_seq_k fun K17 hK17=>?_;refine drq0 (fun w'=>Chg [] w10 w') (by kernel_rfl) (by kernel_rfl) (fun _ h=>h) ?_;refine qP 0 (.slice ao1 a0.length cap1) ha fun a ha=>?_;refine qP 0 (.int .i64 x11) ha fun a ha=>?_;obtain ⟨⟨hx18,hx18'⟩,H⟩:=ite_some H;obtain ⟨ge19,oe200,cs21,hx18eq,hn24,hR22,hE23⟩:=RSl.elem f1 (Int.toNat x11) (by omega);rw [rd_get] at hR22;obtain rfl:=hR22;have hE23:Cs w10 ge19 (oe200+(Int.toNat x11)*(rArr .u8 8).sz) (cA .u8 8 (rd a0 x11)):=hE23;refine qV ha (fun w' hs=>ix_run (r:=(rArr .u8 8)) (T:=79) ha (by kernel_rfl) (by kernel_rfl) (by rfl) (by rfl) hx18eq hx18 hx18') fun a ha=>?_;refine qV ha (fun w' hs=>ldR (cs:=(cA .u8 8 (rd a0 x11))) (fun j v hv=>hs.keep (hE23 j v hv)) ha) fun a ha=>?_;refine qP 0 (.slice ao2 a1.length cap2) ha fun a ha=>?_;refine qP 0 (.int .i64 x11) ha fun a ha=>?_;obtain ⟨⟨hx25,hx25'⟩,H⟩:=ite_some H;obtain ⟨ge26,oe270,cs28,hx25eq,hn31,hR29,hE30⟩:=RSl.elem f2 (Int.toNat x11) (by omega);rw [rd_get] at hR29;obtain rfl:=hR29;have hE30:Cs w10 ge26 (oe270+(Int.toNat x11)*(rArr .u8 8).sz) (cA .u8 8 (rd a1 x11)):=hE30;refine qV ha (fun w' hs=>ix_run (r:=(rArr .u8 8)) (T:=79) ha (by kernel_rfl) (by kernel_rfl) (by rfl) (by rfl) hx25eq hx25 hx25') fun a ha=>?_;refine qV ha (fun w' hs=>ldR (cs:=(cA .u8 8 (rd a1 x11))) (fun j v hv=>hs.keep (hE30 j v hv)) ha) fun a ha=>?_;refine qV (v:=.bool (!(eqA 8 (rd a0 x11) (rd a1 x11)))) ha (fun w' hs=>nes_run (r:=(eqA 8 (rd a0 x11) (rd a1 x11))) (m:=9) ha rfl rfl (by kernel_rfl) rfl (by kernel_rfl) w') fun a ha=>?_;refine wpQuiet_nil ?_;intro w32 hc33;have o1:=oN M w10;have o2:=oR M w10;have f1:=f1.chg hc33 o1 o2;have f2:=f2.chg hc33 o1 o2;have hM:=hM.chg hc33;have hC:=hC.t0 hc33;refine wpl_end ?_;refine hK17 _ _ ?_;refine cnH H ha (fun hc34 H=>?_) (fun hc34 H=>?_)
    ·refine sq ha 1 [(4,.bool false)] fun a ha=>?_;refine wrt ?_;obtain rfl:=oj H;have H:=(show some _=some _ from Hc10)
     obtain rfl:=oj H;refine rt1 ha rfl rfl ?_;exact ⟨rfl,hC,hM⟩
    ·refine wp_skip ?_;refine hK16 _ _ ?_;refine wp_region_lit ?_;refine sd ha 3 [14] [(5,.int .i64 (IntKind.i64.wrap (x11+(1:Int))))] fun a ha=>?_;exact ⟨kk,Nat.lt_succ_self _,⟨IntKind.i64.wrap (x11+(1:Int)),H,(ha.sel (by kernel_rfl)),f1,f2,hC,hM⟩⟩
   ·refine wx ?_;obtain rfl:=oj H;exact J10 _ _ _ rfl (ha.sel (by kernel_rfl)) hC hM
def vineryref09_Same.l1 (a0:S_api_Attrs) (a1:S_api_Attrs):Nat→Int→Option ((Bool) ⊕ (Unit))
  | 0,_=>none
  | kk+1,x32=>(if (decide (x32 < (a0.Tunnels.length:Int)))=true then (if 0≤x32∧x32 < (a0.Tunnels.length:Int) then (if 0≤x32∧x32 < (a1.Tunnels.length:Int) then (vineryref06_Equal.f (rd a0.Tunnels x32) (rd a1.Tunnels x32)).bind fun t59=>(if (!t59)=true then some (.inl ((false:Bool))) else vineryref09_Same.l1 a0 a1 kk (IntKind.i64.wrap (x32+(1:Int)))) else none) else none) else some (.inr (():Unit)))
def vineryref09_Same.l0 (a0:S_api_Attrs) (a1:S_api_Attrs):Nat→Int→Option ((Bool) ⊕ (Unit))
  | 0,_=>none
  | kk+1,x28=>(if (decide (x28 < (a0.Clusters.length:Int)))=true then (if 0≤x28∧x28 < (a0.Clusters.length:Int) then (if 0≤x28∧x28 < (a1.Clusters.length:Int) then (if (!((((rd a0.Clusters x28).Size)==((rd a1.Clusters x28).Size)) && ((eqA 16 ((rd a0.Clusters x28).B) ((rd a1.Clusters x28).B)) && true)))=true then some (.inl ((false:Bool))) else vineryref09_Same.l0 a0 a1 kk (IntKind.i64.wrap (x28+(1:Int)))) else none) else none) else some (.inr (():Unit)))
def vineryref09_Same.f (k:Nat) (a0:S_api_Attrs) (a1:S_api_Attrs):Option (Bool):=((if (a0.Origin != a1.Origin)=true then some (true:Bool) else (if (a0.Med != a1.Med)=true then some (true:Bool) else (if (a0.Pref != a1.Pref)=true then some (true:Bool) else (if (!((a0.Originator.Size==a1.Originator.Size) && ((eqA 16 a0.Originator.B a1.Originator.B) && true)))=true then some (true:Bool) else (if ((a0.Clusters.length:Int) != (a1.Clusters.length:Int))=true then some (true:Bool) else some ((a0.Tunnels.length:Int) != (a1.Tunnels.length:Int):Bool))))))).bind fun s22=>(if s22=true then some ((false:Bool)) else (vineryref09_Same.l0 a0 a1 k (0:Int)).bind fun s27=>match s27 with | .inl r=>some r | .inr s27'=>(vineryref09_Same.l1 a0 a1 k (0:Int)).bind fun s31=>match s31 with | .inl r=>some r | .inr s31'=>((vineryref09_samePath.f k a0.Path a1.Path).bind fun t35=>(if t35=true then (vineryref04_Same.f k a0.Exts a1.Exts).bind fun t37=>some (t37:Bool) else some (false:Bool))).bind fun s34=>some ((s34:Bool)))
set_option maxRecDepth 100000 in
theorem vineryref09_Same.walk (w:World) (M:List Nat) (hM:MS M w) (a0:S_api_Attrs) (ao1:Option Addr) (cap1:Nat) (f1:RSl rS_api_Segment 56 w M ao1 cap1 a0.Path) (ao2:Option Addr) (cap2:Nat) (f2:RSl rS_api_Addr 30 w M ao2 cap2 a0.Clusters) (ao3:Option Addr) (cap3:Nat) (f3:RSl (rArr .u8 8) 79 w M ao3 cap3 a0.Exts) (ao4:Option Addr) (cap4:Nat) (f4:RSl rS_api_Tunnel 68 w M ao4 cap4 a0.Tunnels) (a1:S_api_Attrs) (ao5:Option Addr) (cap5:Nat) (f5:RSl rS_api_Segment 56 w M ao5 cap5 a1.Path) (ao6:Option Addr) (cap6:Nat) (f6:RSl rS_api_Addr 30 w M ao6 cap6 a1.Clusters) (ao7:Option Addr) (cap7:Nat) (f7:RSl (rArr .u8 8) 79 w M ao7 cap7 a1.Exts) (ao8:Option Addr) (cap8:Nat) (f8:RSl rS_api_Tunnel 68 w M ao8 cap8 a1.Tunnels) (k:Nat) (r:Bool) (H:vineryref09_Same.f k a0 a1=some r) :
    To Try.prog 37 [.agg (cS_api_Attrs a0 ao1 cap1 ao2 cap2 ao3 cap3 ao4 cap4).toArray,.agg (cS_api_Attrs a1 ao5 cap5 ao6 cap6 ao7 cap7 ao8 cap8).toArray] w fun v w'=>v=.bool r∧Chg [] w w'∧MS (M) w':=by
 unfold vineryref09_Same.f at H;refine ent Try.func37 rfl [(0,.agg (cS_api_Attrs a0 ao1 cap1 ao2 cap2 ao3 cap3 ao4 cap4).toArray),(1,.agg (cS_api_Attrs a1 ao5 cap5 ao6 cap6 ao7 cap7 ao8 cap8).toArray)] rfl (by rfl) fun a ha=>?_;have hC:Chg [] w w:=Chg.refl _ _;refine wsr fun K9 hK9=>?_;refine bx (cs:=(cS_api_Attrs a0 ao1 cap1 ao2 cap2 ao3 cap3 ao4 cap4)) ha rfl rfl rfl rfl rfl fun a w10 g11 hN12 ha=>?_;have hn14:=hN12.notin hM;have o1:=oN M w;have o2:=oR M w;have f1:=f1.chg hN12.chg o1 o2;have f2:=f2.chg hN12.chg o1 o2;have f3:=f3.chg hN12.chg o1 o2;have f4:=f4.chg hN12.chg o1 o2;have f5:=f5.chg hN12.chg o1 o2;have f6:=f6.chg hN12.chg o1 o2;have f7:=f7.chg hN12.chg o1 o2;have f8:=f8.chg hN12.chg o1 o2;have hM:=hM.chg hN12.chg;have hC:=hC.t0 hN12.chg;have hE13:Cs w10 g11 0 (cS_api_Attrs a0 ao1 cap1 ao2 cap2 ao3 cap3 ao4 cap4):=Box.cells (New.box hN12);refine bx (cs:=(cS_api_Attrs a1 ao5 cap5 ao6 cap6 ao7 cap7 ao8 cap8)) ha rfl rfl rfl rfl rfl fun a w15 g16 hN17 ha=>?_;have hn19:=hN17.notin hM;have o1:=oN M w10;have o2:=oR M w10;have f5:=f5.chg hN17.chg o1 o2;have f6:=f6.chg hN17.chg o1 o2;have f7:=f7.chg hN17.chg o1 o2;have f8:=f8.chg hN17.chg o1 o2;have f1:=f1.chg hN17.chg o1 o2;have f2:=f2.chg hN17.chg o1 o2;have f3:=f3.chg hN17.chg o1 o2;have f4:=f4.chg hN17.chg o1 o2;have q_hn14:=qn o2 hn14 (hE13 0 _ rfl);have hE13:=ck hN17.chg o1 hn14 hE13;have hn14:=q_hn14;have hM:=hM.chg hN17.chg;have hC:=hC.t0 hN17.chg;have hE18:Cs w15 g16 0 (cS_api_Attrs a1 ao5 cap5 ao6 cap6 ao7 cap7 ao8 cap8):=Box.cells (New.box hN17);refine sf ha 1 [(2,pt g11 0),(3,pt g16 0)] fun a ha=>?_;refine hK9 _ _ ?_;refine wp_seq_k fun K20 hK20=>?_;refine wsr fun K21 hK21=>?_;obtain ⟨s22,H22,H⟩:=bind_some H;have J22:∀ (a:Act) (w22:World),Has a Try.f37.ntmps [(2,pt g11 0),(3,pt g16 0),(51,.bool s22)]→(RSl rS_api_Segment 56 w22 (M) ao1 cap1 a0.Path)→(RSl rS_api_Addr 30 w22 (M) ao2 cap2 a0.Clusters)→(RSl (rArr .u8 8) 79 w22 (M) ao3 cap3 a0.Exts)→(RSl rS_api_Tunnel 68 w22 (M) ao4 cap4 a0.Tunnels)→(RSl rS_api_Segment 56 w22 (M) ao5 cap5 a1.Path)→(RSl rS_api_Addr 30 w22 (M) ao6 cap6 a1.Clusters)→(RSl (rArr .u8 8) 79 w22 (M) ao7 cap7 a1.Exts)→(RSl rS_api_Tunnel 68 w22 (M) ao8 cap8 a1.Tunnels)→(Cs w22 g11 0 (cS_api_Attrs a0 ao1 cap1 ao2 cap2 ao3 cap3 ao4 cap4))→(g11∉(M))→(Cs w22 g16 0 (cS_api_Attrs a1 ao5 cap5 ao6 cap6 ao7 cap7 ao8 cap8))→(g16∉(M))→(Chg [] w w22)→(MS (M) w22)→K21 a w22:=by
  intro a w22 ha f1 f2 f3 f4 f5 f6 f7 f8 hE13 hn14 hE18 hn19 hC hM;refine hK21 _ _ ?_;refine cnH H ha (fun hc23 H=>?_) (fun hc23 H=>?_)
  ·refine sq ha 1 [(4,.bool false)] fun a ha=>?_;refine wrt ?_;obtain rfl:=oj H;refine rt1 ha rfl rfl ?_;exact ⟨rfl,hC,hM⟩
  ·refine wp_skip ?_;refine hK20 _ _ ?_;refine wp_seq_k fun K25 hK25=>?_;refine sqd ha 1 [51] [(5,.int .i64 0)] fun a ha=>?_;refine wp_block ?_;obtain ⟨s27,H27,H⟩:=bind_some H;have J27:∀ s27' (a:Act) (wx27:World),s27=.inr s27'→Has a Try.f37.ntmps [(2,pt g11 0),(3,pt g16 0)]→(RSl rS_api_Segment 56 wx27 (M) ao1 cap1 a0.Path)→(RSl rS_api_Addr 30 wx27 (M) ao2 cap2 a0.Clusters)→(RSl (rArr .u8 8) 79 wx27 (M) ao3 cap3 a0.Exts)→(RSl rS_api_Tunnel 68 wx27 (M) ao4 cap4 a0.Tunnels)→(RSl rS_api_Segment 56 wx27 (M) ao5 cap5 a1.Path)→(RSl rS_api_Addr 30 wx27 (M) ao6 cap6 a1.Clusters)→(RSl (rArr .u8 8) 79 wx27 (M) ao7 cap7 a1.Exts)→(RSl rS_api_Tunnel 68 wx27 (M) ao8 cap8 a1.Tunnels)→(Cs wx27 g11 0 (cS_api_Attrs a0 ao1 cap1 ao2 cap2 ao3 cap3 ao4 cap4))→(g11∉(M))→(Cs wx27 g16 0 (cS_api_Attrs a1 ao5 cap5 ao6 cap6 ao7 cap7 ao8 cap8))→(g16∉(M))→(Chg [] w wx27)→(MS (M) wx27)→K25 a wx27:=by
    intro s27' a wx27 hs ha f1 f2 f3 f4 f5 f6 f7 f8 hE13 hn14 hE18 hn19 hC hM;subst hs;refine hK25 _ _ ?_;refine wp_seq_k fun K29 hK29=>?_;refine sqd ha 1 [] [(6,.int .i64 0)] fun a ha=>?_;refine wp_block ?_;obtain ⟨s31,H31,H⟩:=bind_some H;have J31:∀ s31' (a:Act) (wx31:World),s31=.inr s31'→Has a Try.f37.ntmps [(2,pt g11 0),(3,pt g16 0)]→(RSl rS_api_Segment 56 wx31 (M) ao1 cap1 a0.Path)→(RSl rS_api_Addr 30 wx31 (M) ao2 cap2 a0.Clusters)→(RSl (rArr .u8 8) 79 wx31 (M) ao3 cap3 a0.Exts)→(RSl rS_api_Tunnel 68 wx31 (M) ao4 cap4 a0.Tunnels)→(RSl rS_api_Segment 56 wx31 (M) ao5 cap5 a1.Path)→(RSl rS_api_Addr 30 wx31 (M) ao6 cap6 a1.Clusters)→(RSl (rArr .u8 8) 79 wx31 (M) ao7 cap7 a1.Exts)→(RSl rS_api_Tunnel 68 wx31 (M) ao8 cap8 a1.Tunnels)→(Cs wx31 g11 0 (cS_api_Attrs a0 ao1 cap1 ao2 cap2 ao3 cap3 ao4 cap4))→(g11∉(M))→(Cs wx31 g16 0 (cS_api_Attrs a1 ao5 cap5 ao6 cap6 ao7 cap7 ao8 cap8))→(g16∉(M))→(Chg [] w wx31)→(MS (M) wx31)→K29 a wx31:=by
     intro s31' a wx31 hs ha f1 f2 f3 f4 f5 f6 f7 f8 hE13 hn14 hE18 hn19 hC hM;subst hs;refine hK29 _ _ ?_;refine wsr fun K33 hK33=>?_;obtain ⟨s34,H34,H⟩:=bind_some H;have J34:∀ (a:Act) (w34:World),Has a Try.f37.ntmps [(4,.bool s34)]→(Chg [] w w34)→(MS (M) w34)→K33 a w34:=by
      intro a w34 ha hC hM;refine hK33 _ _ ?_;refine wrt ?_;obtain rfl:=oj H;refine rt1 ha rfl rfl ?_;exact ⟨rfl,hC,hM⟩
     have H:=H34;refine sd ha 1 [] [(90,.pointer (some ⟨g11,0+1,none⟩))] fun a ha=>?_;refine ld ha rfl (by kernel_rfl) rfl rfl rfl (hE13 1 (.slice ao1 a0.Path.length cap1) (by kernel_rfl)) fun a ha=>?_;refine sd ha 1 [90] [(91,.slice ao1 a0.Path.length cap1),(92,.pointer (some ⟨g16,0+1,none⟩))] fun a ha=>?_;refine ld ha rfl (by kernel_rfl) rfl rfl rfl (hE18 1 (.slice ao5 a1.Path.length cap5) (by kernel_rfl)) fun a ha=>?_;obtain ⟨t35,H35,H⟩:=bind_some H;refine cL ha (vineryref09_samePath.walk wx31 _ hM a0.Path ao1 cap1 f1 a1.Path ao5 cap5 f5 k _ H35) ?_;rintro _ w35 ⟨rfl,hc35,hMn⟩ a ha;have o1:=oN M wx31;have o2:=oR M wx31;have f3:=f3.chg hc35 o1 o2;have f7:=f7.chg hc35 o1 o2;have hE13:=ck hc35 o1 hn14 hE13;have hE18:=ck hc35 o1 hn19 hE18;have hM:=hM.chg hc35;have hC:=hC.t0 hc35;refine sd ha 1 [91,92] [(95,.bool t35)] fun a ha=>?_;rcases Bool.eq_false_or_eq_true (t35) with hb36 | hb36
     ·have ha:=ha.lit hb36;have H:=ite_t hb36 H;refine sgd ha 1 [2] [2] [(95,.bool true),(96,.pointer (some ⟨g11,0+22,none⟩))] fun a ha=>?_;refine ld ha rfl (by kernel_rfl) rfl rfl rfl (hE13 22 (.slice ao3 a0.Exts.length cap3) (by kernel_rfl)) fun a ha=>?_;refine sgd ha 1 [2] [3,96] [(97,.slice ao3 a0.Exts.length cap3),(98,.pointer (some ⟨g16,0+22,none⟩))] fun a ha=>?_;refine ld ha rfl (by kernel_rfl) rfl rfl rfl (hE18 22 (.slice ao7 a1.Exts.length cap7) (by kernel_rfl)) fun a ha=>?_;obtain ⟨t37,H37,H⟩:=bind_some H;refine cL ha (vineryref04_Same.walk w35 _ hM a0.Exts ao3 cap3 f3 a1.Exts ao7 cap7 f7 k _ H37) ?_;rintro _ w37 ⟨rfl,hc37,hMn⟩ a ha;have hM:=hM.chg hc37;have hC:=hC.t0 hc37;refine sgf ha 2 [3,0] [(4,.bool t37)] fun a ha=>?_;obtain rfl:=oj H;exact J34 _ _ (ha.sel (by kernel_rfl)) hC hM
     ·have ha:=ha.lit hb36;have H:=ite_f hb36 H;refine sgf ha 7 [1,1,1,1,1,4,0] [(4,.bool false)] fun a ha=>?_;obtain rfl:=oj H;exact J34 _ _ (ha.sel (by kernel_rfl)) hC hM
    have Hc31:=H;have H:=H31;refine wp_loop_ghost (fun kk a w31=>∃ (x32:Int),vineryref09_Same.l1 a0 a1 kk x32=some s31∧Has a Try.f37.ntmps [(2,pt g11 0),(3,pt g16 0),(6,.int .i64 x32)]∧(RSl rS_api_Segment 56 w31 (M) ao1 cap1 a0.Path)∧(RSl rS_api_Addr 30 w31 (M) ao2 cap2 a0.Clusters)∧(RSl (rArr .u8 8) 79 w31 (M) ao3 cap3 a0.Exts)∧(RSl rS_api_Tunnel 68 w31 (M) ao4 cap4 a0.Tunnels)∧(RSl rS_api_Segment 56 w31 (M) ao5 cap5 a1.Path)∧(RSl rS_api_Addr 30 w31 (M) ao6 cap6 a1.Clusters)∧(RSl (rArr .u8 8) 79 w31 (M) ao7 cap7 a1.Exts)∧(RSl rS_api_Tunnel 68 w31 (M) ao8 cap8 a1.Tunnels)∧(Cs w31 g11 0 (cS_api_Attrs a0 ao1 cap1 ao2 cap2 ao3 cap3 ao4 cap4))∧(g11∉(M))∧(Cs w31 g16 0 (cS_api_Attrs a1 ao5 cap5 ao6 cap6 ao7 cap7 ao8 cap8))∧(g16∉(M))∧(Chg [] w w31)∧(MS (M) w31)) k ?_ ?_
    ·skip;exact ⟨(0:Int),H,(ha.sel (by kernel_rfl)),f1,f2,f3,f4,f5,f6,f7,f8,hE13,hn14,hE18,hn19,hC,hM⟩
    ·rintro kk a w31 ⟨x32,H,ha,f1,f2,f3,f4,f5,f6,f7,f8,hE13,hn14,hE18,hn19,hC,hM⟩;obtain _ | kk:=kk
     ·exact nomatch (show none=some _ from H)
     rw [vineryref09_Same.l1] at H;refine wp_seq_k fun K38 hK38=>?_;refine wsr fun K39 hK39=>?_;refine sd ha 2 [] [(70,.int .i64 x32),(71,.pointer (some ⟨g11,0+23,none⟩))] fun a ha=>?_;refine ld ha rfl (by kernel_rfl) rfl rfl rfl (hE13 23 (.slice ao4 a0.Tunnels.length cap4) (by kernel_rfl)) fun a ha=>?_;refine sd ha 2 [70,71] [(74,.bool (decide (x32 < (a0.Tunnels.length:Int))))] fun a ha=>?_;refine hK39 _ _ ?_;refine cnH H ha (fun hc40 H=>?_) (fun hc40 H=>?_)
     ·refine wp_skip ?_;refine hK38 _ _ ?_;refine wp_seq_k fun K41 hK41=>?_;refine wp_block ?_;refine wp_seq_k fun K42 hK42=>?_;refine drq0 (fun w'=>Chg [] w31 w') (by kernel_rfl) (by kernel_rfl) (fun _ h=>h) ?_;refine qP 0 (.pointer (some ⟨g11,0+23,none⟩)) ha fun a ha=>?_;refine qV (v:=.slice ao4 a0.Tunnels.length cap4) ha (fun w' hs=>ld_run ha rfl (by kernel_rfl) (hs.keep (hE13 23 (.slice ao4 a0.Tunnels.length cap4) (by kernel_rfl)))) fun a ha=>?_;refine qP 0 (.int .i64 x32) ha fun a ha=>?_;obtain ⟨⟨hx43,hx43'⟩,H⟩:=ite_some H;obtain ⟨ge44,oe450,cs46,hx43eq,hn49,hR47,hE48⟩:=RSl.elem f4 (Int.toNat x32) (by omega);rw [rd_get] at hR47;obtain ⟨ao50,cap50,rfl,f50⟩:=rS_api_Tunnel.open hR47;refine qV ha (fun w' hs=>ix_run (r:=rS_api_Tunnel) (T:=68) ha (by kernel_rfl) (by kernel_rfl) (by rfl) (by rfl) hx43eq hx43 hx43') fun a ha=>?_;refine qV ha (fun w' hs=>ldR (cs:=(cS_api_Tunnel (rd a0.Tunnels x32) ao50 cap50)) (fun j v hv=>hs.keep (hE48 j v hv)) ha) fun a ha=>?_;refine qP 0 (.pointer (some ⟨g16,0+23,none⟩)) ha fun a ha=>?_;refine qV (v:=.slice ao8 a1.Tunnels.length cap8) ha (fun w' hs=>ld_run ha rfl (by kernel_rfl) (hs.keep (hE18 23 (.slice ao8 a1.Tunnels.length cap8) (by kernel_rfl)))) fun a ha=>?_;refine qP 0 (.int .i64 x32) ha fun a ha=>?_;obtain ⟨⟨hx51,hx51'⟩,H⟩:=ite_some H;obtain ⟨ge52,oe530,cs54,hx51eq,hn57,hR55,hE56⟩:=RSl.elem f8 (Int.toNat x32) (by omega);rw [rd_get] at hR55;obtain ⟨ao58,cap58,rfl,f58⟩:=rS_api_Tunnel.open hR55;refine qV ha (fun w' hs=>ix_run (r:=rS_api_Tunnel) (T:=68) ha (by kernel_rfl) (by kernel_rfl) (by rfl) (by rfl) hx51eq hx51 hx51') fun a ha=>?_;refine qV ha (fun w' hs=>ldR (cs:=(cS_api_Tunnel (rd a1.Tunnels x32) ao58 cap58)) (fun j v hv=>hs.keep (hE56 j v hv)) ha) fun a ha=>?_;obtain ⟨t59,H59,H⟩:=bind_some H;refine qc (.bool t59) ha (by rfl) (by kernel_rfl) (by rfl) (by rfl) (by rfl) (fun w' hs=>(vineryref06_Equal.walk w' [] (MS.nil _) (rd a0.Tunnels x32) ao50 cap50 (RSl.chg (M':=[]) f50 hs (Ok.nil _ _) (Ok.nil _ _)) (rd a1.Tunnels x32) ao58 cap58 (RSl.chg (M':=[]) f58 hs (Ok.nil _ _) (Ok.nil _ _)) _ H59).mono fun v w'' ⟨hv,hc,_⟩=>⟨hv,hs.trans hc (Ok.nil _ _)⟩) fun a ha=>?_;refine qP 0 (.bool t59) ha fun a ha=>?_;refine wpQuiet_nil ?_;intro w60 hc61;have o1:=oN M w31;have o2:=oR M w31;have f1:=f1.chg hc61 o1 o2;have f2:=f2.chg hc61 o1 o2;have f3:=f3.chg hc61 o1 o2;have f4:=f4.chg hc61 o1 o2;have f5:=f5.chg hc61 o1 o2;have f6:=f6.chg hc61 o1 o2;have f7:=f7.chg hc61 o1 o2;have f8:=f8.chg hc61 o1 o2;have q_hn14:=qn o2 hn14 (hE13 0 _ rfl);have hE13:=ck hc61 o1 hn14 hE13;have hn14:=q_hn14;have q_hn19:=qn o2 hn19 (hE18 0 _ rfl);have hE18:=ck hc61 o1 hn19 hE18;have hn19:=q_hn19;have hM:=hM.chg hc61;have hC:=hC.t0 hc61;refine wpl_end ?_;refine hK42 _ _ ?_;refine sqd ha 2 [74] [(89,.bool (!t59))] fun a ha=>?_;refine cnH H ha (fun hc63 H=>?_) (fun hc63 H=>?_)
      ·refine sq ha 1 [(4,.bool false)] fun a ha=>?_;refine wrt ?_;obtain rfl:=oj H;have H:=(show some _=some _ from Hc31)
       obtain rfl:=oj H;refine rt1 ha rfl rfl ?_;exact ⟨rfl,hC,hM⟩
      ·refine wp_skip ?_;refine hK41 _ _ ?_;refine wp_region_lit ?_;refine sd ha 3 [89] [(6,.int .i64 (IntKind.i64.wrap (x32+(1:Int))))] fun a ha=>?_;exact ⟨kk,Nat.lt_succ_self _,⟨IntKind.i64.wrap (x32+(1:Int)),H,(ha.sel (by kernel_rfl)),f1,f2,f3,f4,f5,f6,f7,f8,hE13,hn14,hE18,hn19,hC,hM⟩⟩
     ·refine wx ?_;obtain rfl:=oj H;exact J31 _ _ _ rfl (ha.sel (by kernel_rfl)) f1 f2 f3 f4 f5 f6 f7 f8 hE13 hn14 hE18 hn19 hC hM
   have Hc27:=H;have H:=H27;refine wp_loop_ghost (fun kk a w27=>∃ (x28:Int),vineryref09_Same.l0 a0 a1 kk x28=some s27∧Has a Try.f37.ntmps [(2,pt g11 0),(3,pt g16 0),(5,.int .i64 x28)]∧(RSl rS_api_Segment 56 w27 (M) ao1 cap1 a0.Path)∧(RSl rS_api_Addr 30 w27 (M) ao2 cap2 a0.Clusters)∧(RSl (rArr .u8 8) 79 w27 (M) ao3 cap3 a0.Exts)∧(RSl rS_api_Tunnel 68 w27 (M) ao4 cap4 a0.Tunnels)∧(RSl rS_api_Segment 56 w27 (M) ao5 cap5 a1.Path)∧(RSl rS_api_Addr 30 w27 (M) ao6 cap6 a1.Clusters)∧(RSl (rArr .u8 8) 79 w27 (M) ao7 cap7 a1.Exts)∧(RSl rS_api_Tunnel 68 w27 (M) ao8 cap8 a1.Tunnels)∧(Cs w27 g11 0 (cS_api_Attrs a0 ao1 cap1 ao2 cap2 ao3 cap3 ao4 cap4))∧(g11∉(M))∧(Cs w27 g16 0 (cS_api_Attrs a1 ao5 cap5 ao6 cap6 ao7 cap7 ao8 cap8))∧(g16∉(M))∧(Chg [] w w27)∧(MS (M) w27)) k ?_ ?_
   ·skip;exact ⟨(0:Int),H,(ha.sel (by kernel_rfl)),f1,f2,f3,f4,f5,f6,f7,f8,hE13,hn14,hE18,hn19,hC,hM⟩
   ·rintro kk a w27 ⟨x28,H,ha,f1,f2,f3,f4,f5,f6,f7,f8,hE13,hn14,hE18,hn19,hC,hM⟩;obtain _ | kk:=kk
    ·exact nomatch (show none=some _ from H)
    rw [vineryref09_Same.l0] at H;refine wp_seq_k fun K65 hK65=>?_;refine wsr fun K66 hK66=>?_;refine sd ha 2 [] [(52,.int .i64 x28),(53,.pointer (some ⟨g11,0+21,none⟩))] fun a ha=>?_;refine ld ha rfl (by kernel_rfl) rfl rfl rfl (hE13 21 (.slice ao2 a0.Clusters.length cap2) (by kernel_rfl)) fun a ha=>?_;refine sd ha 2 [52,53] [(56,.bool (decide (x28 < (a0.Clusters.length:Int))))] fun a ha=>?_;refine hK66 _ _ ?_;refine cnH H ha (fun hc67 H=>?_) (fun hc67 H=>?_)
    ·refine wp_skip ?_;refine hK65 _ _ ?_;refine wp_seq_k fun K68 hK68=>?_;refine wp_block ?_;refine wp_seq_k fun K69 hK69=>?_;refine drq0 (fun w'=>Chg [] w27 w') (by kernel_rfl) (by kernel_rfl) (fun _ h=>h) ?_;refine qP 0 (.pointer (some ⟨g11,0+21,none⟩)) ha fun a ha=>?_;refine qV (v:=.slice ao2 a0.Clusters.length cap2) ha (fun w' hs=>ld_run ha rfl (by kernel_rfl) (hs.keep (hE13 21 (.slice ao2 a0.Clusters.length cap2) (by kernel_rfl)))) fun a ha=>?_;refine qP 0 (.int .i64 x28) ha fun a ha=>?_;obtain ⟨⟨hx70,hx70'⟩,H⟩:=ite_some H;obtain ⟨ge71,oe720,cs73,hx70eq,hn76,hR74,hE75⟩:=RSl.elem f2 (Int.toNat x28) (by omega);rw [rd_get] at hR74;obtain rfl:=rS_api_Addr.open hR74;refine qV ha (fun w' hs=>ix_run (r:=rS_api_Addr) (T:=30) ha (by kernel_rfl) (by kernel_rfl) (by rfl) (by rfl) hx70eq hx70 hx70') fun a ha=>?_;refine qV ha (fun w' hs=>ldR (cs:=(cS_api_Addr (rd a0.Clusters x28))) (fun j v hv=>hs.keep (hE75 j v hv)) ha) fun a ha=>?_;refine qP 0 (.pointer (some ⟨g16,0+21,none⟩)) ha fun a ha=>?_;refine qV (v:=.slice ao6 a1.Clusters.length cap6) ha (fun w' hs=>ld_run ha rfl (by kernel_rfl) (hs.keep (hE18 21 (.slice ao6 a1.Clusters.length cap6) (by kernel_rfl)))) fun a ha=>?_;refine qP 0 (.int .i64 x28) ha fun a ha=>?_;obtain ⟨⟨hx77,hx77'⟩,H⟩:=ite_some H;obtain ⟨ge78,oe790,cs80,hx77eq,hn83,hR81,hE82⟩:=RSl.elem f6 (Int.toNat x28) (by omega);rw [rd_get] at hR81;obtain rfl:=rS_api_Addr.open hR81;refine qV ha (fun w' hs=>ix_run (r:=rS_api_Addr) (T:=30) ha (by kernel_rfl) (by kernel_rfl) (by rfl) (by rfl) hx77eq hx77 hx77') fun a ha=>?_;refine qV ha (fun w' hs=>ldR (cs:=(cS_api_Addr (rd a1.Clusters x28))) (fun j v hv=>hs.keep (hE82 j v hv)) ha) fun a ha=>?_;refine qV (v:=.bool (!((((rd a0.Clusters x28).Size)==((rd a1.Clusters x28).Size)) && ((eqA 16 ((rd a0.Clusters x28).B) ((rd a1.Clusters x28).B)) && true)))) ha (fun w' hs=>nes_run (r:=((((rd a0.Clusters x28).Size)==((rd a1.Clusters x28).Size)) && ((eqA 16 ((rd a0.Clusters x28).B) ((rd a1.Clusters x28).B)) && true))) (m:=9) ha rfl rfl (by kernel_rfl) rfl (by kernel_rfl) w') fun a ha=>?_;refine wpQuiet_nil ?_;intro w84 hc85;have o1:=oN M w27;have o2:=oR M w27;have f1:=f1.chg hc85 o1 o2;have f2:=f2.chg hc85 o1 o2;have f3:=f3.chg hc85 o1 o2;have f4:=f4.chg hc85 o1 o2;have f5:=f5.chg hc85 o1 o2;have f6:=f6.chg hc85 o1 o2;have f7:=f7.chg hc85 o1 o2;have f8:=f8.chg hc85 o1 o2;have q_hn14:=qn o2 hn14 (hE13 0 _ rfl);have hE13:=ck hc85 o1 hn14 hE13;have hn14:=q_hn14;have q_hn19:=qn o2 hn19 (hE18 0 _ rfl);have hE18:=ck hc85 o1 hn19 hE18;have hn19:=q_hn19;have hM:=hM.chg hc85;have hC:=hC.t0 hc85;refine wpl_end ?_;refine hK69 _ _ ?_;refine cnH H ha (fun hc86 H=>?_) (fun hc86 H=>?_)
     ·refine sq ha 1 [(4,.bool false)] fun a ha=>?_;refine wrt ?_;obtain rfl:=oj H;have H:=(show some _=some _ from Hc27)
      obtain rfl:=oj H;refine rt1 ha rfl rfl ?_;exact ⟨rfl,hC,hM⟩
     ·refine wp_skip ?_;refine hK68 _ _ ?_;refine wp_region_lit ?_;refine sd ha 3 [56] [(5,.int .i64 (IntKind.i64.wrap (x28+(1:Int))))] fun a ha=>?_;exact ⟨kk,Nat.lt_succ_self _,⟨IntKind.i64.wrap (x28+(1:Int)),H,(ha.sel (by kernel_rfl)),f1,f2,f3,f4,f5,f6,f7,f8,hE13,hn14,hE18,hn19,hC,hM⟩⟩
    ·refine wx ?_;obtain rfl:=oj H;exact J27 _ _ _ rfl (ha.sel (by kernel_rfl)) f1 f2 f3 f4 f5 f6 f7 f8 hE13 hn14 hE18 hn19 hC hM
 have H:=H22;refine sd ha 1 [] [(8,pt g11 0)] fun a ha=>?_;refine ld ha rfl (by kernel_rfl) rfl rfl rfl (hE13 0 (.int .i64 a0.Origin) (by kernel_rfl)) fun a ha=>?_;refine sd ha 1 [8] [(9,.int .i64 a0.Origin),(10,pt g16 0)] fun a ha=>?_;refine ld ha rfl (by kernel_rfl) rfl rfl rfl (hE18 0 (.int .i64 a1.Origin) (by kernel_rfl)) fun a ha=>?_;refine sd ha 2 [9,10] [(13,.bool (a0.Origin != a1.Origin))] fun a ha=>?_;rcases Bool.eq_false_or_eq_true (a0.Origin != a1.Origin) with hb88 | hb88
 ·have ha:=ha.lit hb88;have H:=ite_t hb88 H;refine sgd ha 38 [1,1,1,1,1,3,0,1,1,1,1,1,3,0,1,1,1,1,1,3,0,1,1,1,1,1,1,1,3,0,1,1,1,1,1,1,1,3] [13] [(51,.bool true)] fun a ha=>?_;obtain rfl:=oj H;exact J22 _ _ (ha.sel (by kernel_rfl)) f1 f2 f3 f4 f5 f6 f7 f8 hE13 hn14 hE18 hn19 hC hM
 ·have ha:=ha.lit hb88;have H:=ite_f hb88 H;refine sgd ha 1 [2] [] [(13,.bool false),(14,.pointer (some ⟨g11,0+2,none⟩))] fun a ha=>?_;refine ld ha rfl (by kernel_rfl) rfl rfl rfl (hE13 2 (.int .i64 a0.Med) (by kernel_rfl)) fun a ha=>?_;refine sgd ha 1 [2] [14] [(15,.int .i64 a0.Med),(16,.pointer (some ⟨g16,0+2,none⟩))] fun a ha=>?_;refine ld ha rfl (by kernel_rfl) rfl rfl rfl (hE18 2 (.int .i64 a1.Med) (by kernel_rfl)) fun a ha=>?_;refine sgd ha 3 [2,4,0] [13,15,16] [(20,.bool (a0.Med != a1.Med))] fun a ha=>?_;rcases Bool.eq_false_or_eq_true (a0.Med != a1.Med) with hb89 | hb89
  ·have ha:=ha.lit hb89;have H:=ite_t hb89 H;refine sgd ha 31 [1,1,1,1,1,3,0,1,1,1,1,1,3,0,1,1,1,1,1,1,1,3,0,1,1,1,1,1,1,1,3] [20] [(51,.bool true)] fun a ha=>?_;obtain rfl:=oj H;exact J22 _ _ (ha.sel (by kernel_rfl)) f1 f2 f3 f4 f5 f6 f7 f8 hE13 hn14 hE18 hn19 hC hM
  ·have ha:=ha.lit hb89;have H:=ite_f hb89 H;refine sgd ha 1 [2] [] [(20,.bool false),(21,.pointer (some ⟨g11,0+3,none⟩))] fun a ha=>?_;refine ld ha rfl (by kernel_rfl) rfl rfl rfl (hE13 3 (.int .i64 a0.Pref) (by kernel_rfl)) fun a ha=>?_;refine sgd ha 1 [2] [21] [(22,.int .i64 a0.Pref),(23,.pointer (some ⟨g16,0+3,none⟩))] fun a ha=>?_;refine ld ha rfl (by kernel_rfl) rfl rfl rfl (hE18 3 (.int .i64 a1.Pref) (by kernel_rfl)) fun a ha=>?_;refine sgd ha 3 [2,4,0] [20,22,23] [(27,.bool (a0.Pref != a1.Pref))] fun a ha=>?_;rcases Bool.eq_false_or_eq_true (a0.Pref != a1.Pref) with hb90 | hb90
   ·have ha:=ha.lit hb90;have H:=ite_t hb90 H;refine sgd ha 24 [1,1,1,1,1,3,0,1,1,1,1,1,1,1,3,0,1,1,1,1,1,1,1,3] [27] [(51,.bool true)] fun a ha=>?_;obtain rfl:=oj H;exact J22 _ _ (ha.sel (by kernel_rfl)) f1 f2 f3 f4 f5 f6 f7 f8 hE13 hn14 hE18 hn19 hC hM
   ·have ha:=ha.lit hb90;have H:=ite_f hb90 H;refine sgd ha 1 [2] [] [(27,.bool false),(28,.pointer (some ⟨g11,0+4,none⟩))] fun a ha=>?_;refine ldA (cs:=(cS_api_Addr a0.Originator)) ha rfl (by kernel_rfl) rfl rfl rfl (cells_sub hE13 (all:=(cS_api_Attrs a0 ao1 cap1 ao2 cap2 ao3 cap3 ao4 cap4)) [.int .i64 a0.Origin,.slice ao1 a0.Path.length cap1,.int .i64 a0.Med,.int .i64 a0.Pref] [.slice ao2 a0.Clusters.length cap2,.slice ao3 a0.Exts.length cap3,.slice ao4 a0.Tunnels.length cap4] (by kernel_rfl)) fun a ha=>?_;refine sgd ha 1 [2] [28] [(29,.agg (cS_api_Addr a0.Originator).toArray),(30,.pointer (some ⟨g16,0+4,none⟩))] fun a ha=>?_;refine ldA (cs:=(cS_api_Addr a1.Originator)) ha rfl (by kernel_rfl) rfl rfl rfl (cells_sub hE18 (all:=(cS_api_Attrs a1 ao5 cap5 ao6 cap6 ao7 cap7 ao8 cap8)) [.int .i64 a1.Origin,.slice ao5 a1.Path.length cap5,.int .i64 a1.Med,.int .i64 a1.Pref] [.slice ao6 a1.Clusters.length cap6,.slice ao7 a1.Exts.length cap7,.slice ao8 a1.Tunnels.length cap8] (by kernel_rfl)) fun a ha=>?_;refine hop (v:=.bool (!((a0.Originator.Size==a1.Originator.Size) && ((eqA 16 a0.Originator.B a1.Originator.B) && true)))) (w':=w15) ha rfl rfl rfl (nes_run (r:=((a0.Originator.Size==a1.Originator.Size) && ((eqA 16 a0.Originator.B a1.Originator.B) && true))) (m:=9) ha rfl rfl (by kernel_rfl) rfl (by kernel_rfl) _) fun a ha=>?_;refine sgd ha 2 [4,0] [27,29,30] [(34,.bool (!((a0.Originator.Size==a1.Originator.Size) && ((eqA 16 a0.Originator.B a1.Originator.B) && true))))] fun a ha=>?_;rcases Bool.eq_false_or_eq_true (!((a0.Originator.Size==a1.Originator.Size) && ((eqA 16 a0.Originator.B a1.Originator.B) && true))) with hb91 | hb91
    ·have ha:=ha.lit hb91;have H:=ite_t hb91 H;refine sgd ha 17 [1,1,1,1,1,1,1,3,0,1,1,1,1,1,1,1,3] [34] [(51,.bool true)] fun a ha=>?_;obtain rfl:=oj H;exact J22 _ _ (ha.sel (by kernel_rfl)) f1 f2 f3 f4 f5 f6 f7 f8 hE13 hn14 hE18 hn19 hC hM
    ·have ha:=ha.lit hb91;have H:=ite_f hb91 H;refine sgd ha 1 [2] [] [(34,.bool false),(35,.pointer (some ⟨g11,0+21,none⟩))] fun a ha=>?_;refine ld ha rfl (by kernel_rfl) rfl rfl rfl (hE13 21 (.slice ao2 a0.Clusters.length cap2) (by kernel_rfl)) fun a ha=>?_;refine sgd ha 2 [2,2] [35] [(37,.int .i64 (a0.Clusters.length:Int)),(38,.pointer (some ⟨g16,0+21,none⟩))] fun a ha=>?_;refine ld ha rfl (by kernel_rfl) rfl rfl rfl (hE18 21 (.slice ao6 a1.Clusters.length cap6) (by kernel_rfl)) fun a ha=>?_;refine sgd ha 4 [2,2,4,0] [34,37,38] [(43,.bool ((a0.Clusters.length:Int) != (a1.Clusters.length:Int)))] fun a ha=>?_;rcases Bool.eq_false_or_eq_true ((a0.Clusters.length:Int) != (a1.Clusters.length:Int)) with hb92 | hb92
     ·have ha:=ha.lit hb92;have H:=ite_t hb92 H;refine sgd ha 8 [1,1,1,1,1,1,1,3] [43] [(51,.bool true)] fun a ha=>?_;obtain rfl:=oj H;exact J22 _ _ (ha.sel (by kernel_rfl)) f1 f2 f3 f4 f5 f6 f7 f8 hE13 hn14 hE18 hn19 hC hM
     ·have ha:=ha.lit hb92;have H:=ite_f hb92 H;refine sgd ha 1 [2] [] [(43,.bool false),(44,.pointer (some ⟨g11,0+23,none⟩))] fun a ha=>?_;refine ld ha rfl (by kernel_rfl) rfl rfl rfl (hE13 23 (.slice ao4 a0.Tunnels.length cap4) (by kernel_rfl)) fun a ha=>?_;refine sgd ha 2 [2,2] [44] [(46,.int .i64 (a0.Tunnels.length:Int)),(47,.pointer (some ⟨g16,0+23,none⟩))] fun a ha=>?_;refine ld ha rfl (by kernel_rfl) rfl rfl rfl (hE18 23 (.slice ao8 a1.Tunnels.length cap8) (by kernel_rfl)) fun a ha=>?_;refine sgd ha 3 [2,2,4] [43,46,47] [(51,.bool ((a0.Tunnels.length:Int) != (a1.Tunnels.length:Int)))] fun a ha=>?_;obtain rfl:=oj H;exact J22 _ _ (ha.sel (by kernel_rfl)) f1 f2 f3 f4 f5 f6 f7 f8 hE13 hn14 hE18 hn19 hC hM
def vineryref15_SameRoute.f (k:Nat) (a0:S_api_Route) (a1:S_api_Route):Option (Bool):=((if (a0.Size==a1.Size)=true then (if (a0.Safi==a1.Safi)=true then (if ((a0.M.Kind==a1.M.Kind) && ((eqA 8 a0.M.RD a1.M.RD) && ((a0.M.AS==a1.M.AS) && (((a0.M.Source.Size==a1.M.Source.Size) && ((eqA 16 a0.M.Source.B a1.M.Source.B) && true)) && (((a0.M.Group.Size==a1.M.Group.Size) && ((eqA 16 a0.M.Group.B a1.M.Group.B) && true)) && (((a0.M.From.Size==a1.M.From.Size) && ((eqA 16 a0.M.From.B a1.M.From.B) && true)) && (((bstr a0.M.Key).toList==(bstr a1.M.Key).toList) && true)))))))=true then (if ((eqA 8 a0.U.RD a1.U.RD) && ((((a0.U.Prefix.Addr.Size==a1.U.Prefix.Addr.Size) && ((eqA 16 a0.U.Prefix.Addr.B a1.U.Prefix.Addr.B) && true)) && ((a0.U.Prefix.Bits==a1.U.Prefix.Bits) && true)) && ((a0.U.Label==a1.U.Label) && true)))=true then (if ((a0.Next.Size==a1.Next.Size) && ((eqA 16 a0.Next.B a1.Next.B) && true))=true then (vineryref09_Same.f k a0.Attrs a1.Attrs).bind fun t27=>some (t27:Bool) else some (false:Bool)) else some (false:Bool)) else some (false:Bool)) else some (false:Bool)) else some (false:Bool))).bind fun s21=>some ((s21:Bool))
set_option maxRecDepth 100000 in
theorem vineryref15_SameRoute.walk (w:World) (M:List Nat) (hM:MS M w) (a0:S_api_Route) (ao1:Option Addr) (cap1:Nat) (f1:RSl rS_api_Segment 56 w M ao1 cap1 a0.Attrs.Path) (ao2:Option Addr) (cap2:Nat) (f2:RSl rS_api_Addr 30 w M ao2 cap2 a0.Attrs.Clusters) (ao3:Option Addr) (cap3:Nat) (f3:RSl (rArr .u8 8) 79 w M ao3 cap3 a0.Attrs.Exts) (ao4:Option Addr) (cap4:Nat) (f4:RSl rS_api_Tunnel 68 w M ao4 cap4 a0.Attrs.Tunnels) (a1:S_api_Route) (ao5:Option Addr) (cap5:Nat) (f5:RSl rS_api_Segment 56 w M ao5 cap5 a1.Attrs.Path) (ao6:Option Addr) (cap6:Nat) (f6:RSl rS_api_Addr 30 w M ao6 cap6 a1.Attrs.Clusters) (ao7:Option Addr) (cap7:Nat) (f7:RSl (rArr .u8 8) 79 w M ao7 cap7 a1.Attrs.Exts) (ao8:Option Addr) (cap8:Nat) (f8:RSl rS_api_Tunnel 68 w M ao8 cap8 a1.Attrs.Tunnels) (k:Nat) (r:Bool) (H:vineryref15_SameRoute.f k a0 a1=some r) :
    To Try.prog 31 [.agg (cS_api_Route a0 ao1 cap1 ao2 cap2 ao3 cap3 ao4 cap4).toArray,.agg (cS_api_Route a1 ao5 cap5 ao6 cap6 ao7 cap7 ao8 cap8).toArray] w fun v w'=>v=.bool r∧Chg [] w w'∧MS (M) w':=by
 unfold vineryref15_SameRoute.f at H;refine ent Try.func31 rfl [(0,.agg (cS_api_Route a0 ao1 cap1 ao2 cap2 ao3 cap3 ao4 cap4).toArray),(1,.agg (cS_api_Route a1 ao5 cap5 ao6 cap6 ao7 cap7 ao8 cap8).toArray)] rfl (by rfl) fun a ha=>?_;have hC:Chg [] w w:=Chg.refl _ _;refine wsr fun K9 hK9=>?_;refine bx (cs:=(cS_api_Route a0 ao1 cap1 ao2 cap2 ao3 cap3 ao4 cap4)) ha rfl rfl rfl rfl rfl fun a w10 g11 hN12 ha=>?_;have hn14:=hN12.notin hM;have o1:=oN M w;have o2:=oR M w;have f1:=f1.chg hN12.chg o1 o2;have f2:=f2.chg hN12.chg o1 o2;have f3:=f3.chg hN12.chg o1 o2;have f4:=f4.chg hN12.chg o1 o2;have f5:=f5.chg hN12.chg o1 o2;have f6:=f6.chg hN12.chg o1 o2;have f7:=f7.chg hN12.chg o1 o2;have f8:=f8.chg hN12.chg o1 o2;have hM:=hM.chg hN12.chg;have hC:=hC.t0 hN12.chg;have hE13:Cs w10 g11 0 (cS_api_Route a0 ao1 cap1 ao2 cap2 ao3 cap3 ao4 cap4):=Box.cells (New.box hN12);refine bx (cs:=(cS_api_Route a1 ao5 cap5 ao6 cap6 ao7 cap7 ao8 cap8)) ha rfl rfl rfl rfl rfl fun a w15 g16 hN17 ha=>?_;have o1:=oN M w10;have o2:=oR M w10;have f5:=f5.chg hN17.chg o1 o2;have f6:=f6.chg hN17.chg o1 o2;have f7:=f7.chg hN17.chg o1 o2;have f8:=f8.chg hN17.chg o1 o2;have f1:=f1.chg hN17.chg o1 o2;have f2:=f2.chg hN17.chg o1 o2;have f3:=f3.chg hN17.chg o1 o2;have f4:=f4.chg hN17.chg o1 o2;have hE13:=ck hN17.chg o1 hn14 hE13;have hM:=hM.chg hN17.chg;have hC:=hC.t0 hN17.chg;have hE18:Cs w15 g16 0 (cS_api_Route a1 ao5 cap5 ao6 cap6 ao7 cap7 ao8 cap8):=Box.cells (New.box hN17);refine sf ha 1 [(2,pt g11 0),(3,pt g16 0)] fun a ha=>?_;refine hK9 _ _ ?_;refine wsr fun K20 hK20=>?_;obtain ⟨s21,H21,H⟩:=bind_some H;have J21:∀ (a:Act) (w21:World),Has a Try.f31.ntmps [(4,.bool s21)]→(Chg [] w w21)→(MS (M) w21)→K20 a w21:=by
  intro a w21 ha hC hM;refine hK20 _ _ ?_;refine wrt ?_;obtain rfl:=oj H;refine rt1 ha rfl rfl ?_;exact ⟨rfl,hC,hM⟩
 have H:=H21;refine sd ha 1 [] [(5,pt g11 0)] fun a ha=>?_;refine ld ha rfl (by kernel_rfl) rfl rfl rfl (hE13 0 (.int .i64 a0.Size) (by kernel_rfl)) fun a ha=>?_;refine sd ha 1 [5] [(6,.int .i64 a0.Size),(7,pt g16 0)] fun a ha=>?_;refine ld ha rfl (by kernel_rfl) rfl rfl rfl (hE18 0 (.int .i64 a1.Size) (by kernel_rfl)) fun a ha=>?_;refine sd ha 2 [6,7] [(10,.bool (a0.Size==a1.Size))] fun a ha=>?_;rcases Bool.eq_false_or_eq_true (a0.Size==a1.Size) with hb22 | hb22
 ·have ha:=ha.lit hb22;have H:=ite_t hb22 H;refine sgd ha 1 [2] [] [(10,.bool true),(11,.pointer (some ⟨g11,0+1,none⟩))] fun a ha=>?_;refine ld ha rfl (by kernel_rfl) rfl rfl rfl (hE13 1 (.int .i64 a0.Safi) (by kernel_rfl)) fun a ha=>?_;refine sgd ha 1 [2] [11] [(12,.int .i64 a0.Safi),(13,.pointer (some ⟨g16,0+1,none⟩))] fun a ha=>?_;refine ld ha rfl (by kernel_rfl) rfl rfl rfl (hE18 1 (.int .i64 a1.Safi) (by kernel_rfl)) fun a ha=>?_;refine sgd ha 3 [2,3,0] [10,12,13] [(17,.bool (a0.Safi==a1.Safi))] fun a ha=>?_;rcases Bool.eq_false_or_eq_true (a0.Safi==a1.Safi) with hb23 | hb23
  ·have ha:=ha.lit hb23;have H:=ite_t hb23 H;refine sgd ha 1 [2] [] [(17,.bool true),(18,.pointer (some ⟨g11,0+2,none⟩))] fun a ha=>?_;refine ldA (cs:=(cS_api_Mroute a0.M)) ha rfl (by kernel_rfl) rfl rfl rfl (cells_sub hE13 (all:=(cS_api_Route a0 ao1 cap1 ao2 cap2 ao3 cap3 ao4 cap4)) [.int .i64 a0.Size,.int .i64 a0.Safi] [.int .u8 (ar a0.U.RD 0),.int .u8 (ar a0.U.RD 1),.int .u8 (ar a0.U.RD 2),.int .u8 (ar a0.U.RD 3),.int .u8 (ar a0.U.RD 4),.int .u8 (ar a0.U.RD 5),.int .u8 (ar a0.U.RD 6),.int .u8 (ar a0.U.RD 7),.int .i64 a0.U.Prefix.Addr.Size,.int .u8 (ar a0.U.Prefix.Addr.B 0),.int .u8 (ar a0.U.Prefix.Addr.B 1),.int .u8 (ar a0.U.Prefix.Addr.B 2),.int .u8 (ar a0.U.Prefix.Addr.B 3),.int .u8 (ar a0.U.Prefix.Addr.B 4),.int .u8 (ar a0.U.Prefix.Addr.B 5),.int .u8 (ar a0.U.Prefix.Addr.B 6),.int .u8 (ar a0.U.Prefix.Addr.B 7),.int .u8 (ar a0.U.Prefix.Addr.B 8),.int .u8 (ar a0.U.Prefix.Addr.B 9),.int .u8 (ar a0.U.Prefix.Addr.B 10),.int .u8 (ar a0.U.Prefix.Addr.B 11),.int .u8 (ar a0.U.Prefix.Addr.B 12),.int .u8 (ar a0.U.Prefix.Addr.B 13),.int .u8 (ar a0.U.Prefix.Addr.B 14),.int .u8 (ar a0.U.Prefix.Addr.B 15),.int .i64 a0.U.Prefix.Bits,.int .i64 a0.U.Label,.int .i64 a0.Next.Size,.int .u8 (ar a0.Next.B 0),.int .u8 (ar a0.Next.B 1),.int .u8 (ar a0.Next.B 2),.int .u8 (ar a0.Next.B 3),.int .u8 (ar a0.Next.B 4),.int .u8 (ar a0.Next.B 5),.int .u8 (ar a0.Next.B 6),.int .u8 (ar a0.Next.B 7),.int .u8 (ar a0.Next.B 8),.int .u8 (ar a0.Next.B 9),.int .u8 (ar a0.Next.B 10),.int .u8 (ar a0.Next.B 11),.int .u8 (ar a0.Next.B 12),.int .u8 (ar a0.Next.B 13),.int .u8 (ar a0.Next.B 14),.int .u8 (ar a0.Next.B 15),.int .i64 a0.Attrs.Origin,.slice ao1 a0.Attrs.Path.length cap1,.int .i64 a0.Attrs.Med,.int .i64 a0.Attrs.Pref,.int .i64 a0.Attrs.Originator.Size,.int .u8 (ar a0.Attrs.Originator.B 0),.int .u8 (ar a0.Attrs.Originator.B 1),.int .u8 (ar a0.Attrs.Originator.B 2),.int .u8 (ar a0.Attrs.Originator.B 3),.int .u8 (ar a0.Attrs.Originator.B 4),.int .u8 (ar a0.Attrs.Originator.B 5),.int .u8 (ar a0.Attrs.Originator.B 6),.int .u8 (ar a0.Attrs.Originator.B 7),.int .u8 (ar a0.Attrs.Originator.B 8),.int .u8 (ar a0.Attrs.Originator.B 9),.int .u8 (ar a0.Attrs.Originator.B 10),.int .u8 (ar a0.Attrs.Originator.B 11),.int .u8 (ar a0.Attrs.Originator.B 12),.int .u8 (ar a0.Attrs.Originator.B 13),.int .u8 (ar a0.Attrs.Originator.B 14),.int .u8 (ar a0.Attrs.Originator.B 15),.slice ao2 a0.Attrs.Clusters.length cap2,.slice ao3 a0.Attrs.Exts.length cap3,.slice ao4 a0.Attrs.Tunnels.length cap4] (by kernel_rfl)) fun a ha=>?_;refine sgd ha 1 [2] [18] [(19,.agg (cS_api_Mroute a0.M).toArray),(20,.pointer (some ⟨g16,0+2,none⟩))] fun a ha=>?_;refine ldA (cs:=(cS_api_Mroute a1.M)) ha rfl (by kernel_rfl) rfl rfl rfl (cells_sub hE18 (all:=(cS_api_Route a1 ao5 cap5 ao6 cap6 ao7 cap7 ao8 cap8)) [.int .i64 a1.Size,.int .i64 a1.Safi] [.int .u8 (ar a1.U.RD 0),.int .u8 (ar a1.U.RD 1),.int .u8 (ar a1.U.RD 2),.int .u8 (ar a1.U.RD 3),.int .u8 (ar a1.U.RD 4),.int .u8 (ar a1.U.RD 5),.int .u8 (ar a1.U.RD 6),.int .u8 (ar a1.U.RD 7),.int .i64 a1.U.Prefix.Addr.Size,.int .u8 (ar a1.U.Prefix.Addr.B 0),.int .u8 (ar a1.U.Prefix.Addr.B 1),.int .u8 (ar a1.U.Prefix.Addr.B 2),.int .u8 (ar a1.U.Prefix.Addr.B 3),.int .u8 (ar a1.U.Prefix.Addr.B 4),.int .u8 (ar a1.U.Prefix.Addr.B 5),.int .u8 (ar a1.U.Prefix.Addr.B 6),.int .u8 (ar a1.U.Prefix.Addr.B 7),.int .u8 (ar a1.U.Prefix.Addr.B 8),.int .u8 (ar a1.U.Prefix.Addr.B 9),.int .u8 (ar a1.U.Prefix.Addr.B 10),.int .u8 (ar a1.U.Prefix.Addr.B 11),.int .u8 (ar a1.U.Prefix.Addr.B 12),.int .u8 (ar a1.U.Prefix.Addr.B 13),.int .u8 (ar a1.U.Prefix.Addr.B 14),.int .u8 (ar a1.U.Prefix.Addr.B 15),.int .i64 a1.U.Prefix.Bits,.int .i64 a1.U.Label,.int .i64 a1.Next.Size,.int .u8 (ar a1.Next.B 0),.int .u8 (ar a1.Next.B 1),.int .u8 (ar a1.Next.B 2),.int .u8 (ar a1.Next.B 3),.int .u8 (ar a1.Next.B 4),.int .u8 (ar a1.Next.B 5),.int .u8 (ar a1.Next.B 6),.int .u8 (ar a1.Next.B 7),.int .u8 (ar a1.Next.B 8),.int .u8 (ar a1.Next.B 9),.int .u8 (ar a1.Next.B 10),.int .u8 (ar a1.Next.B 11),.int .u8 (ar a1.Next.B 12),.int .u8 (ar a1.Next.B 13),.int .u8 (ar a1.Next.B 14),.int .u8 (ar a1.Next.B 15),.int .i64 a1.Attrs.Origin,.slice ao5 a1.Attrs.Path.length cap5,.int .i64 a1.Attrs.Med,.int .i64 a1.Attrs.Pref,.int .i64 a1.Attrs.Originator.Size,.int .u8 (ar a1.Attrs.Originator.B 0),.int .u8 (ar a1.Attrs.Originator.B 1),.int .u8 (ar a1.Attrs.Originator.B 2),.int .u8 (ar a1.Attrs.Originator.B 3),.int .u8 (ar a1.Attrs.Originator.B 4),.int .u8 (ar a1.Attrs.Originator.B 5),.int .u8 (ar a1.Attrs.Originator.B 6),.int .u8 (ar a1.Attrs.Originator.B 7),.int .u8 (ar a1.Attrs.Originator.B 8),.int .u8 (ar a1.Attrs.Originator.B 9),.int .u8 (ar a1.Attrs.Originator.B 10),.int .u8 (ar a1.Attrs.Originator.B 11),.int .u8 (ar a1.Attrs.Originator.B 12),.int .u8 (ar a1.Attrs.Originator.B 13),.int .u8 (ar a1.Attrs.Originator.B 14),.int .u8 (ar a1.Attrs.Originator.B 15),.slice ao6 a1.Attrs.Clusters.length cap6,.slice ao7 a1.Attrs.Exts.length cap7,.slice ao8 a1.Attrs.Tunnels.length cap8] (by kernel_rfl)) fun a ha=>?_;refine hop (v:=.bool ((a0.M.Kind==a1.M.Kind) && ((eqA 8 a0.M.RD a1.M.RD) && ((a0.M.AS==a1.M.AS) && (((a0.M.Source.Size==a1.M.Source.Size) && ((eqA 16 a0.M.Source.B a1.M.Source.B) && true)) && (((a0.M.Group.Size==a1.M.Group.Size) && ((eqA 16 a0.M.Group.B a1.M.Group.B) && true)) && (((a0.M.From.Size==a1.M.From.Size) && ((eqA 16 a0.M.From.B a1.M.From.B) && true)) && (((bstr a0.M.Key).toList==(bstr a1.M.Key).toList) && true)))))))) (w':=w15) ha rfl rfl rfl (eqs_run (r:=((a0.M.Kind==a1.M.Kind) && ((eqA 8 a0.M.RD a1.M.RD) && ((a0.M.AS==a1.M.AS) && (((a0.M.Source.Size==a1.M.Source.Size) && ((eqA 16 a0.M.Source.B a1.M.Source.B) && true)) && (((a0.M.Group.Size==a1.M.Group.Size) && ((eqA 16 a0.M.Group.B a1.M.Group.B) && true)) && (((a0.M.From.Size==a1.M.From.Size) && ((eqA 16 a0.M.From.B a1.M.From.B) && true)) && (((bstr a0.M.Key).toList==(bstr a1.M.Key).toList) && true)))))))) (m:=9) ha rfl rfl (by kernel_rfl) rfl (by kernel_rfl) _) fun a ha=>?_;refine sgd ha 2 [3,0] [17,19,20] [(24,.bool ((a0.M.Kind==a1.M.Kind) && ((eqA 8 a0.M.RD a1.M.RD) && ((a0.M.AS==a1.M.AS) && (((a0.M.Source.Size==a1.M.Source.Size) && ((eqA 16 a0.M.Source.B a1.M.Source.B) && true)) && (((a0.M.Group.Size==a1.M.Group.Size) && ((eqA 16 a0.M.Group.B a1.M.Group.B) && true)) && (((a0.M.From.Size==a1.M.From.Size) && ((eqA 16 a0.M.From.B a1.M.From.B) && true)) && (((bstr a0.M.Key).toList==(bstr a1.M.Key).toList) && true))))))))] fun a ha=>?_;rcases Bool.eq_false_or_eq_true (((a0.M.Kind==a1.M.Kind) && ((eqA 8 a0.M.RD a1.M.RD) && ((a0.M.AS==a1.M.AS) && (((a0.M.Source.Size==a1.M.Source.Size) && ((eqA 16 a0.M.Source.B a1.M.Source.B) && true)) && (((a0.M.Group.Size==a1.M.Group.Size) && ((eqA 16 a0.M.Group.B a1.M.Group.B) && true)) && (((a0.M.From.Size==a1.M.From.Size) && ((eqA 16 a0.M.From.B a1.M.From.B) && true)) && (((bstr a0.M.Key).toList==(bstr a1.M.Key).toList) && true)))))))) with hb24 | hb24
   ·have ha:=ha.lit hb24;have H:=ite_t hb24 H;refine sgd ha 1 [2] [] [(24,.bool true),(25,.pointer (some ⟨g11,0+64,none⟩))] fun a ha=>?_;refine ldA (cs:=(cS_api_Uroute a0.U)) ha rfl (by kernel_rfl) rfl rfl rfl (cells_sub hE13 (all:=(cS_api_Route a0 ao1 cap1 ao2 cap2 ao3 cap3 ao4 cap4)) [.int .i64 a0.Size,.int .i64 a0.Safi,.int .i64 a0.M.Kind,.int .u8 (ar a0.M.RD 0),.int .u8 (ar a0.M.RD 1),.int .u8 (ar a0.M.RD 2),.int .u8 (ar a0.M.RD 3),.int .u8 (ar a0.M.RD 4),.int .u8 (ar a0.M.RD 5),.int .u8 (ar a0.M.RD 6),.int .u8 (ar a0.M.RD 7),.int .i64 a0.M.AS,.int .i64 a0.M.Source.Size,.int .u8 (ar a0.M.Source.B 0),.int .u8 (ar a0.M.Source.B 1),.int .u8 (ar a0.M.Source.B 2),.int .u8 (ar a0.M.Source.B 3),.int .u8 (ar a0.M.Source.B 4),.int .u8 (ar a0.M.Source.B 5),.int .u8 (ar a0.M.Source.B 6),.int .u8 (ar a0.M.Source.B 7),.int .u8 (ar a0.M.Source.B 8),.int .u8 (ar a0.M.Source.B 9),.int .u8 (ar a0.M.Source.B 10),.int .u8 (ar a0.M.Source.B 11),.int .u8 (ar a0.M.Source.B 12),.int .u8 (ar a0.M.Source.B 13),.int .u8 (ar a0.M.Source.B 14),.int .u8 (ar a0.M.Source.B 15),.int .i64 a0.M.Group.Size,.int .u8 (ar a0.M.Group.B 0),.int .u8 (ar a0.M.Group.B 1),.int .u8 (ar a0.M.Group.B 2),.int .u8 (ar a0.M.Group.B 3),.int .u8 (ar a0.M.Group.B 4),.int .u8 (ar a0.M.Group.B 5),.int .u8 (ar a0.M.Group.B 6),.int .u8 (ar a0.M.Group.B 7),.int .u8 (ar a0.M.Group.B 8),.int .u8 (ar a0.M.Group.B 9),.int .u8 (ar a0.M.Group.B 10),.int .u8 (ar a0.M.Group.B 11),.int .u8 (ar a0.M.Group.B 12),.int .u8 (ar a0.M.Group.B 13),.int .u8 (ar a0.M.Group.B 14),.int .u8 (ar a0.M.Group.B 15),.int .i64 a0.M.From.Size,.int .u8 (ar a0.M.From.B 0),.int .u8 (ar a0.M.From.B 1),.int .u8 (ar a0.M.From.B 2),.int .u8 (ar a0.M.From.B 3),.int .u8 (ar a0.M.From.B 4),.int .u8 (ar a0.M.From.B 5),.int .u8 (ar a0.M.From.B 6),.int .u8 (ar a0.M.From.B 7),.int .u8 (ar a0.M.From.B 8),.int .u8 (ar a0.M.From.B 9),.int .u8 (ar a0.M.From.B 10),.int .u8 (ar a0.M.From.B 11),.int .u8 (ar a0.M.From.B 12),.int .u8 (ar a0.M.From.B 13),.int .u8 (ar a0.M.From.B 14),.int .u8 (ar a0.M.From.B 15),.string (bstr a0.M.Key)] [.int .i64 a0.Next.Size,.int .u8 (ar a0.Next.B 0),.int .u8 (ar a0.Next.B 1),.int .u8 (ar a0.Next.B 2),.int .u8 (ar a0.Next.B 3),.int .u8 (ar a0.Next.B 4),.int .u8 (ar a0.Next.B 5),.int .u8 (ar a0.Next.B 6),.int .u8 (ar a0.Next.B 7),.int .u8 (ar a0.Next.B 8),.int .u8 (ar a0.Next.B 9),.int .u8 (ar a0.Next.B 10),.int .u8 (ar a0.Next.B 11),.int .u8 (ar a0.Next.B 12),.int .u8 (ar a0.Next.B 13),.int .u8 (ar a0.Next.B 14),.int .u8 (ar a0.Next.B 15),.int .i64 a0.Attrs.Origin,.slice ao1 a0.Attrs.Path.length cap1,.int .i64 a0.Attrs.Med,.int .i64 a0.Attrs.Pref,.int .i64 a0.Attrs.Originator.Size,.int .u8 (ar a0.Attrs.Originator.B 0),.int .u8 (ar a0.Attrs.Originator.B 1),.int .u8 (ar a0.Attrs.Originator.B 2),.int .u8 (ar a0.Attrs.Originator.B 3),.int .u8 (ar a0.Attrs.Originator.B 4),.int .u8 (ar a0.Attrs.Originator.B 5),.int .u8 (ar a0.Attrs.Originator.B 6),.int .u8 (ar a0.Attrs.Originator.B 7),.int .u8 (ar a0.Attrs.Originator.B 8),.int .u8 (ar a0.Attrs.Originator.B 9),.int .u8 (ar a0.Attrs.Originator.B 10),.int .u8 (ar a0.Attrs.Originator.B 11),.int .u8 (ar a0.Attrs.Originator.B 12),.int .u8 (ar a0.Attrs.Originator.B 13),.int .u8 (ar a0.Attrs.Originator.B 14),.int .u8 (ar a0.Attrs.Originator.B 15),.slice ao2 a0.Attrs.Clusters.length cap2,.slice ao3 a0.Attrs.Exts.length cap3,.slice ao4 a0.Attrs.Tunnels.length cap4] (by kernel_rfl)) fun a ha=>?_;refine sgd ha 1 [2] [25] [(26,.agg (cS_api_Uroute a0.U).toArray),(27,.pointer (some ⟨g16,0+64,none⟩))] fun a ha=>?_;refine ldA (cs:=(cS_api_Uroute a1.U)) ha rfl (by kernel_rfl) rfl rfl rfl (cells_sub hE18 (all:=(cS_api_Route a1 ao5 cap5 ao6 cap6 ao7 cap7 ao8 cap8)) [.int .i64 a1.Size,.int .i64 a1.Safi,.int .i64 a1.M.Kind,.int .u8 (ar a1.M.RD 0),.int .u8 (ar a1.M.RD 1),.int .u8 (ar a1.M.RD 2),.int .u8 (ar a1.M.RD 3),.int .u8 (ar a1.M.RD 4),.int .u8 (ar a1.M.RD 5),.int .u8 (ar a1.M.RD 6),.int .u8 (ar a1.M.RD 7),.int .i64 a1.M.AS,.int .i64 a1.M.Source.Size,.int .u8 (ar a1.M.Source.B 0),.int .u8 (ar a1.M.Source.B 1),.int .u8 (ar a1.M.Source.B 2),.int .u8 (ar a1.M.Source.B 3),.int .u8 (ar a1.M.Source.B 4),.int .u8 (ar a1.M.Source.B 5),.int .u8 (ar a1.M.Source.B 6),.int .u8 (ar a1.M.Source.B 7),.int .u8 (ar a1.M.Source.B 8),.int .u8 (ar a1.M.Source.B 9),.int .u8 (ar a1.M.Source.B 10),.int .u8 (ar a1.M.Source.B 11),.int .u8 (ar a1.M.Source.B 12),.int .u8 (ar a1.M.Source.B 13),.int .u8 (ar a1.M.Source.B 14),.int .u8 (ar a1.M.Source.B 15),.int .i64 a1.M.Group.Size,.int .u8 (ar a1.M.Group.B 0),.int .u8 (ar a1.M.Group.B 1),.int .u8 (ar a1.M.Group.B 2),.int .u8 (ar a1.M.Group.B 3),.int .u8 (ar a1.M.Group.B 4),.int .u8 (ar a1.M.Group.B 5),.int .u8 (ar a1.M.Group.B 6),.int .u8 (ar a1.M.Group.B 7),.int .u8 (ar a1.M.Group.B 8),.int .u8 (ar a1.M.Group.B 9),.int .u8 (ar a1.M.Group.B 10),.int .u8 (ar a1.M.Group.B 11),.int .u8 (ar a1.M.Group.B 12),.int .u8 (ar a1.M.Group.B 13),.int .u8 (ar a1.M.Group.B 14),.int .u8 (ar a1.M.Group.B 15),.int .i64 a1.M.From.Size,.int .u8 (ar a1.M.From.B 0),.int .u8 (ar a1.M.From.B 1),.int .u8 (ar a1.M.From.B 2),.int .u8 (ar a1.M.From.B 3),.int .u8 (ar a1.M.From.B 4),.int .u8 (ar a1.M.From.B 5),.int .u8 (ar a1.M.From.B 6),.int .u8 (ar a1.M.From.B 7),.int .u8 (ar a1.M.From.B 8),.int .u8 (ar a1.M.From.B 9),.int .u8 (ar a1.M.From.B 10),.int .u8 (ar a1.M.From.B 11),.int .u8 (ar a1.M.From.B 12),.int .u8 (ar a1.M.From.B 13),.int .u8 (ar a1.M.From.B 14),.int .u8 (ar a1.M.From.B 15),.string (bstr a1.M.Key)] [.int .i64 a1.Next.Size,.int .u8 (ar a1.Next.B 0),.int .u8 (ar a1.Next.B 1),.int .u8 (ar a1.Next.B 2),.int .u8 (ar a1.Next.B 3),.int .u8 (ar a1.Next.B 4),.int .u8 (ar a1.Next.B 5),.int .u8 (ar a1.Next.B 6),.int .u8 (ar a1.Next.B 7),.int .u8 (ar a1.Next.B 8),.int .u8 (ar a1.Next.B 9),.int .u8 (ar a1.Next.B 10),.int .u8 (ar a1.Next.B 11),.int .u8 (ar a1.Next.B 12),.int .u8 (ar a1.Next.B 13),.int .u8 (ar a1.Next.B 14),.int .u8 (ar a1.Next.B 15),.int .i64 a1.Attrs.Origin,.slice ao5 a1.Attrs.Path.length cap5,.int .i64 a1.Attrs.Med,.int .i64 a1.Attrs.Pref,.int .i64 a1.Attrs.Originator.Size,.int .u8 (ar a1.Attrs.Originator.B 0),.int .u8 (ar a1.Attrs.Originator.B 1),.int .u8 (ar a1.Attrs.Originator.B 2),.int .u8 (ar a1.Attrs.Originator.B 3),.int .u8 (ar a1.Attrs.Originator.B 4),.int .u8 (ar a1.Attrs.Originator.B 5),.int .u8 (ar a1.Attrs.Originator.B 6),.int .u8 (ar a1.Attrs.Originator.B 7),.int .u8 (ar a1.Attrs.Originator.B 8),.int .u8 (ar a1.Attrs.Originator.B 9),.int .u8 (ar a1.Attrs.Originator.B 10),.int .u8 (ar a1.Attrs.Originator.B 11),.int .u8 (ar a1.Attrs.Originator.B 12),.int .u8 (ar a1.Attrs.Originator.B 13),.int .u8 (ar a1.Attrs.Originator.B 14),.int .u8 (ar a1.Attrs.Originator.B 15),.slice ao6 a1.Attrs.Clusters.length cap6,.slice ao7 a1.Attrs.Exts.length cap7,.slice ao8 a1.Attrs.Tunnels.length cap8] (by kernel_rfl)) fun a ha=>?_;refine hop (v:=.bool ((eqA 8 a0.U.RD a1.U.RD) && ((((a0.U.Prefix.Addr.Size==a1.U.Prefix.Addr.Size) && ((eqA 16 a0.U.Prefix.Addr.B a1.U.Prefix.Addr.B) && true)) && ((a0.U.Prefix.Bits==a1.U.Prefix.Bits) && true)) && ((a0.U.Label==a1.U.Label) && true)))) (w':=w15) ha rfl rfl rfl (eqs_run (r:=((eqA 8 a0.U.RD a1.U.RD) && ((((a0.U.Prefix.Addr.Size==a1.U.Prefix.Addr.Size) && ((eqA 16 a0.U.Prefix.Addr.B a1.U.Prefix.Addr.B) && true)) && ((a0.U.Prefix.Bits==a1.U.Prefix.Bits) && true)) && ((a0.U.Label==a1.U.Label) && true)))) (m:=9) ha rfl rfl (by kernel_rfl) rfl (by kernel_rfl) _) fun a ha=>?_;refine sgd ha 2 [3,0] [24,26,27] [(31,.bool ((eqA 8 a0.U.RD a1.U.RD) && ((((a0.U.Prefix.Addr.Size==a1.U.Prefix.Addr.Size) && ((eqA 16 a0.U.Prefix.Addr.B a1.U.Prefix.Addr.B) && true)) && ((a0.U.Prefix.Bits==a1.U.Prefix.Bits) && true)) && ((a0.U.Label==a1.U.Label) && true))))] fun a ha=>?_;rcases Bool.eq_false_or_eq_true (((eqA 8 a0.U.RD a1.U.RD) && ((((a0.U.Prefix.Addr.Size==a1.U.Prefix.Addr.Size) && ((eqA 16 a0.U.Prefix.Addr.B a1.U.Prefix.Addr.B) && true)) && ((a0.U.Prefix.Bits==a1.U.Prefix.Bits) && true)) && ((a0.U.Label==a1.U.Label) && true)))) with hb25 | hb25
    ·have ha:=ha.lit hb25;have H:=ite_t hb25 H;refine sgd ha 1 [2] [] [(31,.bool true),(32,.pointer (some ⟨g11,0+91,none⟩))] fun a ha=>?_;refine ldA (cs:=(cS_api_Addr a0.Next)) ha rfl (by kernel_rfl) rfl rfl rfl (cells_sub hE13 (all:=(cS_api_Route a0 ao1 cap1 ao2 cap2 ao3 cap3 ao4 cap4)) [.int .i64 a0.Size,.int .i64 a0.Safi,.int .i64 a0.M.Kind,.int .u8 (ar a0.M.RD 0),.int .u8 (ar a0.M.RD 1),.int .u8 (ar a0.M.RD 2),.int .u8 (ar a0.M.RD 3),.int .u8 (ar a0.M.RD 4),.int .u8 (ar a0.M.RD 5),.int .u8 (ar a0.M.RD 6),.int .u8 (ar a0.M.RD 7),.int .i64 a0.M.AS,.int .i64 a0.M.Source.Size,.int .u8 (ar a0.M.Source.B 0),.int .u8 (ar a0.M.Source.B 1),.int .u8 (ar a0.M.Source.B 2),.int .u8 (ar a0.M.Source.B 3),.int .u8 (ar a0.M.Source.B 4),.int .u8 (ar a0.M.Source.B 5),.int .u8 (ar a0.M.Source.B 6),.int .u8 (ar a0.M.Source.B 7),.int .u8 (ar a0.M.Source.B 8),.int .u8 (ar a0.M.Source.B 9),.int .u8 (ar a0.M.Source.B 10),.int .u8 (ar a0.M.Source.B 11),.int .u8 (ar a0.M.Source.B 12),.int .u8 (ar a0.M.Source.B 13),.int .u8 (ar a0.M.Source.B 14),.int .u8 (ar a0.M.Source.B 15),.int .i64 a0.M.Group.Size,.int .u8 (ar a0.M.Group.B 0),.int .u8 (ar a0.M.Group.B 1),.int .u8 (ar a0.M.Group.B 2),.int .u8 (ar a0.M.Group.B 3),.int .u8 (ar a0.M.Group.B 4),.int .u8 (ar a0.M.Group.B 5),.int .u8 (ar a0.M.Group.B 6),.int .u8 (ar a0.M.Group.B 7),.int .u8 (ar a0.M.Group.B 8),.int .u8 (ar a0.M.Group.B 9),.int .u8 (ar a0.M.Group.B 10),.int .u8 (ar a0.M.Group.B 11),.int .u8 (ar a0.M.Group.B 12),.int .u8 (ar a0.M.Group.B 13),.int .u8 (ar a0.M.Group.B 14),.int .u8 (ar a0.M.Group.B 15),.int .i64 a0.M.From.Size,.int .u8 (ar a0.M.From.B 0),.int .u8 (ar a0.M.From.B 1),.int .u8 (ar a0.M.From.B 2),.int .u8 (ar a0.M.From.B 3),.int .u8 (ar a0.M.From.B 4),.int .u8 (ar a0.M.From.B 5),.int .u8 (ar a0.M.From.B 6),.int .u8 (ar a0.M.From.B 7),.int .u8 (ar a0.M.From.B 8),.int .u8 (ar a0.M.From.B 9),.int .u8 (ar a0.M.From.B 10),.int .u8 (ar a0.M.From.B 11),.int .u8 (ar a0.M.From.B 12),.int .u8 (ar a0.M.From.B 13),.int .u8 (ar a0.M.From.B 14),.int .u8 (ar a0.M.From.B 15),.string (bstr a0.M.Key),.int .u8 (ar a0.U.RD 0),.int .u8 (ar a0.U.RD 1),.int .u8 (ar a0.U.RD 2),.int .u8 (ar a0.U.RD 3),.int .u8 (ar a0.U.RD 4),.int .u8 (ar a0.U.RD 5),.int .u8 (ar a0.U.RD 6),.int .u8 (ar a0.U.RD 7),.int .i64 a0.U.Prefix.Addr.Size,.int .u8 (ar a0.U.Prefix.Addr.B 0),.int .u8 (ar a0.U.Prefix.Addr.B 1),.int .u8 (ar a0.U.Prefix.Addr.B 2),.int .u8 (ar a0.U.Prefix.Addr.B 3),.int .u8 (ar a0.U.Prefix.Addr.B 4),.int .u8 (ar a0.U.Prefix.Addr.B 5),.int .u8 (ar a0.U.Prefix.Addr.B 6),.int .u8 (ar a0.U.Prefix.Addr.B 7),.int .u8 (ar a0.U.Prefix.Addr.B 8),.int .u8 (ar a0.U.Prefix.Addr.B 9),.int .u8 (ar a0.U.Prefix.Addr.B 10),.int .u8 (ar a0.U.Prefix.Addr.B 11),.int .u8 (ar a0.U.Prefix.Addr.B 12),.int .u8 (ar a0.U.Prefix.Addr.B 13),.int .u8 (ar a0.U.Prefix.Addr.B 14),.int .u8 (ar a0.U.Prefix.Addr.B 15),.int .i64 a0.U.Prefix.Bits,.int .i64 a0.U.Label] [.int .i64 a0.Attrs.Origin,.slice ao1 a0.Attrs.Path.length cap1,.int .i64 a0.Attrs.Med,.int .i64 a0.Attrs.Pref,.int .i64 a0.Attrs.Originator.Size,.int .u8 (ar a0.Attrs.Originator.B 0),.int .u8 (ar a0.Attrs.Originator.B 1),.int .u8 (ar a0.Attrs.Originator.B 2),.int .u8 (ar a0.Attrs.Originator.B 3),.int .u8 (ar a0.Attrs.Originator.B 4),.int .u8 (ar a0.Attrs.Originator.B 5),.int .u8 (ar a0.Attrs.Originator.B 6),.int .u8 (ar a0.Attrs.Originator.B 7),.int .u8 (ar a0.Attrs.Originator.B 8),.int .u8 (ar a0.Attrs.Originator.B 9),.int .u8 (ar a0.Attrs.Originator.B 10),.int .u8 (ar a0.Attrs.Originator.B 11),.int .u8 (ar a0.Attrs.Originator.B 12),.int .u8 (ar a0.Attrs.Originator.B 13),.int .u8 (ar a0.Attrs.Originator.B 14),.int .u8 (ar a0.Attrs.Originator.B 15),.slice ao2 a0.Attrs.Clusters.length cap2,.slice ao3 a0.Attrs.Exts.length cap3,.slice ao4 a0.Attrs.Tunnels.length cap4] (by kernel_rfl)) fun a ha=>?_;refine sgd ha 1 [2] [32] [(33,.agg (cS_api_Addr a0.Next).toArray),(34,.pointer (some ⟨g16,0+91,none⟩))] fun a ha=>?_;refine ldA (cs:=(cS_api_Addr a1.Next)) ha rfl (by kernel_rfl) rfl rfl rfl (cells_sub hE18 (all:=(cS_api_Route a1 ao5 cap5 ao6 cap6 ao7 cap7 ao8 cap8)) [.int .i64 a1.Size,.int .i64 a1.Safi,.int .i64 a1.M.Kind,.int .u8 (ar a1.M.RD 0),.int .u8 (ar a1.M.RD 1),.int .u8 (ar a1.M.RD 2),.int .u8 (ar a1.M.RD 3),.int .u8 (ar a1.M.RD 4),.int .u8 (ar a1.M.RD 5),.int .u8 (ar a1.M.RD 6),.int .u8 (ar a1.M.RD 7),.int .i64 a1.M.AS,.int .i64 a1.M.Source.Size,.int .u8 (ar a1.M.Source.B 0),.int .u8 (ar a1.M.Source.B 1),.int .u8 (ar a1.M.Source.B 2),.int .u8 (ar a1.M.Source.B 3),.int .u8 (ar a1.M.Source.B 4),.int .u8 (ar a1.M.Source.B 5),.int .u8 (ar a1.M.Source.B 6),.int .u8 (ar a1.M.Source.B 7),.int .u8 (ar a1.M.Source.B 8),.int .u8 (ar a1.M.Source.B 9),.int .u8 (ar a1.M.Source.B 10),.int .u8 (ar a1.M.Source.B 11),.int .u8 (ar a1.M.Source.B 12),.int .u8 (ar a1.M.Source.B 13),.int .u8 (ar a1.M.Source.B 14),.int .u8 (ar a1.M.Source.B 15),.int .i64 a1.M.Group.Size,.int .u8 (ar a1.M.Group.B 0),.int .u8 (ar a1.M.Group.B 1),.int .u8 (ar a1.M.Group.B 2),.int .u8 (ar a1.M.Group.B 3),.int .u8 (ar a1.M.Group.B 4),.int .u8 (ar a1.M.Group.B 5),.int .u8 (ar a1.M.Group.B 6),.int .u8 (ar a1.M.Group.B 7),.int .u8 (ar a1.M.Group.B 8),.int .u8 (ar a1.M.Group.B 9),.int .u8 (ar a1.M.Group.B 10),.int .u8 (ar a1.M.Group.B 11),.int .u8 (ar a1.M.Group.B 12),.int .u8 (ar a1.M.Group.B 13),.int .u8 (ar a1.M.Group.B 14),.int .u8 (ar a1.M.Group.B 15),.int .i64 a1.M.From.Size,.int .u8 (ar a1.M.From.B 0),.int .u8 (ar a1.M.From.B 1),.int .u8 (ar a1.M.From.B 2),.int .u8 (ar a1.M.From.B 3),.int .u8 (ar a1.M.From.B 4),.int .u8 (ar a1.M.From.B 5),.int .u8 (ar a1.M.From.B 6),.int .u8 (ar a1.M.From.B 7),.int .u8 (ar a1.M.From.B 8),.int .u8 (ar a1.M.From.B 9),.int .u8 (ar a1.M.From.B 10),.int .u8 (ar a1.M.From.B 11),.int .u8 (ar a1.M.From.B 12),.int .u8 (ar a1.M.From.B 13),.int .u8 (ar a1.M.From.B 14),.int .u8 (ar a1.M.From.B 15),.string (bstr a1.M.Key),.int .u8 (ar a1.U.RD 0),.int .u8 (ar a1.U.RD 1),.int .u8 (ar a1.U.RD 2),.int .u8 (ar a1.U.RD 3),.int .u8 (ar a1.U.RD 4),.int .u8 (ar a1.U.RD 5),.int .u8 (ar a1.U.RD 6),.int .u8 (ar a1.U.RD 7),.int .i64 a1.U.Prefix.Addr.Size,.int .u8 (ar a1.U.Prefix.Addr.B 0),.int .u8 (ar a1.U.Prefix.Addr.B 1),.int .u8 (ar a1.U.Prefix.Addr.B 2),.int .u8 (ar a1.U.Prefix.Addr.B 3),.int .u8 (ar a1.U.Prefix.Addr.B 4),.int .u8 (ar a1.U.Prefix.Addr.B 5),.int .u8 (ar a1.U.Prefix.Addr.B 6),.int .u8 (ar a1.U.Prefix.Addr.B 7),.int .u8 (ar a1.U.Prefix.Addr.B 8),.int .u8 (ar a1.U.Prefix.Addr.B 9),.int .u8 (ar a1.U.Prefix.Addr.B 10),.int .u8 (ar a1.U.Prefix.Addr.B 11),.int .u8 (ar a1.U.Prefix.Addr.B 12),.int .u8 (ar a1.U.Prefix.Addr.B 13),.int .u8 (ar a1.U.Prefix.Addr.B 14),.int .u8 (ar a1.U.Prefix.Addr.B 15),.int .i64 a1.U.Prefix.Bits,.int .i64 a1.U.Label] [.int .i64 a1.Attrs.Origin,.slice ao5 a1.Attrs.Path.length cap5,.int .i64 a1.Attrs.Med,.int .i64 a1.Attrs.Pref,.int .i64 a1.Attrs.Originator.Size,.int .u8 (ar a1.Attrs.Originator.B 0),.int .u8 (ar a1.Attrs.Originator.B 1),.int .u8 (ar a1.Attrs.Originator.B 2),.int .u8 (ar a1.Attrs.Originator.B 3),.int .u8 (ar a1.Attrs.Originator.B 4),.int .u8 (ar a1.Attrs.Originator.B 5),.int .u8 (ar a1.Attrs.Originator.B 6),.int .u8 (ar a1.Attrs.Originator.B 7),.int .u8 (ar a1.Attrs.Originator.B 8),.int .u8 (ar a1.Attrs.Originator.B 9),.int .u8 (ar a1.Attrs.Originator.B 10),.int .u8 (ar a1.Attrs.Originator.B 11),.int .u8 (ar a1.Attrs.Originator.B 12),.int .u8 (ar a1.Attrs.Originator.B 13),.int .u8 (ar a1.Attrs.Originator.B 14),.int .u8 (ar a1.Attrs.Originator.B 15),.slice ao6 a1.Attrs.Clusters.length cap6,.slice ao7 a1.Attrs.Exts.length cap7,.slice ao8 a1.Attrs.Tunnels.length cap8] (by kernel_rfl)) fun a ha=>?_;refine hop (v:=.bool ((a0.Next.Size==a1.Next.Size) && ((eqA 16 a0.Next.B a1.Next.B) && true))) (w':=w15) ha rfl rfl rfl (eqs_run (r:=((a0.Next.Size==a1.Next.Size) && ((eqA 16 a0.Next.B a1.Next.B) && true))) (m:=9) ha rfl rfl (by kernel_rfl) rfl (by kernel_rfl) _) fun a ha=>?_;refine sgd ha 2 [3,0] [31,33,34] [(38,.bool ((a0.Next.Size==a1.Next.Size) && ((eqA 16 a0.Next.B a1.Next.B) && true)))] fun a ha=>?_;rcases Bool.eq_false_or_eq_true (((a0.Next.Size==a1.Next.Size) && ((eqA 16 a0.Next.B a1.Next.B) && true))) with hb26 | hb26
     ·have ha:=ha.lit hb26;have H:=ite_t hb26 H;refine sgd ha 1 [2] [2] [(38,.bool true),(39,.pointer (some ⟨g11,0+108,none⟩))] fun a ha=>?_;refine ldA (cs:=(cS_api_Attrs a0.Attrs ao1 cap1 ao2 cap2 ao3 cap3 ao4 cap4)) ha rfl (by kernel_rfl) rfl rfl rfl (cells_sub hE13 (all:=(cS_api_Route a0 ao1 cap1 ao2 cap2 ao3 cap3 ao4 cap4)) [.int .i64 a0.Size,.int .i64 a0.Safi,.int .i64 a0.M.Kind,.int .u8 (ar a0.M.RD 0),.int .u8 (ar a0.M.RD 1),.int .u8 (ar a0.M.RD 2),.int .u8 (ar a0.M.RD 3),.int .u8 (ar a0.M.RD 4),.int .u8 (ar a0.M.RD 5),.int .u8 (ar a0.M.RD 6),.int .u8 (ar a0.M.RD 7),.int .i64 a0.M.AS,.int .i64 a0.M.Source.Size,.int .u8 (ar a0.M.Source.B 0),.int .u8 (ar a0.M.Source.B 1),.int .u8 (ar a0.M.Source.B 2),.int .u8 (ar a0.M.Source.B 3),.int .u8 (ar a0.M.Source.B 4),.int .u8 (ar a0.M.Source.B 5),.int .u8 (ar a0.M.Source.B 6),.int .u8 (ar a0.M.Source.B 7),.int .u8 (ar a0.M.Source.B 8),.int .u8 (ar a0.M.Source.B 9),.int .u8 (ar a0.M.Source.B 10),.int .u8 (ar a0.M.Source.B 11),.int .u8 (ar a0.M.Source.B 12),.int .u8 (ar a0.M.Source.B 13),.int .u8 (ar a0.M.Source.B 14),.int .u8 (ar a0.M.Source.B 15),.int .i64 a0.M.Group.Size,.int .u8 (ar a0.M.Group.B 0),.int .u8 (ar a0.M.Group.B 1),.int .u8 (ar a0.M.Group.B 2),.int .u8 (ar a0.M.Group.B 3),.int .u8 (ar a0.M.Group.B 4),.int .u8 (ar a0.M.Group.B 5),.int .u8 (ar a0.M.Group.B 6),.int .u8 (ar a0.M.Group.B 7),.int .u8 (ar a0.M.Group.B 8),.int .u8 (ar a0.M.Group.B 9),.int .u8 (ar a0.M.Group.B 10),.int .u8 (ar a0.M.Group.B 11),.int .u8 (ar a0.M.Group.B 12),.int .u8 (ar a0.M.Group.B 13),.int .u8 (ar a0.M.Group.B 14),.int .u8 (ar a0.M.Group.B 15),.int .i64 a0.M.From.Size,.int .u8 (ar a0.M.From.B 0),.int .u8 (ar a0.M.From.B 1),.int .u8 (ar a0.M.From.B 2),.int .u8 (ar a0.M.From.B 3),.int .u8 (ar a0.M.From.B 4),.int .u8 (ar a0.M.From.B 5),.int .u8 (ar a0.M.From.B 6),.int .u8 (ar a0.M.From.B 7),.int .u8 (ar a0.M.From.B 8),.int .u8 (ar a0.M.From.B 9),.int .u8 (ar a0.M.From.B 10),.int .u8 (ar a0.M.From.B 11),.int .u8 (ar a0.M.From.B 12),.int .u8 (ar a0.M.From.B 13),.int .u8 (ar a0.M.From.B 14),.int .u8 (ar a0.M.From.B 15),.string (bstr a0.M.Key),.int .u8 (ar a0.U.RD 0),.int .u8 (ar a0.U.RD 1),.int .u8 (ar a0.U.RD 2),.int .u8 (ar a0.U.RD 3),.int .u8 (ar a0.U.RD 4),.int .u8 (ar a0.U.RD 5),.int .u8 (ar a0.U.RD 6),.int .u8 (ar a0.U.RD 7),.int .i64 a0.U.Prefix.Addr.Size,.int .u8 (ar a0.U.Prefix.Addr.B 0),.int .u8 (ar a0.U.Prefix.Addr.B 1),.int .u8 (ar a0.U.Prefix.Addr.B 2),.int .u8 (ar a0.U.Prefix.Addr.B 3),.int .u8 (ar a0.U.Prefix.Addr.B 4),.int .u8 (ar a0.U.Prefix.Addr.B 5),.int .u8 (ar a0.U.Prefix.Addr.B 6),.int .u8 (ar a0.U.Prefix.Addr.B 7),.int .u8 (ar a0.U.Prefix.Addr.B 8),.int .u8 (ar a0.U.Prefix.Addr.B 9),.int .u8 (ar a0.U.Prefix.Addr.B 10),.int .u8 (ar a0.U.Prefix.Addr.B 11),.int .u8 (ar a0.U.Prefix.Addr.B 12),.int .u8 (ar a0.U.Prefix.Addr.B 13),.int .u8 (ar a0.U.Prefix.Addr.B 14),.int .u8 (ar a0.U.Prefix.Addr.B 15),.int .i64 a0.U.Prefix.Bits,.int .i64 a0.U.Label,.int .i64 a0.Next.Size,.int .u8 (ar a0.Next.B 0),.int .u8 (ar a0.Next.B 1),.int .u8 (ar a0.Next.B 2),.int .u8 (ar a0.Next.B 3),.int .u8 (ar a0.Next.B 4),.int .u8 (ar a0.Next.B 5),.int .u8 (ar a0.Next.B 6),.int .u8 (ar a0.Next.B 7),.int .u8 (ar a0.Next.B 8),.int .u8 (ar a0.Next.B 9),.int .u8 (ar a0.Next.B 10),.int .u8 (ar a0.Next.B 11),.int .u8 (ar a0.Next.B 12),.int .u8 (ar a0.Next.B 13),.int .u8 (ar a0.Next.B 14),.int .u8 (ar a0.Next.B 15)] [] (by kernel_rfl)) fun a ha=>?_;refine sgd ha 1 [2] [3,39] [(40,.agg (cS_api_Attrs a0.Attrs ao1 cap1 ao2 cap2 ao3 cap3 ao4 cap4).toArray),(41,.pointer (some ⟨g16,0+108,none⟩))] fun a ha=>?_;refine ldA (cs:=(cS_api_Attrs a1.Attrs ao5 cap5 ao6 cap6 ao7 cap7 ao8 cap8)) ha rfl (by kernel_rfl) rfl rfl rfl (cells_sub hE18 (all:=(cS_api_Route a1 ao5 cap5 ao6 cap6 ao7 cap7 ao8 cap8)) [.int .i64 a1.Size,.int .i64 a1.Safi,.int .i64 a1.M.Kind,.int .u8 (ar a1.M.RD 0),.int .u8 (ar a1.M.RD 1),.int .u8 (ar a1.M.RD 2),.int .u8 (ar a1.M.RD 3),.int .u8 (ar a1.M.RD 4),.int .u8 (ar a1.M.RD 5),.int .u8 (ar a1.M.RD 6),.int .u8 (ar a1.M.RD 7),.int .i64 a1.M.AS,.int .i64 a1.M.Source.Size,.int .u8 (ar a1.M.Source.B 0),.int .u8 (ar a1.M.Source.B 1),.int .u8 (ar a1.M.Source.B 2),.int .u8 (ar a1.M.Source.B 3),.int .u8 (ar a1.M.Source.B 4),.int .u8 (ar a1.M.Source.B 5),.int .u8 (ar a1.M.Source.B 6),.int .u8 (ar a1.M.Source.B 7),.int .u8 (ar a1.M.Source.B 8),.int .u8 (ar a1.M.Source.B 9),.int .u8 (ar a1.M.Source.B 10),.int .u8 (ar a1.M.Source.B 11),.int .u8 (ar a1.M.Source.B 12),.int .u8 (ar a1.M.Source.B 13),.int .u8 (ar a1.M.Source.B 14),.int .u8 (ar a1.M.Source.B 15),.int .i64 a1.M.Group.Size,.int .u8 (ar a1.M.Group.B 0),.int .u8 (ar a1.M.Group.B 1),.int .u8 (ar a1.M.Group.B 2),.int .u8 (ar a1.M.Group.B 3),.int .u8 (ar a1.M.Group.B 4),.int .u8 (ar a1.M.Group.B 5),.int .u8 (ar a1.M.Group.B 6),.int .u8 (ar a1.M.Group.B 7),.int .u8 (ar a1.M.Group.B 8),.int .u8 (ar a1.M.Group.B 9),.int .u8 (ar a1.M.Group.B 10),.int .u8 (ar a1.M.Group.B 11),.int .u8 (ar a1.M.Group.B 12),.int .u8 (ar a1.M.Group.B 13),.int .u8 (ar a1.M.Group.B 14),.int .u8 (ar a1.M.Group.B 15),.int .i64 a1.M.From.Size,.int .u8 (ar a1.M.From.B 0),.int .u8 (ar a1.M.From.B 1),.int .u8 (ar a1.M.From.B 2),.int .u8 (ar a1.M.From.B 3),.int .u8 (ar a1.M.From.B 4),.int .u8 (ar a1.M.From.B 5),.int .u8 (ar a1.M.From.B 6),.int .u8 (ar a1.M.From.B 7),.int .u8 (ar a1.M.From.B 8),.int .u8 (ar a1.M.From.B 9),.int .u8 (ar a1.M.From.B 10),.int .u8 (ar a1.M.From.B 11),.int .u8 (ar a1.M.From.B 12),.int .u8 (ar a1.M.From.B 13),.int .u8 (ar a1.M.From.B 14),.int .u8 (ar a1.M.From.B 15),.string (bstr a1.M.Key),.int .u8 (ar a1.U.RD 0),.int .u8 (ar a1.U.RD 1),.int .u8 (ar a1.U.RD 2),.int .u8 (ar a1.U.RD 3),.int .u8 (ar a1.U.RD 4),.int .u8 (ar a1.U.RD 5),.int .u8 (ar a1.U.RD 6),.int .u8 (ar a1.U.RD 7),.int .i64 a1.U.Prefix.Addr.Size,.int .u8 (ar a1.U.Prefix.Addr.B 0),.int .u8 (ar a1.U.Prefix.Addr.B 1),.int .u8 (ar a1.U.Prefix.Addr.B 2),.int .u8 (ar a1.U.Prefix.Addr.B 3),.int .u8 (ar a1.U.Prefix.Addr.B 4),.int .u8 (ar a1.U.Prefix.Addr.B 5),.int .u8 (ar a1.U.Prefix.Addr.B 6),.int .u8 (ar a1.U.Prefix.Addr.B 7),.int .u8 (ar a1.U.Prefix.Addr.B 8),.int .u8 (ar a1.U.Prefix.Addr.B 9),.int .u8 (ar a1.U.Prefix.Addr.B 10),.int .u8 (ar a1.U.Prefix.Addr.B 11),.int .u8 (ar a1.U.Prefix.Addr.B 12),.int .u8 (ar a1.U.Prefix.Addr.B 13),.int .u8 (ar a1.U.Prefix.Addr.B 14),.int .u8 (ar a1.U.Prefix.Addr.B 15),.int .i64 a1.U.Prefix.Bits,.int .i64 a1.U.Label,.int .i64 a1.Next.Size,.int .u8 (ar a1.Next.B 0),.int .u8 (ar a1.Next.B 1),.int .u8 (ar a1.Next.B 2),.int .u8 (ar a1.Next.B 3),.int .u8 (ar a1.Next.B 4),.int .u8 (ar a1.Next.B 5),.int .u8 (ar a1.Next.B 6),.int .u8 (ar a1.Next.B 7),.int .u8 (ar a1.Next.B 8),.int .u8 (ar a1.Next.B 9),.int .u8 (ar a1.Next.B 10),.int .u8 (ar a1.Next.B 11),.int .u8 (ar a1.Next.B 12),.int .u8 (ar a1.Next.B 13),.int .u8 (ar a1.Next.B 14),.int .u8 (ar a1.Next.B 15)] [] (by kernel_rfl)) fun a ha=>?_;obtain ⟨t27,H27,H⟩:=bind_some H;refine cL ha (vineryref09_Same.walk w15 _ hM a0.Attrs ao1 cap1 f1 ao2 cap2 f2 ao3 cap3 f3 ao4 cap4 f4 a1.Attrs ao5 cap5 f5 ao6 cap6 f6 ao7 cap7 f7 ao8 cap8 f8 k _ H27) ?_;rintro _ w27 ⟨rfl,hc27,hMn⟩ a ha;have hM:=hM.chg hc27;have hC:=hC.t0 hc27;refine sgf ha 2 [3,0] [(4,.bool t27)] fun a ha=>?_;obtain rfl:=oj H;exact J21 _ _ (ha.sel (by kernel_rfl)) hC hM
     ·have ha:=ha.lit hb26;have H:=ite_f hb26 H;refine sgf ha 7 [1,1,1,1,1,4,0] [(4,.bool false)] fun a ha=>?_;obtain rfl:=oj H;exact J21 _ _ (ha.sel (by kernel_rfl)) hC hM
    ·have ha:=ha.lit hb25;have H:=ite_f hb25 H;refine sgf ha 14 [1,1,1,1,1,4,0,1,1,1,1,1,4,0] [(4,.bool false)] fun a ha=>?_;obtain rfl:=oj H;exact J21 _ _ (ha.sel (by kernel_rfl)) hC hM
   ·have ha:=ha.lit hb24;have H:=ite_f hb24 H;refine sgf ha 21 [1,1,1,1,1,4,0,1,1,1,1,1,4,0,1,1,1,1,1,4,0] [(4,.bool false)] fun a ha=>?_;obtain rfl:=oj H;exact J21 _ _ (ha.sel (by kernel_rfl)) hC hM
  ·have ha:=ha.lit hb23;have H:=ite_f hb23 H;refine sgf ha 28 [1,1,1,1,1,4,0,1,1,1,1,1,4,0,1,1,1,1,1,4,0,1,1,1,1,1,4,0] [(4,.bool false)] fun a ha=>?_;obtain rfl:=oj H;exact J21 _ _ (ha.sel (by kernel_rfl)) hC hM
 ·have ha:=ha.lit hb22;have H:=ite_f hb22 H;refine sgf ha 35 [1,1,1,1,1,4,0,1,1,1,1,1,4,0,1,1,1,1,1,4,0,1,1,1,1,1,4,0,1,1,1,1,1,4,0] [(4,.bool false)] fun a ha=>?_;obtain rfl:=oj H;exact J21 _ _ (ha.sel (by kernel_rfl)) hC hM
end Go.E
