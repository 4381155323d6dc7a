/- The rules by which these proofs step through the code, part E. -/
import Derived.Test.YtinakhioihhgfaaGreatDoorEngD
set_option linter.unusedVariables false
set_option linter.unusedSimpArgs false
namespace Go.E
open Go.RowKit
theorem ml {a b:List Nat} {g:Nat} (h:g∈a):g∈a++b:=List.mem_append_left _ h
theorem mr {a b:List Nat} {g:Nat} (h:g∈b):g∈a++b:=List.mem_append_right _ h
theorem bind_some {α β:Type} {x:Option α} {f:α→Option β} {r:β} (h:x.bind f=some r):∃ t,x=some t∧f t=some r:=by
 cases x with
 | none=>cases h
 | some t=>exact ⟨t,rfl,h⟩
theorem ite_t {α:Type} {b:Bool} {x y z:α} (hc:b=true) (h:(if b=true then x else y)=z):x=z:=by rwa [if_pos hc] at h
theorem ite_f {α:Type} {b:Bool} {x y z:α} (hc:b=false) (h:(if b=true then x else y)=z):y=z:=by rwa [if_neg (by rw [hc];simp)] at h
theorem ite_some {α:Type} {p:Prop} [Decidable p] {x:Option α} {r:α} (h:(if p then x else none)=some r):p∧x=some r:=by
 by_cases hp:p
 ·rw [if_pos hp] at h;exact ⟨hp,h⟩
 ·rw [if_neg hp] at h;cases h
theorem Ok.to {gs M M':List Nat} {n:Nat} (h:Ok gs M n) (hM:∀ g,g∈M→g∈M'):Ok gs M' n:=fun k hk=>(h k hk).elim (fun h=>.inl (hM k h)) .inr
theorem Ok.one {g:Nat} {M:List Nat} {n:Nat} (h:g∈M∨n≤g):Ok [g] M n:=fun k hk=>by simp at hk;subst hk;exact h
theorem New.ok {w w':World} {g:Nat} {o:Obj} (h:New w w' g o) (M:List Nat):Ok [g] M w.heap.size:=Ok.one (.inr h.ge)
theorem New.ms {w w':World} {g:Nat} {o:Obj} (h:New w w' g o):∀ k∈[g],k < w'.heap.size:=fun k hk=>by simp at hk;subst hk;exact lt_size h.at_
theorem New.notin {w w':World} {g:Nat} {o:Obj} (h:New w w' g o) {M:List Nat} (hM:MS M w):g∉M:=fun hm=>absurd (hM g hm) (Nat.not_lt.2 h.ge)
theorem New.own {α:Type} {r:Rep α} {T:TypeId} {w w':World} {g:Nat} {cs:List Value} {M:List Nat} {xs:List α} (h:New w w' g (.cells cs.toArray T (0,0)))
  (hl:RL r w' ([g]++M) cs xs) (hc:xs.length≤maxLen):Own r T w' ([g]++M) (some ⟨g,0,none⟩) xs.length xs :=
 .inr ⟨g,cs.toArray,rfl,by simp,h.at_,by simp [hl.len],Nat.le_refl _,hc,by simpa [← hl.len] using hl⟩
def b2s (l:List Int):List UInt8:=l.map fun x=>UInt8.ofNat x.toNat
theorem RL_int {k:IntKind} {w:World} {M:List Nat} {cs:List Value} {xs:List Int} (h:RL (rInt k) w M cs xs):cs=xs.map (.int k):=by
 induction xs generalizing cs with
 | nil=>exact h
 | cons x xs ih =>
  obtain ⟨c1,c2,rfl,h1,h2⟩:=h
  rw [show c1=[.int k x] from h1,ih h2];rfl
theorem RL_int_mk {k:IntKind} {w:World} {M:List Nat} (xs:List Int):RL (rInt k) w M (xs.map (.int k)) xs:=by
 induction xs with
 | nil=>rfl
 | cons x xs ih=>exact ⟨[.int k x],_,rfl,rfl,ih⟩
theorem foldl_push (l:List Int) (s:ByteArray):l.foldl (fun r n=>r.push (UInt8.ofNat n.toNat)) s=⟨s.data++(b2s l).toArray⟩:=by
 induction l generalizing s with
 | nil=>simp [b2s]
 | cons x l ih=>rw [List.foldl_cons,ih];simp [b2s,ByteArray.push]
section
variable {P:Program} {n d:Nat} {ops:Array Oper} {Q:Exit→Act→World→Prop} {w w':World} {a:Act} {env:Env} {rest:List Oper} {o:Oper} {v:Value}
 {dd:Option Tmp} {ty:TypeId} {pos:String} {af:Array Edge} {gd:Option (Nat×Bool)}
theorem run_cvs {t T s:TypeId} {M:List Nat} {ao:Option Addr} {cap:Nat} {xs:List Int} (h:RSl (rInt .u8) T w M ao cap xs)
  (ht:P.underlying t=some (.slice T)) (hT:P.underlying T=some (.int .u8)) (hs:P.underlying s=some .string) :
  (convert t s (.slice ao xs.length cap)).run P w=.ok (.string (bstr (b2s xs))) w:=by
 rw [run_convert_bytes_string w t s T _ _ _ ht hT hs]
 obtain ⟨_,_,h3⟩:=h
 rcases h3 with rfl | ⟨g,o,cur,fr,rfl,_,hb,hl⟩
 ·cases ao with
  | none=>simp [Conv.bytesToString,b2s,bstr];rfl
  | some ad =>
   show (Conv.bytesToString (.slice (some ad) 0 cap)).run P w=_
   rw [run_bytesToString w ad 0 cap [] (by simp [loadCells,loadCellsFrom])]
   rfl
 ·rw [run_bytesToString w _ _ cap xs ?_,foldl_push]
  ·simp [bstr]
  ·have hcs:=RL_int hl
   have:=run_loadCells_list (P:=P) (w:=w) ⟨g,o,none⟩ (xs.map (.int .u8)) ?_
   ·simpa using this
   ·intro j u hu
    rw [Addr.add_lit,cell_of_row w g _ cur fr.1 fr.2 hb,← hcs] at *
    rw [List.getElem?_take] at hu
    split at hu
    ·rw [List.getElem?_drop] at hu;rw [← Array.getElem?_toList];exact hu
    ·cases hu
theorem cvs {t T s:TypeId} {x:Operand} {M:List Nat} {ao:Option Addr} {cap:Nat} {xs:List Int} (ha:Has a n env) (hx:ev env x=some (.slice ao xs.length cap))
  (ht:P.underlying t=some (.slice T)) (hT:P.underlying T=some (.int .u8)) (hs:P.underlying s=some .string)
  (hg:gok ops env gd=some true) (hd:dd=some d) (hdn:Nat.blt d n=true) (h:RSl (rInt .u8) T w M ao cap xs)
  (hk:∀ a',Has a' n ((d,.string (bstr (b2s xs)))::env)→wpList P ops Q rest a' w) :
  wpList P ops Q (⟨dd,.convert t s x,ty,pos,af,gd⟩::rest) a w:=by
 have hr:(execOp a.eval ⟨dd,.convert t s x,ty,pos,af,gd⟩).run P w=.ok (.value (.string (bstr (b2s xs)))) w:=by
  have e:execOp a.eval ⟨dd,.convert t s x,ty,pos,af,gd⟩=(convert t s (.slice ao xs.length cap) >>= fun v=>pure (Next.value v)):=by
   simp [execOp,ha.ev hx]
  exact execOp_val' e (run_cvs h ht hT hs)
 exact hop ha hg hd hdn hr hk
end
/-! ### pieces with hints: 1: the guard says no; 2: it says yes; 3, 4: a pick whose choice is known; 5, 6: both -/
def gst (ops:Array Oper) (env:GEnv):Option (Nat×Bool)→Option Bool
 | none=>some true
 | some (j,want) =>
  match (ops[j]?).bind (·.dst) with
  | some t=>match glook env t with
   | some ([],.bool b)=>some (b==want)
   | some ([],.tuple _)=>some false
   | _=>none
  | none=>none
theorem gst_wanted {a:Act} {n:Nat} {env:GEnv} (ha:GHas a n env) {ops:Array Oper} {o:Oper} {b:Bool} (h:gst ops env o.guard=some b):Region.wanted o (yielded ops a.tmps)=b:=by
 unfold Region.wanted
 cases hg:o.guard with
 | none=>rw [hg] at h;exact Option.some.inj h
 | some jw =>
  obtain ⟨j,want⟩:=jw
  rw [hg] at h
  simp only [gst] at h
  split at h
  ·rename_i t ht
   split at h
   ·rename_i c hl
    obtain rfl:=Option.some.inj h
    have hlt:=ha.lt t _ hl
    have hget:a.tmps[t]? = some (.bool c):=by
     have h1:t < a.tmps.size:=by rw [ha.size];exact hlt
     have h2:=ha.yes t [] _ hl (fun p hp=>by cases hp)
     simp only [Array.getD,h1,dif_pos] at h2
     rw [Array.getElem?_eq_getElem h1];exact congrArg some h2
    have hy:yielded ops a.tmps j=some c:=by
     unfold yielded;rw [ht];simp only [Option.bind_some,hget]
    simp only [hy]
    cases c<;>cases want<;>rfl
   ·rename_i c hl
    obtain rfl:=Option.some.inj h
    have hlt:=ha.lt t _ hl
    have hget:a.tmps[t]? = some (.tuple c):=by
     have h1:t < a.tmps.size:=by rw [ha.size];exact hlt
     have h2:=ha.yes t [] _ hl (fun p hp=>by cases hp)
     simp only [Array.getD,h1,dif_pos] at h2
     rw [Array.getElem?_eq_getElem h1];exact congrArg some h2
    have hy:yielded ops a.tmps j=none:=by
     unfold yielded;rw [ht];simp only [Option.bind_some,hget]
    simp only [hy]
    rfl
   ·cases h
  ·cases h
def ppick (env:GEnv) (G:Grd) (c:Bool):Op→Option Value
 | .pick x a b=>match gev env G x with
  | some (.bool true)=>bif c then gev env G a else none
  | some (.bool false)=>bif c then none else gev env G b
  | _=>none
 | _=>none
theorem ppick_run {P:Program} {a:Act} {n:Nat} {env:GEnv} {G:Grd} {o:Oper} {v:Value} {c:Bool} (h:GHas a n env) (hG:valid a G) (hp:ppick env G c o.op=some v) (w:World) :
  (execOp a.eval o).run P w=.ok (.value v) w:=by
 unfold ppick at hp
 split at hp
 ·rename_i x y z hop
  split at hp
  ·rename_i hx
   cases c
   ·cases hp
   ·simp [execOp,hop,h.gev hG hx,asBool,h.gev hG hp]
  ·rename_i hx
   cases c
   ·simp [execOp,hop,h.gev hG hx,asBool,h.gev hG hp]
   ·cases hp
  ·cases hp
 ·cases hp
def hval (P:Program) (env:GEnv) (G:Grd) (h:Nat) (op:Op):Option Value :=
 match h with
 | 3 | 5=>ppick env G true op
 | 4 | 6=>ppick env G false op
 | _=>pop P env G op
theorem hval_run {P:Program} {a:Act} {n:Nat} {env:GEnv} {G:Grd} {o:Oper} {v:Value} {k:Nat} (h:GHas a n env) (hG:valid a G) (hp:hval P env G k o.op=some v) (w:World) :
  (execOp a.eval o).run P w=.ok (.value v) w:=by
 unfold hval at hp
 split at hp<;>first | exact ppick_run h hG hp w | exact pop_run h hG hp w
def hchain (ops:Array Oper) (env:GEnv) (h:Nat) (g:Option (Nat×Bool)):Option Grd :=
 match h with
 | 2 | 5 | 6=>match gst ops env g with
  | some true=>some []
  | _=>none
 | _=>gchain ops env g
theorem hchain_iff {a:Act} {n:Nat} {env:GEnv} (h:GHas a n env) {ops:Array Oper} {o:Oper} {G:Grd} {k:Nat} (hc:hchain ops env k o.guard=some G) :
  (Region.wanted o (yielded ops a.tmps)=true↔valid a G):=by
 have one:∀ {G:Grd},(match gst ops env o.guard with | some true=>some [] | _=>none)=some G→(Region.wanted o (yielded ops a.tmps)=true↔valid a G):=by
  intro G hc
  split at hc
  ·rename_i hg
   obtain rfl:=Option.some.inj hc
   rw [gst_wanted h hg]
   simp only [true_iff]
   intro p hp;cases hp
  ·cases hc
 unfold hchain at hc
 split at hc<;>first | exact one hc | exact wanted_iff h hc
def segH (n:Nat) (P:Program) (ops:Array Oper):List Nat→List Oper→GEnv→Option GEnv
 | _,[],env=>some env
 | hs,o::rest,env =>
  match hs.headD 0 with
  | 1 =>
   match gst ops env o.guard,o.dst with
   | some false,some d=>if Nat.blt d n && fresh d env then segH n P ops hs.tail rest ((d,[],undef)::env) else none
   | some false,none=>segH n P ops hs.tail rest env
   | _,_=>none
  | h =>
   match hchain ops env h o.guard with
   | none=>none
   | some G =>
    match hval P env G h o.op,o.dst with
    | some v,some d=>if Nat.blt d n && fresh d env && G.all (fun p=>p.1 != d) then segH n P ops hs.tail rest ((d,G,v)::env) else none
    | _,_=>none
theorem segH_sound {P:Program} {n:Nat} {ops:Array Oper} {Q:Exit→Act→World→Prop} {w:World} (l:List Oper) :
  ∀ {hs:List Nat} {a:Act} {env env':GEnv} {rest:List Oper},segH n P ops hs l env=some env'→GHas a n env →
   (∀ a',GHas a' n env'→wpList P ops Q rest a' w)→wpList P ops Q (l++rest) a w:=by
 induction l with
 | nil=>intro hs a env env' rest h ha hk;simp only [segH] at h;obtain rfl:=Option.some.inj h;exact hk a ha
 | cons o l ih =>
  intro hs a env env' rest h ha hk
  unfold segH at h
  show wpList P ops Q (o::(l++rest)) a w
  split at h
  ·split at h
   ·rename_i d hg hd
    split at h
    ·rename_i hcond
     simp only [Bool.and_eq_true] at hcond
     have hdn:d < n:=by simpa using hcond.1
     unfold wpList
     rw [if_neg (by rw [gst_wanted ha hg];simp),hd]
     exact ih h (ha.put hdn hcond.2 rfl (.inl ⟨fun p hp=>(by cases hp),rfl⟩)) hk
    ·cases h
   ·rename_i hg hd
    unfold wpList
    rw [if_neg (by rw [gst_wanted ha hg];simp),hd]
    exact ih h ha hk
   ·cases h
  ·split at h
   ·cases h
   ·rename_i G hc
    split at h
    ·rename_i v d hp hd
     split at h
     ·rename_i hcond
      simp only [Bool.and_eq_true] at hcond
      obtain ⟨⟨h1,h2⟩,h3⟩:=hcond
      have hdn:d < n:=by simpa using h1
      have hw:=hchain_iff ha (ops:=ops) hc
      unfold wpList
      by_cases hv:valid a G
      ·rw [if_pos (hw.2 hv)]
       refine .inl ?_
       unfold Oper.wp
       rw [hval_run ha hv hp w,Oper.upon_value,hd]
       exact ih h (ha.put hdn h2 h3 (.inl ⟨hv,rfl⟩)) hk
      ·rw [if_neg (fun hh=>hv (hw.1 hh)),hd]
       exact ih h (ha.put hdn h2 h3 (.inr ⟨hv,rfl⟩)) hk
     ·cases h
    ·cases h
theorem sgh {P:Program} {n:Nat} {ops:Array Oper} {Q:Exit→Act→World→Prop} {w:World} {a:Act} {env:Env} {l:List Oper} (ha:Has a n env) (m:Nat) (hs:List Nat) (env':Env)
  (h:((segH n P ops hs (l.take m) (up env)).map fun e=>env'.map fun p=>glook e p.1)=some (env'.map fun p=>some ([],p.2)))
  (hk:∀ a',Has a' n env'→wpList P ops Q (l.drop m) a' w):wpList P ops Q l a w:=by
 rw [Option.map_eq_some_iff] at h
 obtain ⟨e,he,hs'⟩:=h
 rw [← List.take_append_drop m l]
 exact segH_sound _ he ha.toG fun a' ha'=>hk a' (ha'.sel hs')
end Go.E
