/- The plain law: what the walk computes is true, whatever the input. -/
import Derived.Test.YtoeenagdbjppgaaGreatDoorGenAttrWrites
import Derived.Test.YtoeenagdbjppgaaGreatDoorEngR
set_option linter.unusedVariables false
set_option linter.unusedSimpArgs false
namespace Go.E
theorem bstr_toList (l:List UInt8):(bstr l).toList=l:=by rw [ByteArray.toList_eq];simp [bstr]
theorem clone_ok (l:List Int) (h:l.length≤140737488355328):bytes_Clone.f l=some l:=if_pos h
theorem fdiv_pos (n:Int) (d:Nat) (hn:0≤n):Int.fdiv n (2^d)=n / (2^d):=Int.fdiv_eq_ediv_of_nonneg _ (Int.le_of_lt (Int.pow_pos (by decide)))
theorem put_step (n:Int) (hn:0≤n) (k:Nat) (x:List Int) (i:Nat) (hi:i≤32) (hx:x.length+1≤140737488355328) :
  cursor_Put.l0 n (k+1) x (i:Int)=cursor_Put.l0 n k (x++[(n / 2^i) % 256]) ((i:Int) - 8):=by
 rw [cursor_Put.l0]
 have h0:(0:Int)≤(i:Int):=by omega
 have e:IntKind.i64.wrap ((i:Int) - 8)=(i:Int) - 8:=by rw [IntKind.wrap_i64];omega
 have hm:min ((i:Int).toNat) IntKind.i64.bits=i:=by
  show min i 64=i
  omega
 rw [if_pos (by simp),if_pos h0,if_pos (by simp;omega),e,hm,fdiv_pos _ _ hn,IntKind.wrap_u8]
theorem put_end (n:Int) (k:Nat) (x:List Int) (i:Int) (hi:i < 0):cursor_Put.l0 n (k+1) x i=some x:=by
 rw [cursor_Put.l0,if_neg (by simp;omega)]
def putL (n:Int):Nat→List Int
 | 1=>[n % 256]
 | 2=>[n / 256 % 256,n % 256]
 | 3=>[n / 65536 % 256,n / 256 % 256,n % 256]
 | 4=>[n / 16777216 % 256,n / 65536 % 256,n / 256 % 256,n % 256]
 | _=>[]
theorem put_bad5 (k:Nat) (b:List Int) (n s:Int) (h1:1≤s) (h4:s≤4) (h:n < 0∨n ≥ 2^(8*s.toNat)):cursor_Put.f k b n s=some ([],5):=by
 unfold cursor_Put.f
 have:¬ (if decide (s < 1)=true then true else decide (s > 4))=true:=by simp;omega
 rw [if_neg this]
 have e:IntKind.i64.wrap ((8:Int)*s)=8*s:=by rw [IntKind.wrap_i64];omega
 rw [e]
 by_cases hn:n < 0
 ·simp [hn]
 ·have hge:n ≥ 2^(8*s.toNat):=h.resolve_left hn
  have hm:min ((8*s).toNat) IntKind.i64.bits=8*s.toNat:=by show min _ 64=_;omega
  have hne:(Int.fdiv n (2^(8*s.toNat)) != 0)=true:=by
   rw [fdiv_pos _ _ (by omega)]
   have hp:(0:Int) < 2^(8*s.toNat):=Int.pow_pos (by decide)
   have:1≤n / 2^(8*s.toNat):=(Int.le_ediv_iff_mul_le hp).2 (by omega)
   simp;omega
  rw [if_neg (by simpa using hn),if_pos (by omega),hm,hne]
  rfl
theorem put_ok (k:Nat) (b:List Int) (n:Int) (s:Nat) (hb:b.length≤140737488351232) (h1:1≤s) (h4:s≤4) (hn:0≤n) (hlt:n < 2^(8*s)):cursor_Put.f (k+5) b n (s:Int)=some (b++putL n s,0):=by
 unfold cursor_Put.f
 have:¬ (if decide ((s:Int) < 1)=true then true else decide ((s:Int) > 4))=true:=by simp;omega
 rw [if_neg this]
 have e:IntKind.i64.wrap ((8:Int)*(s:Int))=8*(s:Int):=by rw [IntKind.wrap_i64];omega
 have e2:IntKind.i64.wrap ((8:Int)*IntKind.i64.wrap ((s:Int) - 1))=8*((s:Int) - 1):=by rw [IntKind.wrap_i64,IntKind.wrap_i64];omega
 rw [e,e2]
 have hm:min ((8*(s:Int)).toNat) IntKind.i64.bits=8*s:=by show min _ 64=_;omega
 have hz:(Int.fdiv n (2^(8*s)) != 0)=false:=by
  rw [fdiv_pos _ _ hn,Int.ediv_eq_zero_of_lt hn hlt];rfl
 rw [if_neg (by simpa using hn),if_pos (by omega),hm,hz,Option.bind_some,if_neg (by simp),clone_ok _ (by omega),Option.bind_some]
 rcases (show s=1∨s=2∨s=3∨s=4 by omega) with rfl | rfl | rfl | rfl
 ·have:=put_step n hn (k+4) b 0 (by omega) (by omega)
  rw [show (8:Int)*((1:Nat) - 1)=((0:Nat):Int) from rfl,this,put_end _ _ _ _ (by omega)]
  simp [putL]
 ·have s1:=put_step n hn (k+4) b 8 (by omega) (by omega)
  have s2:=put_step n hn (k+3) (b++[n / 2^8 % 256]) 0 (by omega) (by simp;omega)
  rw [show (8:Int)*((2:Nat) - 1)=((8:Nat):Int) from rfl,s1,show ((8:Nat):Int) - 8=((0:Nat):Int) from rfl,s2,put_end _ _ _ _ (by omega)]
  simp [putL]
 ·have s1:=put_step n hn (k+4) b 16 (by omega) (by omega)
  have s2:=put_step n hn (k+3) (b++[n / 2^16 % 256]) 8 (by omega) (by simp;omega)
  have s3:=put_step n hn (k+2) (b++[n / 2^16 % 256]++[n / 2^8 % 256]) 0 (by omega) (by simp;omega)
  rw [show (8:Int)*((3:Nat) - 1)=((16:Nat):Int) from rfl,s1,show ((16:Nat):Int) - 8=((8:Nat):Int) from rfl,s2,show ((8:Nat):Int) - 8=((0:Nat):Int) from rfl,s3,put_end _ _ _ _ (by omega)]
  simp [putL]
 ·have s1:=put_step n hn (k+4) b 24 (by omega) (by omega)
  have s2:=put_step n hn (k+3) (b++[n / 2^24 % 256]) 16 (by omega) (by simp;omega)
  have s3:=put_step n hn (k+2) (b++[n / 2^24 % 256]++[n / 2^16 % 256]) 8 (by omega) (by simp;omega)
  have s4:=put_step n hn (k+1) (b++[n / 2^24 % 256]++[n / 2^16 % 256]++[n / 2^8 % 256]) 0 (by omega) (by simp;omega)
  rw [show (8:Int)*((4:Nat) - 1)=((24:Nat):Int) from rfl,s1,show ((24:Nat):Int) - 8=((16:Nat):Int) from rfl,s2,show ((16:Nat):Int) - 8=((8:Nat):Int) from rfl,s3,show ((8:Nat):Int) - 8=((0:Nat):Int) from rfl,s4,put_end _ _ _ _ (by omega)]
  simp [putL]
theorem putL_length (n:Int) (s:Nat) (h1:1≤s) (h4:s≤4):(putL n s).length=s:=by
 rcases (show s=1∨s=2∨s=3∨s=4 by omega) with rfl | rfl | rfl | rfl<;>rfl
theorem w64 (n:Int) (h:-9223372036854775808≤n∧n≤9223372036854775807):IntKind.i64.wrap n=n:=by rw [IntKind.wrap_i64];omega
def isB (l:List Int):Prop:=∀ y∈l,0≤y∧y≤255
theorem okL_isB {l:List Int} (h:okL 1 (okI .u8) l):isB l:=fun y hy=>by
 have:=h.2 y hy
 have e1:IntKind.u8.min=0:=rfl
 have e2:IntKind.u8.max=255:=rfl
 unfold okI at this
 omega
theorem okA_isB {l:List Int} {n:Nat} (h:okA .u8 n l):isB l:=fun y hy=>by
 have:=h.2 y hy
 have e1:IntKind.u8.min=0:=rfl
 have e2:IntKind.u8.max=255:=rfl
 unfold okI at this
 omega
theorem rd_at (l:List Int) (i:Nat) (hi:i < l.length):rd l (i:Int)=l[i]:=by simp [rd,List.getD,hi]
theorem ar_at (l:List Int) (i:Nat) (hi:i < l.length):ar l i=l[i]:=by simp [ar,List.getD,hi]
theorem arL_self (l:List Int):arL l.length l=l:=by
 apply List.ext_getElem
 ·simp [arL]
 ·intro i h1 h2
  simp [arL,ar_at l i h2]
theorem small09 (k:Nat):vinerylaw09_small.f (k+20)=some true:=by
 unfold vinerylaw09_small.f
 rfl
/-! trimming zeros -/
theorem tr_nil (k:Nat):bytes_trimRightByte.l0 0 (k+1) []=some []:=by unfold bytes_trimRightByte.l0;simp
theorem tr_snoc (k:Nat) (y:List Int) (c:Int) (h:y.length≤100):bytes_trimRightByte.l0 0 (k+1) (y++[c])=if c=0 then bytes_trimRightByte.l0 0 k y else some (y++[c]):=by
 rw [bytes_trimRightByte.l0]
 have hl:(y++[c]).length=y.length+1:=by simp
 have e:IntKind.i64.wrap (((y++[c]).length:Int) - 1)=(y.length:Int):=by rw [hl,IntKind.wrap_i64];omega
 have er:rd (y++[c]) (y.length:Int)=c:=by rw [rd_at _ _ (by simp)];simp
 rw [e,er,if_pos (by simp<;>omega),if_pos (by rw [hl];omega),Option.bind_some]
 by_cases hc:c=0
 ·rw [if_pos (by simpa using hc),if_pos (by rw [hl];simp<;>omega),if_pos hc]
  simp
 ·rw [if_neg (by simpa using hc),if_neg hc]
theorem tr_ok:∀ (n k:Nat) (x:List Int),x.length=n→n < k→n≤100→∃ r,bytes_trimRightByte.l0 0 k x=some r∧r.length≤x.length∧r.all (·==0)=x.all (·==0)
 | 0,k,x,h,hk,_=>by
  obtain ⟨k,rfl⟩:∃ k',k=k'+1:=⟨k - 1,by omega⟩
  obtain rfl:=List.eq_nil_of_length_eq_zero h
  exact ⟨[],tr_nil k,Nat.le_refl _,rfl⟩
 | n+1,k,x,h,hk,hn=>by
  obtain ⟨k,rfl⟩:∃ k',k=k'+1:=⟨k - 1,by omega⟩
  have hne:x≠[]:=by intro e;subst e;simp at h
  have hx:x=x.dropLast++[x.getLast hne]:=(List.dropLast_concat_getLast hne).symm
  have hd:x.dropLast.length=n:=by simp [h]
  generalize x.dropLast=y at hx hd
  generalize x.getLast hne=c at hx
  subst hx
  rw [tr_snoc k y c (by omega)]
  by_cases hc:c=0
  ·obtain ⟨r,h1,h2,h3⟩:=tr_ok n k y hd (by omega) (by omega)
   exact ⟨r,by rw [if_pos hc];exact h1,by simp;omega,by rw [h3];simp [hc]⟩
  ·exact ⟨_,if_neg hc,Nat.le_refl _,rfl⟩
theorem tl_nil (k:Nat):bytes_trimLeftByte.l0 0 (k+1) []=some []:=by unfold bytes_trimLeftByte.l0;simp
theorem tl_cons (k:Nat) (y:List Int) (c:Int):bytes_trimLeftByte.l0 0 (k+1) (c::y)=if c=0 then bytes_trimLeftByte.l0 0 k y else some (c::y):=by
 rw [bytes_trimLeftByte.l0]
 have er:rd (c::y) 0=c:=rfl
 rw [er,if_pos (by simp<;>omega),if_pos (by simp<;>omega),Option.bind_some]
 by_cases hc:c=0
 ·rw [if_pos (by simpa using hc),if_pos (by simp<;>omega),if_pos hc]
  simp
 ·rw [if_neg (by simpa using hc),if_neg hc]
theorem tl_ok:∀ (x:List Int) (k:Nat),x.length < k→∃ r,bytes_trimLeftByte.l0 0 k x=some r∧(((r.length:Int)==0)=x.all (·==0))
 | [],k,hk=>by
  obtain ⟨k,rfl⟩:∃ k',k=k'+1:=⟨k - 1,by omega⟩
  exact ⟨[],tl_nil k,rfl⟩
 | c::y,k,hk=>by
  obtain ⟨k,rfl⟩:∃ k',k=k'+1:=⟨k - 1,by omega⟩
  rw [tl_cons]
  by_cases hc:c=0
  ·obtain ⟨r,h1,h2⟩:=tl_ok y k (by simp at hk;omega)
   exact ⟨r,by rw [if_pos hc];exact h1,by rw [h2];simp [hc]⟩
  ·refine ⟨_,if_neg hc,?_⟩
   have:(c==0)=false:=by simpa using hc
   simp only [List.all_cons,this,Bool.false_and]
   simp
   omega
theorem trim_ok (k:Nat) (x:List Int) (hx:x.length≤16):∃ r,bytes_Trim.f (k+20) x [0]=some r∧(((r.length:Int)==0)=x.all (·==0)):=by
 by_cases h0:x.length=0
 ·obtain rfl:=List.eq_nil_of_length_eq_zero h0
  exact ⟨[],rfl,rfl⟩
 ·obtain ⟨r,h1,h2,h3⟩:=tr_ok x.length (k+20) x rfl (by omega) (by omega)
  obtain ⟨r',h4,h5⟩:=tl_ok r (k+20) (by omega)
  have e:bytes_Trim.f (k+20) x [0]=(bytes_trimRightByte.f (k+20) x 0).bind fun t21=>(bytes_trimLeftByte.f (k+20) t21 0).bind fun t24=>some t24:=by
   unfold bytes_Trim.f
   have hs:(((bstr ([0]:List UInt8)).size:Int)==(1:Int))=true:=rfl
   have ez:((([0]:List UInt8).getD (Int.toNat (0:Int)) 0).toNat:Int)=0:=rfl
   rw [if_neg (by simpa using h0),if_neg (by rw [bstr_toList,bstr_toList];decide),if_pos hs,ez,if_pos (by decide),Option.bind_some,if_pos (by decide),if_pos (by decide),if_pos (by decide)]
  rw [e]
  unfold bytes_trimRightByte.f bytes_trimLeftByte.f
  rw [h1,Option.bind_some,Option.bind_some,h4,Option.bind_some]
  by_cases hr:r'.length=0
  ·obtain rfl:=List.eq_nil_of_length_eq_zero hr
   exact ⟨[],rfl,by rw [← h3,← h5]⟩
  ·rw [if_neg (by simpa using hr)]
   exact ⟨r',rfl,by rw [h5,h3]⟩
/-! addresses -/
def isSz (n:Int):Bool:=n==0 || n==4 || n==16
def rightB (a:S_api_Addr):Bool:=isSz a.Size && ((arL 16 a.B).drop a.Size.toNat).all (·==0)
theorem isSz_or {n:Int} (h:isSz n=true):n=0∨n=4∨n=16:=by
 unfold isSz at h
 simp only [Bool.or_eq_true,beq_iff_eq] at h
 omega
theorem right_go (k:Nat) (a:S_api_Addr) (h:a.Size=0∨a.Size=4∨a.Size=16):addr_Right.f (k+20) a=some (((arL 16 a.B).drop a.Size.toNat).all (·==0)):=by
 have h16:(arL 16 a.B).length=16:=arL_length _ _
 have ht:(arL 16 a.B).take (Int.toNat 16)=arL 16 a.B:=by rw [List.take_of_length_le];rw [h16];exact Nat.le_refl _
 obtain ⟨r,h1,h2⟩:=trim_ok k ((arL 16 a.B).drop a.Size.toNat) (by rw [List.length_drop,h16];omega)
 have hc:(if (a.Size==(0:Int))=true then some (a.Size==(0:Int):Bool) else (if (a.Size==(4:Int))=true then some (a.Size==(4:Int):Bool) else some (a.Size==(16:Int):Bool)))=some true:=by
  rcases h with h | h | h<;>simp [h]
 unfold addr_Right.f
 rw [ht,hc,Option.bind_some,if_pos rfl,if_pos (by omega),h1,Option.bind_some,h2]
theorem right_ok (k:Nat) (a:S_api_Addr):addr_Right.f (k+20) a=some (rightB a):=by
 by_cases h:a.Size=0∨a.Size=4∨a.Size=16
 ·rw [right_go k a h]
  have:isSz a.Size=true:=by unfold isSz;simp;omega
  unfold rightB
  rw [this,Bool.true_and]
 ·have h0:¬ a.Size=0:=by omega
  have h4:¬ a.Size=4:=by omega
  have h16:¬ a.Size=16:=by omega
  unfold addr_Right.f rightB isSz
  simp [h0,h4,h16]
def zeros:List Int:=List.replicate 16 0
theorem of_ok (b:List Int):addr_Of.f b=some (if isSz b.length=true then (⟨b.length,arC 16 zeros b⟩,0) else (⟨0,zeros⟩,1)):=by
 have hc:∀ n:Int,(if (n==(0:Int))=true then some (n==(0:Int):Bool) else (if (n==(4:Int))=true then some (n==(4:Int):Bool) else some (n==(16:Int):Bool)))=some (isSz n):=by
  intro n
  unfold isSz
  cases h:(n==0)<;>cases h':(n==4)<;>simp
 unfold addr_Of.f
 rw [hc,Option.bind_some]
 cases isSz (b.length:Int)<;>rfl
def rootL (a:S_api_Addr):List Int:=(arL 16 a.B).take a.Size.toNat
theorem addrbytes_ok (k:Nat) (a:S_api_Addr) (h:rightB a=true):addr_Bytes.f (k+20) a=some (rootL a):=by
 unfold addr_Bytes.f
 have hs:a.Size=0∨a.Size=4∨a.Size=16:=isSz_or (by unfold rightB at h;simp only [Bool.and_eq_true] at h;exact h.1)
 rw [right_ok,h,Option.bind_some,if_neg (by simp),if_pos (by omega),clone_ok _ (by simp [arL_length];omega),Option.bind_some]
 rfl
/-! tunnels -/
def mcastB (a:S_api_Addr):Bool:=rightB a && (if a.Size=4 then Int.fdiv (ar a.B 0) (2^(min (4:Int).toNat IntKind.u8.bits))==14 else a.Size==16 && ar a.B 0==255)
theorem mcast_ok (k:Nat) (a:S_api_Addr):addr_Multicast.f (k+20) a=some (mcastB a):=by
 unfold addr_Multicast.f mcastB
 rw [right_ok,Option.bind_some]
 cases rightB a
 ·rfl
 ·simp only [Bool.not_true,Bool.false_eq_true,if_false,Bool.true_and]
  by_cases h4:a.Size=4
  ·simp [h4]
  ·by_cases h16:a.Size=16
   ·simp [h16]
   ·simp [h4,h16]
def rightT (t:S_api_Tunnel):Bool :=
  rightB t.Root && (decide (0≤t.Label) && (decide (t.Label≤1048575) &&
  (if t.Kind=0 then IntKind.i64.wrap (t.Root.Size+(t.Id.length:Int))==0
   else if t.Kind=1 then t.Root.Size==4 && (t.Id.length:Int)==6
   else if t.Kind=2∨t.Kind=7 then decide (t.Root.Size > 0) && decide ((t.Id.length:Int)≤64)
   else if t.Kind=3∨t.Kind=4∨t.Kind=5 then isSz t.Id.length && ((t.Id.length:Int)==t.Root.Size && mcastB ⟨t.Id.length,arC 16 zeros t.Id⟩)
   else if t.Kind=6 then decide (t.Root.Size > 0) && (t.Id.length:Int)==0
   else false)))
theorem iteB (p q:Bool):(if p=true then some q else some false)=some (p && q):=by cases p<;>rfl
theorem pright_ok (k:Nat) (t:S_api_Tunnel):pmsi_Right.f (k+20) t=some (rightT t):=by
 unfold pmsi_Right.f rightT
 rw [right_ok,Option.bind_some]
 cases rightB t.Root
 ·rfl
 ·simp only [Bool.not_true,Bool.false_eq_true,if_false,Bool.true_and]
  by_cases hl:t.Label < 0
  ·have:¬ 0≤t.Label:=by omega
   simp [hl,this]
  ·have hl':0≤t.Label:=by omega
   by_cases hm:t.Label > 1048575
   ·have:¬ t.Label≤1048575:=by omega
    simp [hl,hl',hm,this]
   ·have hm':t.Label≤1048575:=by omega
    simp only [hl,hl',hm,hm',decide_false,decide_true,Bool.false_eq_true,if_false,Option.bind_some,Bool.true_and]
    by_cases k0:t.Kind=0
    ·simp [k0]
    by_cases k1:t.Kind=1
    ·rw [iteB];simp [k1]
    by_cases k27:t.Kind=2∨t.Kind=7
    ·rw [iteB,iteB];rcases k27 with h | h<;>simp [h]
    by_cases k345:t.Kind=3∨t.Kind=4∨t.Kind=5
    ·rw [of_ok]
     have e2:¬ t.Kind=2:=by omega
     have e7:¬ t.Kind=7:=by omega
     simp only [k0,k1,k27,k345,if_true,if_false,e2,e7,beq_iff_eq,Bool.false_eq_true,Option.bind_some,beq_eq_false_iff_ne.2 e2,beq_eq_false_iff_ne.2 e7]
     have e:(if (t.Kind==3)=true then some (t.Kind==3) else if (t.Kind==4)=true then some (t.Kind==4) else some (t.Kind==5))=some true:=by
      rcases k345 with h | h | h<;>simp [h]
     simp only [beq_iff_eq] at e
     rw [e,Option.bind_some,if_pos rfl]
     cases hz:isSz (t.Id.length:Int)
     ·simp
     ·simp only [if_true,mcast_ok]
      by_cases hs:(t.Id.length:Int)=t.Root.Size
      ·simp [hs]
      ·simp [hs]
    ·have h2:¬ t.Kind=2:=by omega
     have h7:¬ t.Kind=7:=by omega
     have h3:¬ t.Kind=3:=by omega
     have h4:¬ t.Kind=4:=by omega
     have h5:¬ t.Kind=5:=by omega
     by_cases k6:t.Kind=6
     ·rw [iteB,iteB,iteB];simp [k6]
     ·simp [k0,k1,h2,h7,h3,h4,h5,k6]
theorem right_cases (t:S_api_Tunnel) (h:rightT t=true) (hI:t.Id.length≤140737488351232):rightB t.Root=true∧0≤t.Label∧t.Label≤1048575 ∧
    ((t.Kind=0∧t.Root.Size=0∧t.Id=[])∨(t.Kind=1∧t.Root.Size=4∧t.Id.length=6)∨((t.Kind=2∨t.Kind=7)∧0 < t.Root.Size∧t.Id.length≤64) ∨
     ((t.Kind=3∨t.Kind=4∨t.Kind=5)∧(t.Id.length:Int)=t.Root.Size)∨(t.Kind=6∧t.Id=[])):=by
  unfold rightT at h
  simp only [Bool.and_eq_true,decide_eq_true_eq] at h
  obtain ⟨h1,h2,h3,h4⟩:=h
  have hs:t.Root.Size=0∨t.Root.Size=4∨t.Root.Size=16:=isSz_or (by unfold rightB at h1;simp only [Bool.and_eq_true] at h1;exact h1.1)
  refine ⟨h1,h2,h3,?_⟩
  split at h4
  · rename_i hk
    rw [w64 _ (by omega)] at h4
    have h5:t.Root.Size+(t.Id.length:Int)=0:=by simpa using h4
    exact .inl ⟨hk,by omega,List.eq_nil_of_length_eq_zero (by omega)⟩
  · split at h4
    · rename_i hk
      simp only [Bool.and_eq_true,beq_iff_eq] at h4
      exact .inr (.inl ⟨hk,h4.1,by omega⟩)
    · split at h4
      · rename_i hk
        simp only [Bool.and_eq_true,decide_eq_true_eq] at h4
        exact .inr (.inr (.inl ⟨hk,h4.1,by omega⟩))
      · split at h4
        · rename_i hk
          simp only [Bool.and_eq_true,beq_iff_eq] at h4
          exact .inr (.inr (.inr (.inl ⟨hk,h4.2.1⟩)))
        · split at h4
          · rename_i hk
            simp only [Bool.and_eq_true,beq_iff_eq] at h4
            exact .inr (.inr (.inr (.inr ⟨hk,List.eq_nil_of_length_eq_zero (by omega)⟩)))
          · cases h4
def famL (a:S_api_Addr):Int:=if a.Size=4 then 1 else 2
def identL (t:S_api_Tunnel):List Int :=
 if t.Kind=1 then ((t.Id.take 4++[0,0])++t.Id.drop 4)++rootL t.Root
 else if t.Kind=7 then (([7,0,famL t.Root,IntKind.u8.wrap t.Root.Size]++rootL t.Root)++putL t.Id.length 2)++t.Id
 else if t.Kind=2 then (([6,0,famL t.Root,IntKind.u8.wrap t.Root.Size]++rootL t.Root)++putL t.Id.length 2)++t.Id
 else rootL t.Root++t.Id
theorem fam_ok (a:S_api_Addr):pmsi_family.f a=some (famL a):=by
 unfold pmsi_family.f famL
 by_cases h:a.Size=4<;>simp [h]
theorem rootL_le (a:S_api_Addr):(rootL a).length≤16:=by unfold rootL;rw [List.length_take,arL_length];omega
theorem ident_ok (k:Nat) (t:S_api_Tunnel) (h:rightT t=true) (hI:t.Id.length≤140737488351232):pmsi_identifier.f (k+20) t=some (identL t):=by
 obtain ⟨h1,h2,h3,h4⟩:=right_cases t h hI
 have hr:=rootL_le t.Root
 unfold pmsi_identifier.f identL
 rw [addrbytes_ok k _ h1,Option.bind_some]
 by_cases k1:t.Kind=1
 ·have hid:t.Id.length=6:=by
   rcases h4 with h4 | h4 | h4 | h4 | h4<;>omega
  have e1:t.Id.take (Int.toNat (t.Id.length:Int))=t.Id:=by simp
  rw [if_pos (by simpa using k1),if_pos k1,if_pos (by omega),clone_ok _ (by simp<;>omega),Option.bind_some,if_pos (by simp<;>omega),if_pos (by omega),e1,if_pos (by simp<;>omega),if_pos (by simp<;>omega)]
  rfl
 ·by_cases k7:t.Kind=7
  ·have hid:t.Id.length≤64:=by rcases h4 with h4 | h4 | h4 | h4 | h4<;>omega
   have hp:=putL_length (t.Id.length:Int) 2 (by omega) (by omega)
   rw [if_neg (by simpa using k1),if_pos (by simpa using k7),if_neg k1,if_pos k7,fam_ok,Option.bind_some,if_pos (by simp<;>omega),
    show (2:Int)=((2:Nat):Int) from rfl,put_ok (k+15) _ _ 2 (by simp<;>omega) (by omega) (by omega) (by omega) (by omega),Option.bind_some,if_pos (by simp [hp];omega)]
  ·by_cases k2:t.Kind=2
   ·have hid:t.Id.length≤64:=by rcases h4 with h4 | h4 | h4 | h4 | h4<;>omega
    have hp:=putL_length (t.Id.length:Int) 2 (by omega) (by omega)
    rw [if_neg (by simpa using k1),if_neg (by simpa using k7),if_pos (by simpa using k2),if_neg k1,if_neg k7,if_pos k2,fam_ok,Option.bind_some,if_pos (by simp<;>omega),
     show (2:Int)=((2:Nat):Int) from rfl,put_ok (k+15) _ _ 2 (by simp<;>omega) (by omega) (by omega) (by omega) (by omega),Option.bind_some,if_pos (by simp [hp];omega)]
   ·rw [if_neg (by simpa using k1),if_neg (by simpa using k7),if_neg (by simpa using k2),if_neg k1,if_neg k7,if_neg k2,if_pos (by omega)]
def leafL (b:Bool):Int:=if b=true then 1 else 0
def bytesT (t:S_api_Tunnel):List Int:=([leafL t.Leaf,IntKind.u8.wrap t.Kind]++putL (16*t.Label) 3)++identL t
theorem identL_le (t:S_api_Tunnel) (h:rightT t=true) (hI:t.Id.length≤140737488351232):(identL t).length≤t.Id.length+22:=by
 have hr:=rootL_le t.Root
 have hp:∀ n:Int,(putL n 2).length=2:=fun n=>rfl
 unfold identL
 split
 ·simp;omega
 ·split
  ·simp [hp];omega
  ·split
   ·simp [hp];omega
   ·simp;omega
theorem label_ok (k:Nat) (l:Int) (h0:0≤l) (h1:l≤1048575):label_Bytes.f (k+20) l false=some (putL (16*l) 3,0):=by
 unfold label_Bytes.f
 have e:IntKind.i64.wrap (l*2^(min (4:Int).toNat IntKind.i64.bits))=16*l:=by
  have:(2:Int)^(min (4:Int).toNat IntKind.i64.bits)=16:=rfl
  rw [this,w64 _ (by omega)];omega
 rw [if_neg (by simp<;>omega),e]
 simp only [Bool.false_eq_true,if_false,Option.bind_some]
 rw [show (3:Int)=((3:Nat):Int) from rfl,put_ok (k+15) [] _ 3 (by simp) (by omega) (by omega) (by omega) (by omega)]
 rfl
theorem pbytes_ok (k:Nat) (t:S_api_Tunnel) (hI:t.Id.length≤140737488351232):pmsi_Bytes.f (k+20) t=some (if rightT t=true then (bytesT t,0) else ([],1)):=by
 unfold pmsi_Bytes.f
 rw [pright_ok,Option.bind_some]
 cases h:rightT t
 ·simp
 ·obtain ⟨h1,h2,h3,_⟩:=right_cases t h hI
  have hl:=identL_le t h hI
  have hp:(putL (16*t.Label) 3).length=3:=rfl
  simp only [Bool.not_true,Bool.false_eq_true,if_false,if_true]
  have e:(if t.Leaf=true then some ((1:Int):Int) else some ((0:Int):Int))=some (leafL t.Leaf):=by unfold leafL;split<;>rfl
  rw [e,Option.bind_some,label_ok k _ h2 h3,Option.bind_some,if_pos (by simp [hp]),ident_ok k t h hI,Option.bind_some,if_pos (by simp [hp];omega)]
  rfl
theorem equal_f (a b:List Int):bytes_Equal.f a b=some (b2s a==b2s b):=by unfold bytes_Equal.f;rw [bstr_toList,bstr_toList]
theorem same_ok (a b:S_api_Tunnel):pmsi_Same.f a b=some (a.Kind==b.Kind && ((a.Root.Size==b.Root.Size) && ((eqA 16 a.Root.B b.Root.B) && true)) && (b2s a.Id==b2s b.Id)):=by
 unfold pmsi_Same.f
 rw [equal_f]
 cases (a.Kind==b.Kind)<;>cases ((a.Root.Size==b.Root.Size) && ((eqA 16 a.Root.B b.Root.B) && true))<;>simp
def routerB (a:S_api_Addr):Bool:=(a.Size==4) && rightB a
theorem router_ok (k:Nat) (a:S_api_Addr):attr_router.f (k+20) a=some (routerB a):=by
 unfold attr_router.f routerB
 rw [right_ok]
 cases a.Size==4<;>simp
theorem right1_ok (k:Nat) (a:S_api_Addr):attr_Right_1.f (k+20) a=some (!routerB a):=by
 unfold attr_Right_1.f
 rw [router_ok,Option.bind_some]
theorem right2_ok (k:Nat) (t:S_api_Tunnel):attr_Right_2.f (k+20) t=some (!rightT t):=by
 unfold attr_Right_2.f
 rw [pright_ok,Option.bind_some]
def num32 (n:Int):Bool:=!(if (decide (n < (0:Int)))=true then true else (decide (n > (4294967295:Int))))
theorem wrong1_ok (n:Int):attr_wrong_1.f n=some (!num32 n):=by unfold attr_wrong_1.f num32;rw [Bool.not_not]
theorem cl_l0 (k:Nat) (l:List S_api_Addr) (hl:l.length≤140737488351232):∀ (m kk i:Nat),i+m=l.length→m < kk→∃ r,api_Addr_65_attr_Right_1.l0 (k+20) l kk (i:Int)=some r∧((r=.inr ()∧∀ x∈l.drop i,routerB x=true)∨∃ j:Int,r=.inl j∧0≤j)
 | 0,kk+1,i,h,_=>⟨.inr (),by rw [api_Addr_65_attr_Right_1.l0,if_neg (by simp;omega)],.inl ⟨rfl,by rw [List.drop_of_length_le (by omega)];exact fun _ h=>nomatch h⟩⟩
 | m+1,kk+1,i,h,hk=>by
  have hi:i < l.length:=by omega
  have e:IntKind.i64.wrap ((i:Int)+1)=((i+1:Nat):Int):=by rw [w64 _ (by omega)];omega
  have er:rd l (i:Int)=l[i]:=by simp [rd,List.getD,hi]
  rw [api_Addr_65_attr_Right_1.l0,if_pos (by simp;omega),if_pos ⟨by omega,by omega⟩,er,e,right1_ok,Option.bind_some,List.drop_eq_getElem_cons hi]
  by_cases hp:routerB l[i]=true
  ·rw [if_neg (by simp [hp])]
   obtain ⟨r,h1,h2⟩:=cl_l0 k l hl m kk (i+1) (by omega) (by omega)
   refine ⟨r,h1,h2.imp (fun ⟨a,b⟩=>⟨a,fun x hx=>?_⟩) id⟩
   rcases List.mem_cons.1 hx with rfl | hx
   ·exact hp
   ·exact b x hx
  ·rw [if_pos (by simp [hp])]
   exact ⟨.inl (i:Int),rfl,.inr ⟨(i:Int),rfl,by omega⟩⟩
theorem cl_f (k K:Nat) (l:List S_api_Addr) (hl:l.length≤140737488351232) (hK:l.length < K) (he:K=k+20):∃ b,api_Addr_attr_Right_1.f (k+20) l=some b∧(b=false→∀ x∈l,routerB x=true):=by
 subst he
 obtain ⟨r,h1,h2⟩:=cl_l0 k l hl l.length (k+20) 0 (by omega) hK
 unfold api_Addr_attr_Right_1.f api_Addr_65_attr_Right_1.f
 rw [show api_Addr_65_attr_Right_1.l0 (k+20) l (k+20) 0=_ from h1,Option.bind_some]
 rcases h2 with ⟨rfl,h2⟩ | ⟨j,rfl,h2⟩
 ·exact ⟨false,rfl,fun _=>by simpa using h2⟩
 ·exact ⟨true,by simp [h2],fun h=>nomatch h⟩
theorem tn_l0 (k:Nat) (l:List S_api_Tunnel) (hl:l.length≤140737488351232):∀ (m kk i:Nat),i+m=l.length→m < kk→∃ r,api_Tunnel_66_attr_Right_2.l0 (k+20) l kk (i:Int)=some r∧((r=.inr ()∧∀ x∈l.drop i,rightT x=true)∨∃ j:Int,r=.inl j∧0≤j)
 | 0,kk+1,i,h,_=>⟨.inr (),by rw [api_Tunnel_66_attr_Right_2.l0,if_neg (by simp;omega)],.inl ⟨rfl,by rw [List.drop_of_length_le (by omega)];exact fun _ h=>nomatch h⟩⟩
 | m+1,kk+1,i,h,hk=>by
  have hi:i < l.length:=by omega
  have e:IntKind.i64.wrap ((i:Int)+1)=((i+1:Nat):Int):=by rw [w64 _ (by omega)];omega
  have er:rd l (i:Int)=l[i]:=by simp [rd,List.getD,hi]
  rw [api_Tunnel_66_attr_Right_2.l0,if_pos (by simp;omega),if_pos ⟨by omega,by omega⟩,er,e,right2_ok,Option.bind_some,List.drop_eq_getElem_cons hi]
  by_cases hp:rightT l[i]=true
  ·rw [if_neg (by simp [hp])]
   obtain ⟨r,h1,h2⟩:=tn_l0 k l hl m kk (i+1) (by omega) (by omega)
   refine ⟨r,h1,h2.imp (fun ⟨a,b⟩=>⟨a,fun x hx=>?_⟩) id⟩
   rcases List.mem_cons.1 hx with rfl | hx
   ·exact hp
   ·exact b x hx
  ·rw [if_pos (by simp [hp])]
   exact ⟨.inl (i:Int),rfl,.inr ⟨(i:Int),rfl,by omega⟩⟩
theorem tn_f (k K:Nat) (l:List S_api_Tunnel) (hl:l.length≤140737488351232) (hK:l.length < K) (he:K=k+20):∃ b,api_Tunnel_attr_Right_2.f (k+20) l=some b∧(b=false→∀ x∈l,rightT x=true):=by
 subst he
 obtain ⟨r,h1,h2⟩:=tn_l0 k l hl l.length (k+20) 0 (by omega) hK
 unfold api_Tunnel_attr_Right_2.f api_Tunnel_66_attr_Right_2.f
 rw [show api_Tunnel_66_attr_Right_2.l0 (k+20) l (k+20) 0=_ from h1,Option.bind_some]
 rcases h2 with ⟨rfl,h2⟩ | ⟨j,rfl,h2⟩
 ·exact ⟨false,rfl,fun _=>by simpa using h2⟩
 ·exact ⟨true,by simp [h2],fun h=>nomatch h⟩
theorem as_l0 (k:Nat) (l:List Int) (hl:l.length≤140737488351232):∀ (m kk i:Nat),i+m=l.length→m < kk→∃ r,slices_IndexFunc_int_int_attr_wrong_1.l0 l kk (i:Int)=some r∧((r=.inr ()∧∀ x∈l.drop i,num32 x=true)∨∃ j:Int,r=.inl j∧0≤j)
 | 0,kk+1,i,h,_=>⟨.inr (),by rw [slices_IndexFunc_int_int_attr_wrong_1.l0,if_neg (by simp;omega)],.inl ⟨rfl,by rw [List.drop_of_length_le (by omega)];exact fun _ h=>nomatch h⟩⟩
 | m+1,kk+1,i,h,hk=>by
  have hi:i < l.length:=by omega
  have e:IntKind.i64.wrap ((i:Int)+1)=((i+1:Nat):Int):=by rw [w64 _ (by omega)];omega
  have er:rd l (i:Int)=l[i]:=by simp [rd,List.getD,hi]
  rw [slices_IndexFunc_int_int_attr_wrong_1.l0,if_pos (by simp;omega),if_pos ⟨by omega,by omega⟩,er,e,wrong1_ok,Option.bind_some,List.drop_eq_getElem_cons hi]
  by_cases hp:num32 l[i]=true
  ·rw [if_neg (by simp [hp])]
   obtain ⟨r,h1,h2⟩:=as_l0 k l hl m kk (i+1) (by omega) (by omega)
   refine ⟨r,h1,h2.imp (fun ⟨a,b⟩=>⟨a,fun x hx=>?_⟩) id⟩
   rcases List.mem_cons.1 hx with rfl | hx
   ·exact hp
   ·exact b x hx
  ·rw [if_pos (by simp [hp])]
   exact ⟨.inl (i:Int),rfl,.inr ⟨(i:Int),rfl,by omega⟩⟩
theorem as_f (k K:Nat) (l:List Int) (hl:l.length≤140737488351232) (hK:l.length < K) (he:K=k+20):∃ b,slices_ContainsFunc_int_int_attr_wrong_1.f (k+20) l=some b∧(b=false→∀ x∈l,num32 x=true):=by
 subst he
 obtain ⟨r,h1,h2⟩:=as_l0 k l hl l.length (k+20) 0 (by omega) hK
 unfold slices_ContainsFunc_int_int_attr_wrong_1.f slices_IndexFunc_int_int_attr_wrong_1.f
 rw [show slices_IndexFunc_int_int_attr_wrong_1.l0 l (k+20) 0=_ from h1,Option.bind_some]
 rcases h2 with ⟨rfl,h2⟩ | ⟨j,rfl,h2⟩
 ·exact ⟨false,rfl,fun _=>by simpa using h2⟩
 ·exact ⟨true,by simp [h2],fun h=>nomatch h⟩
theorem num_tot (k:Nat) (n:Int):∃ v,attr_num.f (k+5) n=some v∧v.length≤4:=by
 unfold attr_num.f
 by_cases h:n < 0∨n ≥ 2^(8*4)
 ·rw [put_bad5 (k+5) [] n 4 (by omega) (by omega) h]
  exact ⟨[],rfl,by simp⟩
 ·rw [show (4:Int)=((4:Nat):Int) from rfl,put_ok k [] n 4 (by simp) (by omega) (by omega) (by omega) (by omega)]
  exact ⟨_,rfl,by simp [putL]⟩
theorem abytes_ok (k:Nat) (a:S_api_Addr):∃ v,addr_Bytes.f (k+20) a=some v∧v.length≤16∧(routerB a=true→v.length=4):=by
 unfold addr_Bytes.f
 rw [right_ok,Option.bind_some]
 cases hr:rightB a with
 | false=>exact ⟨[],by simp,by simp,fun h=>by unfold routerB at h;rw [hr] at h;simp at h⟩
 | true =>
  have hs:0≤a.Size∧a.Size≤16:=by
   unfold rightB isSz at hr
   simp at hr
   omega
  have h16:(arL 16 a.B).length=16:=arL_length _ _
  rw [if_neg (by simp),if_pos ⟨by omega,hs.1,hs.2⟩,clone_ok _ (by simp [h16];omega)]
  refine ⟨_,rfl,by simp [h16];omega,fun h=>?_⟩
  unfold routerB at h
  simp at h
  simp [h16,h.1]
theorem fw0 (x:S_api_Attrs) (hl:x.Path.length≤140737488351232):∀ (m kk i:Nat),i+m=x.Path.length→m < kk→∃ r,vinerylaw09_Few.l0 x kk (i:Int)=some r∧(r=.inl false∨(r=.inr ()∧∀ s∈x.Path.drop i,s.AS.length≤300))
 | 0,kk+1,i,h,_=>⟨.inr (),by rw [vinerylaw09_Few.l0,if_neg (by simp;omega)],.inr ⟨rfl,by rw [List.drop_of_length_le (by omega)];exact fun _ h=>nomatch h⟩⟩
 | m+1,kk+1,i,h,hk=>by
  have hi:i < x.Path.length:=by omega
  have e:IntKind.i64.wrap ((i:Int)+1)=((i+1:Nat):Int):=by rw [w64 _ (by omega)];omega
  have er:rd x.Path (i:Int)=x.Path[i]:=by simp [rd,List.getD,hi]
  rw [vinerylaw09_Few.l0,if_pos (by simp;omega),if_pos ⟨by omega,by omega⟩,er,e,List.drop_eq_getElem_cons hi]
  by_cases hp:(x.Path[i].AS.length:Int) > 300
  ·exact ⟨.inl false,by rw [if_pos (by simpa using hp)],.inl rfl⟩
  ·rw [if_neg (by simpa using hp)]
   obtain ⟨r,h1,h2⟩:=fw0 x hl m kk (i+1) (by omega) (by omega)
   refine ⟨r,h1,h2.imp id (fun ⟨a,b⟩=>⟨a,fun s hs=>?_⟩)⟩
   rcases List.mem_cons.1 hs with rfl | hs
   ·omega
   ·exact b s hs
theorem fw1 (x:S_api_Attrs) (hl:x.Tunnels.length≤140737488351232):∀ (m kk i:Nat),i+m=x.Tunnels.length→m < kk→∃ r,vinerylaw09_Few.l1 x kk (i:Int)=some r∧(r=.inl false∨(r=.inr ()∧∀ s∈x.Tunnels.drop i,s.Id.length≤1024))
 | 0,kk+1,i,h,_=>⟨.inr (),by rw [vinerylaw09_Few.l1,if_neg (by simp;omega)],.inr ⟨rfl,by rw [List.drop_of_length_le (by omega)];exact fun _ h=>nomatch h⟩⟩
 | m+1,kk+1,i,h,hk=>by
  have hi:i < x.Tunnels.length:=by omega
  have e:IntKind.i64.wrap ((i:Int)+1)=((i+1:Nat):Int):=by rw [w64 _ (by omega)];omega
  have er:rd x.Tunnels (i:Int)=x.Tunnels[i]:=by simp [rd,List.getD,hi]
  rw [vinerylaw09_Few.l1,if_pos (by simp;omega),if_pos ⟨by omega,by omega⟩,er,e,List.drop_eq_getElem_cons hi]
  by_cases hp:(x.Tunnels[i].Id.length:Int) > 1024
  ·exact ⟨.inl false,by rw [if_pos (by simpa using hp)],.inl rfl⟩
  ·rw [if_neg (by simpa using hp)]
   obtain ⟨r,h1,h2⟩:=fw1 x hl m kk (i+1) (by omega) (by omega)
   refine ⟨r,h1,h2.imp id (fun ⟨a,b⟩=>⟨a,fun s hs=>?_⟩)⟩
   rcases List.mem_cons.1 hs with rfl | hs
   ·omega
   ·exact b s hs
theorem few_ok (k:Nat) (x:S_api_Attrs) (h1:x.Path.length≤140737488351232) (h2:x.Tunnels.length≤140737488351232) (hk:x.Path.length < k∧x.Tunnels.length < k):∃ b,vinerylaw09_Few.f k x=some b∧(b=true→x.Path.length < 20∧(∀ s∈x.Path,s.AS.length≤300)∧x.Clusters.length < 100∧x.Exts.length < 200∧x.Tunnels.length < 10∧∀ t∈x.Tunnels,t.Id.length≤1024):=by
 obtain ⟨r,p1,p2⟩:=fw0 x h1 x.Path.length k 0 (by omega) hk.1
 obtain ⟨q,q1,q2⟩:=fw1 x h2 x.Tunnels.length k 0 (by omega) hk.2
 unfold vinerylaw09_Few.f
 rw [show vinerylaw09_Few.l0 x k 0=_ from p1,Option.bind_some]
 rcases p2 with rfl | ⟨rfl,p2⟩
 ·exact ⟨false,rfl,fun h=>nomatch h⟩
 rw [show vinerylaw09_Few.l1 x k 0=_ from q1]
 simp only [Option.bind_some]
 rcases q2 with rfl | ⟨rfl,q2⟩
 ·exact ⟨false,rfl,fun h=>nomatch h⟩
 by_cases a1:(x.Path.length:Int) < 20
 ·by_cases a2:(x.Clusters.length:Int) < 100
  ·by_cases a3:(x.Exts.length:Int) < 200
   ·by_cases a4:(x.Tunnels.length:Int) < 10
    ·exact ⟨true,by simp [a1,a2,a3,a4],fun _=>⟨by omega,by simpa using p2,by omega,by omega,by omega,by simpa using q2⟩⟩
    ·exact ⟨false,by simp [a1,a2,a3,a4],fun h=>nomatch h⟩
   ·exact ⟨false,by simp [a1,a2,a3],fun h=>nomatch h⟩
  ·exact ⟨false,by simp [a1,a2],fun h=>nomatch h⟩
 ·exact ⟨false,by simp [a1],fun h=>nomatch h⟩
theorem outp_len2 (l:List S_api_Raw) (is:Bool) (f k:Int) (v:List Int):(outp l is f k v).length≤l.length+1:=by
 unfold outp;split<;>simp
def L7 (x:S_api_Attrs) (pb mb rb ob d eb:List Int) (c:Bool):List S_api_Raw :=
 outp (outp (outp (outp (outp (outp (outp [] true 64 1 [IntKind.u8.wrap x.Origin]) true 64 2 pb) (decide (x.Med ≥ (0:Int))) 128 4 mb) (decide (x.Pref ≥ (0:Int))) 64 5 rb) (decide (x.Originator.Size > (0:Int))) 128 9 ob) c 128 10 d) (decide ((x.Exts.length:Int) > (0:Int))) 192 16 eb
theorem L7_len (x:S_api_Attrs) (pb mb rb ob d eb:List Int) (c:Bool):(L7 x pb mb rb ob d eb c).length≤7:=by
 unfold L7
 refine Nat.le_trans (outp_len2 _ _ _ _ _) (Nat.succ_le_succ (Nat.le_trans (outp_len2 _ _ _ _ _) (Nat.succ_le_succ (Nat.le_trans (outp_len2 _ _ _ _ _) (Nat.succ_le_succ (Nat.le_trans (outp_len2 _ _ _ _ _) (Nat.succ_le_succ (Nat.le_trans (outp_len2 _ _ _ _ _) (Nat.succ_le_succ (Nat.le_trans (outp_len2 _ _ _ _ _) (Nat.succ_le_succ (outp_len2 _ _ _ _ _))))))))))))
theorem inc64 (i:Nat) (h:i≤100000):IntKind.i64.wrap ((i:Int)+1)=((i+1:Nat):Int):=by rw [w64 _ (by omega)];omega
theorem rdx {α:Type} [Inhabited α] (l:List α) (i:Nat) (hi:i < l.length):rd l (i:Int)=l[i]:=by simp [rd,List.getD,hi]
def nB (n:Int):Bool:=!num32 n
theorem xas_l0 (k:Nat) (l:List Int) (hl:l.length≤100000):∀ (m kk i:Nat),i+m=l.length→m < kk→∃ r,slices_IndexFunc_int_int_attr_wrong_1.l0 l kk (i:Int)=some r∧((r=.inr ()∧(l.drop i).any nB=false)∨((∃ j:Int,r=.inl j∧0≤j)∧(l.drop i).any nB=true))
 | 0,kk+1,i,h,_=>⟨.inr (),by rw [slices_IndexFunc_int_int_attr_wrong_1.l0,if_neg (by simp;omega)],.inl ⟨rfl,by rw [List.drop_of_length_le (by omega)];rfl⟩⟩
 | m+1,kk+1,i,h,hk=>by
  have hi:i < l.length:=by omega
  rw [slices_IndexFunc_int_int_attr_wrong_1.l0,if_pos (by simp;omega),if_pos ⟨by omega,by omega⟩,inc64 i (by omega),rdx l i hi,show attr_wrong_1.f l[i]=some (nB l[i]) from wrong1_ok _,Option.bind_some,List.drop_eq_getElem_cons hi,List.any_cons]
  cases hp:nB l[i] with
  | true=>exact ⟨_,by rw [if_pos (by simp)],.inr ⟨by first | exact ⟨_,rfl,by omega⟩ | rfl,by simp⟩⟩
  | false =>
   rw [if_neg (by simp)]
   obtain ⟨r,h1,h2⟩:=xas_l0 k l hl m kk (i+1) (by omega) (by omega)
   exact ⟨r,h1,by simpa using h2⟩
theorem xas_f (k:Nat) (l:List Int) (hl:l.length≤1000) (hk:2000≤k):slices_ContainsFunc_int_int_attr_wrong_1.f k l=some (l.any nB):=by
 obtain ⟨r,h1,h2⟩:=xas_l0 k l (by omega) l.length k 0 (by omega) (by omega)
 unfold slices_ContainsFunc_int_int_attr_wrong_1.f slices_IndexFunc_int_int_attr_wrong_1.f
 rw [show slices_IndexFunc_int_int_attr_wrong_1.l0 l k 0=_ from h1,Option.bind_some]
 rcases h2 with ⟨rfl,h2⟩ | ⟨⟨j,rfl,h3⟩,h2⟩
 ·rw [List.drop_zero] at h2;rw [h2];rfl
 ·rw [List.drop_zero] at h2;rw [h2];simp [h3]
def wrongB (s:S_api_Segment):Bool:=decide ((s.AS.length:Int) < 1) || (decide ((s.AS.length:Int) > 255) || s.AS.any nB)
theorem xwrong (k:Nat) (s:S_api_Segment) (h:s.AS.length≤1000) (hk:2000≤k):attr_wrong.f k s=some (wrongB s):=by
 unfold attr_wrong.f wrongB
 rw [xas_f k s.AS h hk]
 by_cases h2:(s.AS.length:Int) < 1
 ·simp [h2]
 ·by_cases h3:(s.AS.length:Int) > 255
  ·simp [h2,h3]
  ·simp [h2,h3]
theorem xsg_l0 (k:Nat) (l:List S_api_Segment) (hl:l.length≤100000) (hs:∀ s∈l,s.AS.length≤1000) (hk2:2000≤k):∀ (m kk i:Nat),i+m=l.length→m < kk→∃ r,api_Segment_85_attr_wrong.l0 k l kk (i:Int)=some r∧((r=.inr ()∧(l.drop i).any wrongB=false)∨((∃ j:Int,r=.inl j∧0≤j)∧(l.drop i).any wrongB=true))
 | 0,kk+1,i,h,_=>⟨.inr (),by rw [api_Segment_85_attr_wrong.l0,if_neg (by simp;omega)],.inl ⟨rfl,by rw [List.drop_of_length_le (by omega)];rfl⟩⟩
 | m+1,kk+1,i,h,hk=>by
  have hi:i < l.length:=by omega
  rw [api_Segment_85_attr_wrong.l0,if_pos (by simp;omega),if_pos ⟨by omega,by omega⟩,inc64 i (by omega),rdx l i hi,xwrong k l[i] (hs _ (List.getElem_mem hi)) hk2,Option.bind_some,List.drop_eq_getElem_cons hi,List.any_cons]
  cases hp:wrongB l[i] with
  | true=>exact ⟨_,by rw [if_pos (by simp)],.inr ⟨by first | exact ⟨_,rfl,by omega⟩ | rfl,by simp⟩⟩
  | false =>
   rw [if_neg (by simp)]
   obtain ⟨r,h1,h2⟩:=xsg_l0 k l hl hs hk2 m kk (i+1) (by omega) (by omega)
   exact ⟨r,h1,by simpa using h2⟩
theorem xpath (k:Nat) (l:List S_api_Segment) (hl:l.length≤1000) (hs:∀ s∈l,s.AS.length≤1000) (hk:2000≤k):attr_rightPath.f k l=some (decide ((l.length:Int)≤16) && !l.any wrongB):=by
 obtain ⟨r,h1,h2⟩:=xsg_l0 k l (by omega) hs hk l.length k 0 (by omega) (by omega)
 unfold attr_rightPath.f api_Segment_69_attr_wrong.f api_Segment_85_attr_wrong.f
 rw [show api_Segment_85_attr_wrong.l0 k l k 0=_ from h1,Option.bind_some]
 by_cases h16:(l.length:Int)≤16
 ·rcases h2 with ⟨rfl,h2⟩ | ⟨⟨j,rfl,h3⟩,h2⟩
  ·rw [List.drop_zero] at h2;rw [h2];simp [h16]
  ·rw [List.drop_zero] at h2;rw [h2];simp [h16,h3]
 ·simp [h16]
def nr (a:S_api_Addr):Bool:=!routerB a
def nt (t:S_api_Tunnel):Bool:=!rightT t
theorem xcl_l0 (k:Nat) (l:List S_api_Addr) (hl:l.length≤100000):∀ (m kk i:Nat),i+m=l.length→m < kk→∃ r,api_Addr_65_attr_Right_1.l0 (k+20) l kk (i:Int)=some r∧((r=.inr ()∧(l.drop i).any nr=false)∨((∃ j:Int,r=.inl j∧0≤j)∧(l.drop i).any nr=true))
 | 0,kk+1,i,h,_=>⟨.inr (),by rw [api_Addr_65_attr_Right_1.l0,if_neg (by simp;omega)],.inl ⟨rfl,by rw [List.drop_of_length_le (by omega)];rfl⟩⟩
 | m+1,kk+1,i,h,hk=>by
  have hi:i < l.length:=by omega
  rw [api_Addr_65_attr_Right_1.l0,if_pos (by simp;omega),if_pos ⟨by omega,by omega⟩,inc64 i (by omega),rdx l i hi,show attr_Right_1.f (k+20) l[i]=some (nr l[i]) from right1_ok k _,Option.bind_some,List.drop_eq_getElem_cons hi,List.any_cons]
  cases hp:nr l[i] with
  | true=>exact ⟨_,by rw [if_pos (by simp)],.inr ⟨by first | exact ⟨_,rfl,by omega⟩ | rfl,by simp⟩⟩
  | false =>
   rw [if_neg (by simp)]
   obtain ⟨r,h1,h2⟩:=xcl_l0 k l hl m kk (i+1) (by omega) (by omega)
   exact ⟨r,h1,by simpa using h2⟩
theorem xtn_l0 (k:Nat) (l:List S_api_Tunnel) (hl:l.length≤100000):∀ (m kk i:Nat),i+m=l.length→m < kk→∃ r,api_Tunnel_66_attr_Right_2.l0 (k+20) l kk (i:Int)=some r∧((r=.inr ()∧(l.drop i).any nt=false)∨((∃ j:Int,r=.inl j∧0≤j)∧(l.drop i).any nt=true))
 | 0,kk+1,i,h,_=>⟨.inr (),by rw [api_Tunnel_66_attr_Right_2.l0,if_neg (by simp;omega)],.inl ⟨rfl,by rw [List.drop_of_length_le (by omega)];rfl⟩⟩
 | m+1,kk+1,i,h,hk=>by
  have hi:i < l.length:=by omega
  rw [api_Tunnel_66_attr_Right_2.l0,if_pos (by simp;omega),if_pos ⟨by omega,by omega⟩,inc64 i (by omega),rdx l i hi,show attr_Right_2.f (k+20) l[i]=some (nt l[i]) from right2_ok k _,Option.bind_some,List.drop_eq_getElem_cons hi,List.any_cons]
  cases hp:nt l[i] with
  | true=>exact ⟨_,by rw [if_pos (by simp)],.inr ⟨by first | exact ⟨_,rfl,by omega⟩ | rfl,by simp⟩⟩
  | false =>
   rw [if_neg (by simp)]
   obtain ⟨r,h1,h2⟩:=xtn_l0 k l hl m kk (i+1) (by omega) (by omega)
   exact ⟨r,h1,by simpa using h2⟩
theorem xcl_f (k:Nat) (l:List S_api_Addr) (hl:l.length≤1000) (hk:2000≤k):api_Addr_attr_Right_1.f (k+20) l=some (l.any nr):=by
 obtain ⟨r,h1,h2⟩:=xcl_l0 k l (by omega) l.length (k+20) 0 (by omega) (by omega)
 unfold api_Addr_attr_Right_1.f api_Addr_65_attr_Right_1.f
 rw [show api_Addr_65_attr_Right_1.l0 (k+20) l (k+20) 0=_ from h1,Option.bind_some]
 rcases h2 with ⟨rfl,h2⟩ | ⟨⟨j,rfl,h3⟩,h2⟩
 ·rw [List.drop_zero] at h2;rw [h2];rfl
 ·rw [List.drop_zero] at h2;rw [h2];simp [h3]
theorem xtn_f (k:Nat) (l:List S_api_Tunnel) (hl:l.length≤1000) (hk:2000≤k):api_Tunnel_attr_Right_2.f (k+20) l=some (l.any nt):=by
 obtain ⟨r,h1,h2⟩:=xtn_l0 k l (by omega) l.length (k+20) 0 (by omega) (by omega)
 unfold api_Tunnel_attr_Right_2.f api_Tunnel_66_attr_Right_2.f
 rw [show api_Tunnel_66_attr_Right_2.l0 (k+20) l (k+20) 0=_ from h1,Option.bind_some]
 rcases h2 with ⟨rfl,h2⟩ | ⟨⟨j,rfl,h3⟩,h2⟩
 ·rw [List.drop_zero] at h2;rw [h2];rfl
 ·rw [List.drop_zero] at h2;rw [h2];simp [h3]
def zA (a:S_api_Addr):Bool:=(a.Size==(0:Int)) && ((eqA 16 a.B (List.replicate 16 (0:Int))) && true)
def rightAB (x:S_api_Attrs):Bool:=(decide (0≤x.Origin∧x.Origin≤2∧-1≤x.Med∧x.Med≤4294967295∧-1≤x.Pref∧x.Pref≤4294967295) && (zA x.Originator || routerB x.Originator)) &&
 (decide ((x.Clusters.length:Int)≤32∧(x.Exts.length:Int)≤64∧(x.Tunnels.length:Int)≤1) && (!x.Clusters.any nr && (!x.Tunnels.any nt && (decide ((x.Path.length:Int)≤16) && !x.Path.any wrongB))))
theorem xright (k:Nat) (x:S_api_Attrs) (h1:x.Path.length≤1000) (h2:∀ s∈x.Path,s.AS.length≤1000) (h3:x.Clusters.length≤1000) (h4:x.Tunnels.length≤1000) (hk:2000≤k):attr_Right.f (k+20) x=some (rightAB x):=by
 unfold attr_Right.f rightAB
 rw [router_ok,xpath (k+20) x.Path h1 h2 (by omega),xcl_f k x.Clusters h3 hk,xtn_f k x.Tunnels h4 hk]
 simp only [Option.bind_some]
 by_cases a1:x.Origin < 0
 ·rw [decide_eq_false (p:=0≤x.Origin∧_) (by omega)];simp [a1]
 by_cases a2:x.Origin > 2
 ·rw [decide_eq_false (p:=0≤x.Origin∧_) (by omega)];simp [a1,a2]
 by_cases a3:x.Med < -1
 ·rw [decide_eq_false (p:=0≤x.Origin∧_) (by omega)];simp [a1,a2,a3]
 by_cases a4:x.Med > 4294967295
 ·rw [decide_eq_false (p:=0≤x.Origin∧_) (by omega)];simp [a1,a2,a3,a4]
 by_cases a5:x.Pref < -1
 ·rw [decide_eq_false (p:=0≤x.Origin∧_) (by omega)];simp [a1,a2,a3,a4,a5]
 by_cases a6:x.Pref > 4294967295
 ·rw [decide_eq_false (p:=0≤x.Origin∧_) (by omega)];simp [a1,a2,a3,a4,a5,a6]
 rw [decide_eq_true (p:=0≤x.Origin∧_) (by omega)]
 simp only [a1,a2,a3,a4,a5,a6,decide_false,Bool.false_eq_true,if_false,Option.bind_some,Bool.true_and]
 rw [show ((x.Originator.Size==(0:Int)) && ((eqA 16 x.Originator.B (List.replicate 16 (0:Int))) && true))=zA x.Originator from rfl]
 cases hz:zA x.Originator<;>cases hr:routerB x.Originator<;>simp only [Bool.not_true,Bool.not_false,Bool.false_eq_true,if_true,if_false,Option.bind_some,Bool.or_true,Bool.or_false,Bool.true_and,Bool.false_and,Bool.true_or,Bool.false_or]
 all_goals
  by_cases b1:(x.Clusters.length:Int) > 32
  ·rw [decide_eq_false (p:=(x.Clusters.length:Int)≤32∧_) (by omega)];simp [b1]
  by_cases b2:(x.Exts.length:Int) > 64
  ·rw [decide_eq_false (p:=(x.Clusters.length:Int)≤32∧_) (by omega)];simp [b1,b2]
  by_cases b3:(x.Tunnels.length:Int) > 1
  ·rw [decide_eq_false (p:=(x.Clusters.length:Int)≤32∧_) (by omega)];simp [b1,b2,b3]
  rw [decide_eq_true (p:=(x.Clusters.length:Int)≤32∧_) (by omega)]
  simp only [b1,b2,b3,decide_false,Bool.false_eq_true,if_false,Option.bind_some,Bool.true_and]
  cases x.Clusters.any nr<;>cases x.Tunnels.any nt<;>simp
theorem refbytes_step (n:Int) (hn:0≤n) (k:Nat) (x:List Int) (i:Nat) (hi:i≤4) (hx:x.length+1≤140737488355328) :
  vineryref01_Bytes.l0 n (k+1) x (i:Int)=vineryref01_Bytes.l0 n k (x++[(n / 2^(8*i)) % 256]) ((i:Int) - 1):=by
 rw [vineryref01_Bytes.l0]
 have e:IntKind.i64.wrap ((i:Int) - 1)=(i:Int) - 1:=by rw [IntKind.wrap_i64];omega
 have e2:IntKind.i64.wrap ((8:Int)*(i:Int))=((8*i:Nat):Int):=by rw [IntKind.wrap_i64];omega
 have hm:min (Int.toNat ((8*i:Nat):Int)) IntKind.i64.bits=8*i:=by
  show min (8*i) 64=_
  omega
 rw [if_pos (by simp),e2,if_pos (by omega),if_pos (by simp;omega),e,hm,fdiv_pos _ _ hn,IntKind.wrap_u8]
theorem refbytes_end (n:Int) (k:Nat) (x:List Int) (i:Int) (hi:i < 0):vineryref01_Bytes.l0 n (k+1) x i=some x:=by
 rw [vineryref01_Bytes.l0,if_neg (by simp;omega)]
theorem refbytes_ok (k:Nat) (n:Int) (s:Nat) (h1:1≤s) (h4:s≤4) (hn:0≤n):vineryref01_Bytes.f (k+5) n (s:Int)=some (putL n s):=by
 unfold vineryref01_Bytes.f
 have e2:IntKind.i64.wrap ((s:Int) - 1)=((s - 1:Nat):Int):=by rw [IntKind.wrap_i64];omega
 rw [e2]
 rcases (show s=1∨s=2∨s=3∨s=4 by omega) with rfl | rfl | rfl | rfl
 ·rw [refbytes_step n hn _ _ 0 (by omega) (by simp),refbytes_end _ _ _ _ (by omega)]
  simp [putL]
 ·rw [refbytes_step n hn _ _ 1 (by omega) (by simp),show ((1:Nat):Int) - 1=((0:Nat):Int) from rfl,refbytes_step n hn _ _ 0 (by omega) (by simp),refbytes_end _ _ _ _ (by omega)]
  simp [putL]
 ·rw [refbytes_step n hn _ _ 2 (by omega) (by simp),show ((2:Nat):Int) - 1=((1:Nat):Int) from rfl,refbytes_step n hn _ _ 1 (by omega) (by simp),show ((1:Nat):Int) - 1=((0:Nat):Int) from rfl,refbytes_step n hn _ _ 0 (by omega) (by simp),refbytes_end _ _ _ _ (by omega)]
  simp [putL]
 ·rw [refbytes_step n hn _ _ 3 (by omega) (by simp),show ((3:Nat):Int) - 1=((2:Nat):Int) from rfl,refbytes_step n hn _ _ 2 (by omega) (by simp),show ((2:Nat):Int) - 1=((1:Nat):Int) from rfl,refbytes_step n hn _ _ 1 (by omega) (by simp),show ((1:Nat):Int) - 1=((0:Nat):Int) from rfl,refbytes_step n hn _ _ 0 (by omega) (by simp),refbytes_end _ _ _ _ (by omega)]
  simp [putL]
theorem tail_all_step (x:List Int) (n:Nat) (hn:n < 16):((arL 16 x).drop n).all (·==0)=((ar x n==0) && ((arL 16 x).drop (n+1)).all (·==0)):=by
 have hl:n < (arL 16 x).length:=by rw [arL_length];exact hn
 rw [List.drop_eq_getElem_cons hl,List.all_cons]
 congr 2
 simp [arL]
theorem rright_l0 (a:S_api_Addr):∀ (m k n:Nat),n+m=16→m < k→(vineryref02_Right.l0 a k (n:Int)).bind (fun s14=>match s14 with | .inl r=>some r | .inr _=>some ((true:Bool)))=some (((arL 16 a.B).drop n).all (·==0))
 | 0,k,n,h,hk=>by
  obtain ⟨k,rfl⟩:∃ k',k=k'+1:=⟨k - 1,by omega⟩
  rw [vineryref02_Right.l0,if_neg (by simp;omega),List.drop_of_length_le (by rw [arL_length];omega)]
  rfl
 | m+1,k,n,h,hk=>by
  obtain ⟨k,rfl⟩:∃ k',k=k'+1:=⟨k - 1,by omega⟩
  have e:IntKind.i64.wrap ((n:Int)+1)=((n+1:Nat):Int):=by rw [w64 _ (by omega)];omega
  rw [vineryref02_Right.l0,if_pos (by simp;omega),if_pos (by omega),tail_all_step _ _ (by omega),Int.toNat_natCast,e]
  by_cases h0:ar a.B n=0
  ·rw [if_neg (by simp [h0]),rright_l0 a m k (n+1) (by omega) (by omega)]
   simp [h0]
  ·rw [if_pos (by simp [h0])]
   simp [h0]
theorem rright_ok (k:Nat) (a:S_api_Addr):vineryref02_Right.f (k+20) a=some (rightB a):=by
 unfold vineryref02_Right.f
 by_cases h:a.Size=0∨a.Size=4∨a.Size=16
 ·have hc:((if (a.Size != (0:Int))=true then (if (a.Size != (4:Int))=true then some (a.Size != (16:Int):Bool) else some (false:Bool)) else some (false:Bool)))=some false:=by
   rcases h with h | h | h<;>simp [h]
  have hs:isSz a.Size=true:=by unfold isSz;simp;omega
  rw [hc,Option.bind_some,if_neg (by simp)]
  have hn:((a.Size.toNat:Nat):Int)=a.Size:=by omega
  have:=rright_l0 a (16 - a.Size.toNat) (k+20) a.Size.toNat (by omega) (by omega)
  rw [hn] at this
  unfold rightB
  rw [hs,Bool.true_and]
  exact this
 ·have h0:¬ a.Size=0:=by omega
  have h4:¬ a.Size=4:=by omega
  have h16:¬ a.Size=16:=by omega
  unfold rightB isSz
  simp [h0,h4,h16]
theorem raddrbytes_ok (k:Nat) (a:S_api_Addr) (h:rightB a=true):vineryref02_Bytes.f (k+20) a=some (rootL a):=by
 unfold vineryref02_Bytes.f
 have hs:a.Size=0∨a.Size=4∨a.Size=16:=isSz_or (by unfold rightB at h;simp only [Bool.and_eq_true] at h;exact h.1)
 rw [rright_ok,h,Option.bind_some,if_neg (by simp),if_pos (by omega),if_pos (by simp [arL_length];omega)]
 rfl
/-! the document's answers -/
theorem ar_isB {x:List Int} (h:isB x) (i:Nat):0≤ar x i∧ar x i≤255:=by
 by_cases hi:i < x.length
 ·rw [ar_at x i hi];exact h _ (by simp)
 ·have:ar x i=0:=by simp [ar,List.getD,List.getElem?_eq_none (Nat.le_of_not_lt hi)]
  omega
theorem rmcast_ok (k:Nat) (a:S_api_Addr) (h:isB a.B):vineryref02_Multicast.f (k+20) a=some (mcastB a):=by
 unfold vineryref02_Multicast.f mcastB
 rw [rright_ok,Option.bind_some]
 have hb:=ar_isB h 0
 have hp:(2:Int)^(min (4:Int).toNat IntKind.u8.bits)=16:=rfl
 rw [hp,Int.fdiv_eq_ediv_of_nonneg _ (by omega)]
 cases rightB a
 ·rfl
 ·by_cases h4:a.Size=4
  ·have h16:¬ a.Size=16:=by omega
   by_cases g1:224≤ar a.B 0
   ·by_cases g2:ar a.B 0 < 240
    ·have:ar a.B 0 / 16=14:=by omega
     simp [h4,g1,g2,this]
    ·have:¬ ar a.B 0 / 16=14:=by omega
     simp [h4,g1,g2,this]
   ·have:¬ ar a.B 0 / 16=14:=by omega
    simp [h4,g1,this]
  ·by_cases h16:a.Size=16
   ·simp [h16]
   ·simp [h4,h16]
theorem arL_arC (n:Nat) (x xs:List Int):arL n (arC n x xs)=arC n x xs:=by
 have:=arL_self (arC n x xs)
 rw [arC_length] at this
 exact this
theorem arL_zeros:arL 16 zeros=zeros:=by decide
theorem arC_take_succ (b:List Int) (i:Nat) (hi:i < b.length) (h16:b.length≤16):(arL 16 (arC 16 zeros (b.take i))).set i (rd b (i:Int))=arC 16 zeros (b.take (i+1)):=by
 rw [arL_arC]
 apply List.ext_getElem
 ·rw [List.length_set,arC_length,arC_length]
 ·intro j h1 h2
  have hj:j < 16:=by rw [arC_length] at h2;exact h2
  have hl:(b.take i).length=i:=by simp;omega
  have hl':(b.take (i+1)).length=i+1:=by simp;omega
  rw [List.getElem_set]
  have e2:=ar_at _ j h2
  rw [ar_arC _ _ _ _ hj,hl'] at e2
  by_cases hij:i=j
  ·subst hij
   rw [if_pos rfl,← e2,if_pos (by omega),rd_at b i hi,ar_at _ _ (by omega)]
   simp
  ·rw [if_neg hij]
   have h3:j < (arC 16 zeros (b.take i)).length:=by rw [arC_length];exact hj
   have e1:=ar_at _ j h3
   rw [ar_arC _ _ _ _ hj,hl] at e1
   rw [← e1,← e2]
   by_cases hlt:j < i
   ·rw [if_pos hlt,if_pos (by omega),ar_at _ _ (by omega),ar_at _ _ (by omega)]
    simp
   ·rw [if_neg hlt,if_neg (by omega)]
theorem rof_l0 (b:List Int) (h16:b.length≤16):∀ (m k i:Nat),i+m=b.length→m < k→vineryref02_Of.l0 b k (i:Int) (arC 16 zeros (b.take i))=some (arC 16 zeros b)
 | 0,k,i,h,hk=>by
  obtain ⟨k,rfl⟩:∃ k',k=k'+1:=⟨k - 1,by omega⟩
  rw [vineryref02_Of.l0,if_neg (by simp;omega),List.take_of_length_le (by omega)]
 | m+1,k,i,h,hk=>by
  obtain ⟨k,rfl⟩:∃ k',k=k'+1:=⟨k - 1,by omega⟩
  have e:IntKind.i64.wrap ((i:Int)+1)=((i+1:Nat):Int):=by rw [w64 _ (by omega)];omega
  rw [vineryref02_Of.l0,if_pos (by simp;omega),if_pos (by omega),if_pos (by omega),Int.toNat_natCast,e,arC_take_succ b i (by omega) h16,rof_l0 b h16 m k (i+1) (by omega) (by omega)]
theorem arC_zeros_nil:arC 16 zeros []=zeros:=by decide
theorem rof_ok (k:Nat) (b:List Int):vineryref02_Of.f (k+20) b=some (if isSz b.length=true then (⟨b.length,arC 16 zeros b⟩,0) else (⟨0,zeros⟩,1)):=by
 unfold vineryref02_Of.f
 have hc:∀ n:Int,(if (if (n != (0:Int))=true then (n != (4:Int)) else false)=true then (n != (16:Int)) else false)=!isSz n:=by
  intro n
  unfold isSz
  cases h:(n==0)<;>cases h':(n==4)<;>cases h'':(n==16)<;>simp_all
 rw [hc]
 cases h:isSz (b.length:Int)
 ·rfl
 ·have hl:=isSz_or h
  rw [if_neg (by simp)]
  have:=rof_l0 b (by omega) b.length (k+20) 0 (by omega) (by omega)
  rw [List.take_zero,arC_zeros_nil] at this
  rw [show ((0:Nat):Int)=0 from rfl] at this
  rw [show (List.replicate 16 (0:Int))=zeros from rfl,this,Option.bind_some]
  rfl
theorem arC_isB {b:List Int} (h:isB b):isB (arC 16 zeros b):=by
 intro y hy
 unfold arC at hy
 rcases List.mem_append.1 hy with hy | hy
 ·exact h y (List.mem_of_mem_take hy)
 ·have:=List.mem_of_mem_drop hy
  rw [arL_zeros] at this
  have:y=0:=by simpa [zeros] using this
  omega
theorem rpright_ok (k:Nat) (t:S_api_Tunnel) (hI:t.Id.length≤140737488351232) (hB:isB t.Id):vineryref06_Right.f (k+20) t=some (rightT t):=by
 unfold vineryref06_Right.f rightT
 rw [rright_ok,Option.bind_some]
 cases hr:rightB t.Root
 ·rfl
 ·have hs:t.Root.Size=0∨t.Root.Size=4∨t.Root.Size=16:=isSz_or (by unfold rightB at hr;simp only [Bool.and_eq_true] at hr;exact hr.1)
  simp only [Bool.not_true,Bool.false_eq_true,if_false,Bool.true_and]
  by_cases hl:t.Label < 0
  ·have:¬ 0≤t.Label:=by omega
   simp [hl,this]
  ·have hl':0≤t.Label:=by omega
   by_cases hm:t.Label > 1048575
   ·have:¬ t.Label≤1048575:=by omega
    simp [hl,hl',hm,this]
   ·have hm':t.Label≤1048575:=by omega
    simp only [hl,hl',hm,hm',decide_false,decide_true,Bool.false_eq_true,if_false,Option.bind_some,Bool.true_and]
    by_cases k0:t.Kind=0
    ·rw [w64 _ (by omega)]
     by_cases hz:t.Root.Size=0
     ·simp [k0,hz]
     ·have h1:t.Root.Size > 0:=by omega
      have h2:¬ t.Root.Size+(t.Id.length:Int)=0:=by omega
      simp [k0,h1,h2]
    by_cases k1:t.Kind=1
    ·by_cases h4:t.Root.Size=4<;>simp [k1,h4]
    by_cases k27:t.Kind=2∨t.Kind=7
    ·by_cases h0:t.Root.Size > 0<;>rcases k27 with h | h<;>simp [h,h0]
    by_cases k345:t.Kind=3∨t.Kind=4∨t.Kind=5
    ·rw [rof_ok]
     have e2:¬ t.Kind=2:=by omega
     have e7:¬ t.Kind=7:=by omega
     simp only [k0,k1,k27,k345,if_true,if_false,e2,e7,beq_iff_eq,Bool.false_eq_true,Option.bind_some,beq_eq_false_iff_ne.2 e2,beq_eq_false_iff_ne.2 e7]
     have e:(if (t.Kind==3)=true then some (t.Kind==3) else if (t.Kind==4)=true then some (t.Kind==4) else some (t.Kind==5))=some true:=by
      rcases k345 with h | h | h<;>simp [h]
     simp only [beq_iff_eq] at e
     rw [e,Option.bind_some,if_pos rfl]
     by_cases hlen:(t.Id.length:Int)=t.Root.Size
     ·have hsz:isSz (t.Id.length:Int)=true:=by rw [hlen];unfold isSz;simp;omega
      rw [hsz]
      simp only [if_true]
      rw [rmcast_ok k _ (arC_isB hB)]
      by_cases h0:t.Root.Size > 0
      ·simp [h0,hlen]
      ·have hz:t.Root.Size=0:=by omega
       have:mcastB ⟨t.Id.length,arC 16 zeros t.Id⟩=false:=by unfold mcastB;rw [hlen,hz];simp
       simp [this,h0]
     ·by_cases h0:t.Root.Size > 0<;>simp [h0,hlen]
    ·have h2:¬ t.Kind=2:=by omega
     have h7:¬ t.Kind=7:=by omega
     have h3:¬ t.Kind=3:=by omega
     have h4:¬ t.Kind=4:=by omega
     have h5:¬ t.Kind=5:=by omega
     by_cases k6:t.Kind=6
     ·by_cases h0:t.Root.Size > 0<;>simp [k6,h0]
     ·simp [k0,k1,h2,h7,h3,h4,h5,k6]
theorem rlabel_ok (k:Nat) (l:Int) (h0:0≤l) (h1:l≤1048575):vineryref05_Bytes.f (k+20) l false=some (putL (16*l) 3,0):=by
 unfold vineryref05_Bytes.f
 rw [if_neg (by simp;omega),w64 (16*l) (by omega)]
 simp only [Bool.false_eq_true,if_false,Option.bind_some]
 rw [show (3:Int)=((3:Nat):Int) from rfl,refbytes_ok (k+15) _ 3 (by omega) (by omega) (by omega)]
 rfl
theorem rbytes_ok (k:Nat) (t:S_api_Tunnel) (hI:t.Id.length≤140737488351232) (hB:isB t.Id):vineryref06_Bytes.f (k+20) t=some (if rightT t=true then (bytesT t,0) else ([],1)):=by
 unfold vineryref06_Bytes.f
 rw [rpright_ok k t hI hB,Option.bind_some]
 cases h:rightT t
 ·simp
 ·obtain ⟨h1,h2,h3,h4⟩:=right_cases t h hI
  have hs:t.Root.Size=0∨t.Root.Size=4∨t.Root.Size=16:=isSz_or (by unfold rightB at h1;simp only [Bool.and_eq_true] at h1;exact h1.1)
  have hr:=rootL_le t.Root
  have hp:(putL (16*t.Label) 3).length=3:=rfl
  have hp2:(putL (t.Id.length:Int) 2).length=2:=rfl
  simp only [Bool.not_true,Bool.false_eq_true,if_false,if_true]
  rw [rlabel_ok k _ h2 h3,Option.bind_some,if_pos (by simp [hp])]
  have e:(if t.Leaf=true then (if 0≤(0:Int)∧(0:Int) < ((([(0:Int),IntKind.u8.wrap t.Kind]:List Int)++putL (16*t.Label) 3).length:Int) then some (((([(0:Int),IntKind.u8.wrap t.Kind]:List Int)++putL (16*t.Label) 3).set (Int.toNat (0:Int)) (1:Int)):List Int) else none) else some ((([(0:Int),IntKind.u8.wrap t.Kind]:List Int)++putL (16*t.Label) 3):List Int))=some ([leafL t.Leaf,IntKind.u8.wrap t.Kind]++putL (16*t.Label) 3):=by
   cases t.Leaf
   ·rfl
   ·rw [if_pos rfl,if_pos (by simp [hp])];rfl
  simp only at e ⊢
  rw [e,Option.bind_some,raddrbytes_ok k _ h1,Option.bind_some]
  unfold bytesT identL
  by_cases k1:t.Kind=1
  ·have hid:t.Id.length=6:=by rcases h4 with h4 | h4 | h4 | h4 | h4<;>omega
   have e1:t.Id.take (Int.toNat (t.Id.length:Int))=t.Id:=by simp
   rw [if_pos (by simpa using k1),if_pos k1,if_pos (by omega),if_pos (by simp [hp];omega),if_pos (by simp [hp];omega),if_pos (by omega),e1,if_pos (by simp [hp];omega),if_pos (by simp [hp];omega)]
   simp
  ·rw [if_neg (by simpa using k1),if_neg k1]
   by_cases k27:t.Kind=2∨t.Kind=7
   ·have hid:t.Id.length≤64∧0 < t.Root.Size:=by
     rcases h4 with h4 | h4 | h4 | h4 | h4
     ·omega
     ·omega
     ·exact ⟨h4.2.2,h4.2.1⟩
     ·omega
     ·omega
    have hf:(if (t.Root.Size==(16:Int))=true then some ((2:Int):Int) else some ((1:Int):Int))=some (famL t.Root):=by
     unfold famL
     rcases hs with h | h | h
     ·omega
     ·simp [h]
     ·simp [h]
    rw [show (if (t.Kind==(2:Int))=true then some (t.Kind==(2:Int)) else some (t.Kind==(7:Int)))=some true from by rcases k27 with h | h<;>simp [h]]
    simp only [Option.bind_some,if_true]
    rw [hf]
    rcases k27 with k2 | k7
    ·rw [if_neg (by simp [k2]),if_neg (by omega),if_pos k2]
     simp only [Option.bind_some]
     rw [if_pos (by simp [hp]),if_pos (by simp [hp];omega),show (2:Int)=((2:Nat):Int) from rfl,refbytes_ok (k+15) _ 2 (by omega) (by omega) (by omega),Option.bind_some,if_pos (by simp [hp,hp2];omega),if_pos (by simp [hp,hp2];omega)]
     simp
    ·rw [if_pos (by simp [k7]),if_pos k7]
     simp only [Option.bind_some]
     rw [if_pos (by simp [hp]),if_pos (by simp [hp];omega),show (2:Int)=((2:Nat):Int) from rfl,refbytes_ok (k+15) _ 2 (by omega) (by omega) (by omega),Option.bind_some,if_pos (by simp [hp,hp2];omega),if_pos (by simp [hp,hp2];omega)]
     simp
   ·have h2':¬ t.Kind=2:=fun h=>k27 (.inl h)
    have h7':¬ t.Kind=7:=fun h=>k27 (.inr h)
    rw [show (if (t.Kind==(2:Int))=true then some (t.Kind==(2:Int)) else some (t.Kind==(7:Int)))=some false from by simp [h2',h7']]
    simp only [Option.bind_some,Bool.false_eq_true,if_false]
    rw [if_pos (by simp [hp];omega),if_pos (by simp [hp];omega),if_neg h7',if_neg h2']
    simp
theorem four_ok (k:Nat) (a:S_api_Addr):vineryref09_four.f (k+20) a=some (routerB a):=by
 unfold vineryref09_four.f routerB
 rw [rright_ok]
 cases a.Size==4<;>simp
theorem rcl_l0 (k:Nat) (x:S_api_Attrs) (hl:x.Clusters.length≤100000):∀ (m kk i:Nat),i+m=x.Clusters.length→m < kk→∃ r,vineryref09_Right.l0 (k+20) x kk (i:Int)=some r∧((r=.inr ()∧(x.Clusters.drop i).any nr=false)∨(r=.inl false∧(x.Clusters.drop i).any nr=true))
 | 0,kk+1,i,h,_=>⟨.inr (),by rw [vineryref09_Right.l0,if_neg (by simp;omega)],.inl ⟨rfl,by rw [List.drop_of_length_le (by omega)];rfl⟩⟩
 | m+1,kk+1,i,h,hk=>by
  have hi:i < x.Clusters.length:=by omega
  rw [vineryref09_Right.l0,if_pos (by simp;omega),if_pos ⟨by omega,by omega⟩,inc64 i (by omega),rdx _ i hi,four_ok,Option.bind_some,List.drop_eq_getElem_cons hi,List.any_cons]
  cases hp:routerB x.Clusters[i] with
  | false=>exact ⟨_,by rw [if_pos (show (!false)=true from rfl)],.inr ⟨rfl,by simp [nr,hp]⟩⟩
  | true =>
   rw [if_neg (by simp)]
   obtain ⟨r,h1,h2⟩:=rcl_l0 k x hl m kk (i+1) (by omega) (by omega)
   exact ⟨r,h1,by simpa [nr,hp] using h2⟩
theorem rtn_l0 (k:Nat) (x:S_api_Attrs) (hl:x.Tunnels.length≤100000) (hI:∀ t∈x.Tunnels,t.Id.length≤1000000∧isB t.Id):∀ (m kk i:Nat),i+m=x.Tunnels.length→m < kk→∃ r,vineryref09_Right.l1 (k+20) x kk (i:Int)=some r∧((r=.inr ()∧(x.Tunnels.drop i).any nt=false)∨(r=.inl false∧(x.Tunnels.drop i).any nt=true))
 | 0,kk+1,i,h,_=>⟨.inr (),by rw [vineryref09_Right.l1,if_neg (by simp;omega)],.inl ⟨rfl,by rw [List.drop_of_length_le (by omega)];rfl⟩⟩
 | m+1,kk+1,i,h,hk=>by
  have hi:i < x.Tunnels.length:=by omega
  have ht:=hI _ (List.getElem_mem hi)
  rw [vineryref09_Right.l1,if_pos (by simp;omega),if_pos ⟨by omega,by omega⟩,inc64 i (by omega),rdx _ i hi,rpright_ok k _ (by omega) ht.2,Option.bind_some,List.drop_eq_getElem_cons hi,List.any_cons]
  cases hp:rightT x.Tunnels[i] with
  | false=>exact ⟨_,by rw [if_pos (show (!false)=true from rfl)],.inr ⟨rfl,by simp [nt,hp]⟩⟩
  | true =>
   rw [if_neg (by simp)]
   obtain ⟨r,h1,h2⟩:=rtn_l0 k x hl hI m kk (i+1) (by omega) (by omega)
   exact ⟨r,h1,by simpa [nt,hp] using h2⟩
theorem nB_eq (n:Int):nB n=(decide (n < 0) || decide (n > 4294967295)):=by
 unfold nB num32
 by_cases h:n < 0<;>simp [h]
theorem rp1_l0 (l:List S_api_Segment) (j:Nat) (hj:j < l.length) (hl:l.length≤1000) (ha:l[j].AS.length≤1000):∀ (m kk i:Nat),i+m=l[j].AS.length→m < kk→∃ r,vineryref09_path.l1 l (j:Int) kk (i:Int)=some r∧((r=.inr ()∧(l[j].AS.drop i).any nB=false)∨(r=.inl false∧(l[j].AS.drop i).any nB=true))
 | 0,kk+1,i,h,_=>⟨.inr (),by rw [vineryref09_path.l1,if_pos ⟨by omega,by omega⟩,rdx l j hj,if_neg (by simp;omega)],.inl ⟨rfl,by rw [List.drop_of_length_le (by omega)];rfl⟩⟩
 | m+1,kk+1,i,h,hk=>by
  have hi:i < l[j].AS.length:=by omega
  have hjj:0≤(j:Int)∧(j:Int) < (l.length:Int):=by omega
  have hii:0≤(i:Int)∧(i:Int) < (l[j].AS.length:Int):=by omega
  rw [vineryref09_path.l1,if_pos hjj,rdx l j hj,if_pos (by simp;omega),if_pos hjj,if_pos hii,if_pos hjj,if_pos hii,inc64 i (by omega),rdx _ i hi,List.drop_eq_getElem_cons hi,List.any_cons]
  have e:(if decide (l[j].AS[i] < (0:Int))=true then some (true:Bool) else some (decide (l[j].AS[i] > (4294967295:Int)):Bool))=some (nB l[j].AS[i]):=by
   rw [nB_eq]
   by_cases h0:l[j].AS[i] < 0<;>simp [h0]
  rw [e,Option.bind_some]
  cases hp:nB l[j].AS[i] with
  | true=>exact ⟨_,by rw [if_pos rfl],.inr ⟨rfl,by simp⟩⟩
  | false =>
   rw [if_neg (by simp)]
   obtain ⟨r,h1,h2⟩:=rp1_l0 l j hj hl ha m kk (i+1) (by omega) (by omega)
   exact ⟨r,h1,by simpa using h2⟩
theorem rp0_l0 (k:Nat) (l:List S_api_Segment) (hl:l.length≤1000) (hs:∀ s∈l,s.AS.length≤1000) (hk2:2000≤k):∀ (m kk i:Nat),i+m=l.length→m < kk→∃ r,vineryref09_path.l0 k l kk (i:Int)=some r∧((r=.inr ()∧(l.drop i).any wrongB=false)∨(r=.inl false∧(l.drop i).any wrongB=true))
 | 0,kk+1,i,h,_=>⟨.inr (),by rw [vineryref09_path.l0,if_neg (by simp;omega)],.inl ⟨rfl,by rw [List.drop_of_length_le (by omega)];rfl⟩⟩
 | m+1,kk+1,i,h,hk=>by
  have hi:i < l.length:=by omega
  have hii:0≤(i:Int)∧(i:Int) < (l.length:Int):=by omega
  have ha:=hs _ (List.getElem_mem hi)
  rw [vineryref09_path.l0,if_pos (by simp;omega),if_pos hii,if_pos hii,inc64 i (by omega),rdx l i hi,List.drop_eq_getElem_cons hi,List.any_cons]
  have e:(if decide ((l[i].AS.length:Int) < (1:Int))=true then some (true:Bool) else some (decide ((l[i].AS.length:Int) > (255:Int)):Bool))=some (decide ((l[i].AS.length:Int) < 1) || decide ((l[i].AS.length:Int) > 255)):=by
   by_cases h0:(l[i].AS.length:Int) < 1<;>simp [h0]
  rw [e,Option.bind_some]
  obtain ⟨r1,q1,q2⟩:=rp1_l0 l i hi hl ha l[i].AS.length k 0 (by omega) (by omega)
  have ew:wrongB l[i]=((decide ((l[i].AS.length:Int) < 1) || decide ((l[i].AS.length:Int) > 255)) || l[i].AS.any nB):=by unfold wrongB;rw [Bool.or_assoc]
  cases hp:(decide ((l[i].AS.length:Int) < 1) || decide ((l[i].AS.length:Int) > 255)) with
  | true=>exact ⟨_,by rw [if_pos rfl],.inr ⟨rfl,by rw [ew,hp];rfl⟩⟩
  | false =>
   rw [if_neg (by simp),show vineryref09_path.l1 l (i:Int) k 0=_ from q1,Option.bind_some]
   rcases q2 with ⟨rfl,q2⟩ | ⟨rfl,q2⟩
   ·rw [List.drop_zero] at q2
    obtain ⟨r,h1,h2⟩:=rp0_l0 k l hl hs hk2 m kk (i+1) (by omega) (by omega)
    refine ⟨r,h1,?_⟩
    rw [ew,hp,q2]
    simpa using h2
   ·rw [List.drop_zero] at q2
    exact ⟨_,rfl,.inr ⟨rfl,by rw [ew,q2];simp⟩⟩
theorem rpath (k:Nat) (l:List S_api_Segment) (hl:l.length≤1000) (hs:∀ s∈l,s.AS.length≤1000) (hk:2000≤k):vineryref09_path.f k l=some (decide ((l.length:Int)≤16) && !l.any wrongB):=by
 obtain ⟨r,h1,h2⟩:=rp0_l0 k l hl hs hk l.length k 0 (by omega) (by omega)
 unfold vineryref09_path.f
 rw [show vineryref09_path.l0 k l k 0=_ from h1,Option.bind_some]
 rcases h2 with ⟨rfl,h2⟩ | ⟨rfl,h2⟩
 ·rw [List.drop_zero] at h2;rw [h2];simp
 ·rw [List.drop_zero] at h2;rw [h2];simp
theorem number_ok (n:Int):vineryref09_number.f n=some (decide (n ≥ -1) && decide (n≤4294967295)):=by
 unfold vineryref09_number.f
 by_cases h:n ≥ -1<;>simp [h]
theorem rright (k:Nat) (x:S_api_Attrs) (h1:x.Path.length≤1000) (h2:∀ s∈x.Path,s.AS.length≤1000) (h3:x.Clusters.length≤1000) (h4:x.Tunnels.length≤1000) (hI:∀ t∈x.Tunnels,t.Id.length≤1000000∧isB t.Id) (hk:2000≤k):vineryref09_Right.f (k+20) x=some (rightAB x):=by
 obtain ⟨r1,p1,p2⟩:=rcl_l0 k x (by omega) x.Clusters.length (k+20) 0 (by omega) (by omega)
 obtain ⟨r2,q1,q2⟩:=rtn_l0 k x (by omega) hI x.Tunnels.length (k+20) 0 (by omega) (by omega)
 rw [List.drop_zero] at p2 q2
 unfold vineryref09_Right.f
 rw [show vineryref09_Right.l0 (k+20) x (k+20) 0=_ from p1,Option.bind_some]
 rcases p2 with ⟨rfl,p2⟩ | ⟨rfl,p2⟩
 rotate_left
 ·unfold rightAB;rw [p2];simp
 simp only
 rw [show vineryref09_Right.l1 (k+20) x (k+20) 0=_ from q1,Option.bind_some]
 rcases q2 with ⟨rfl,q2⟩ | ⟨rfl,q2⟩
 rotate_left
 ·unfold rightAB;rw [q2];simp
 simp only
 rw [show ((x.Originator.Size==(0:Int)) && ((eqA 16 x.Originator.B (List.replicate 16 (0:Int))) && true))=zA x.Originator from rfl,four_ok,number_ok,number_ok,rpath (k+20) x.Path h1 h2 (by omega)]
 have eo:(if zA x.Originator=true then some true else (some (routerB x.Originator)).bind fun t42=>some t42)=some (zA x.Originator || routerB x.Originator):=by cases zA x.Originator<;>simp
 rw [eo]
 unfold rightAB
 rw [p2,q2]
 simp only [Option.bind_some,Bool.not_false,Bool.true_and]
 generalize (zA x.Originator || routerB x.Originator)=z
 generalize (!x.Path.any wrongB)=pw
 by_cases a1:x.Origin ≥ 0
 ·by_cases a2:x.Origin≤2
  ·by_cases a3:x.Med ≥ -1
   ·by_cases a4:x.Med≤4294967295
    ·by_cases a5:x.Pref ≥ -1
     ·by_cases a6:x.Pref≤4294967295
      ·rw [decide_eq_true (p:=0≤x.Origin∧_) (by omega)]
       by_cases b0:(x.Path.length:Int)≤16<;>by_cases b1:(x.Clusters.length:Int)≤32<;>by_cases b2:(x.Exts.length:Int)≤64<;>by_cases b3:(x.Tunnels.length:Int)≤1<;>cases z<;>cases pw<;>simp [a1,a2,a3,a4,a5,a6,b0,b1,b2,b3]
      ·rw [decide_eq_false (p:=0≤x.Origin∧_) (by omega)];simp [a1,a2,a3,a4,a5,a6]
     ·rw [decide_eq_false (p:=0≤x.Origin∧_) (by omega)];simp [a1,a2,a3,a4,a5]
    ·rw [decide_eq_false (p:=0≤x.Origin∧_) (by omega)];simp [a1,a2,a3,a4]
   ·rw [decide_eq_false (p:=0≤x.Origin∧_) (by omega)];simp [a1,a2,a3]
  ·rw [decide_eq_false (p:=0≤x.Origin∧_) (by omega)];simp [a1,a2]
 ·rw [decide_eq_false (p:=0≤x.Origin∧_) (by omega)];simp [a1]
def allZ {α:Type} (P:α→α→Bool):List α→List α→Bool
 | x::a,y::b=>P x y && allZ P a b
 | _,_=>true
theorem allZ_drop {α:Type} (P:α→α→Bool) (a b:List α) (i:Nat) (ha:i < a.length) (hb:i < b.length):allZ P (a.drop i) (b.drop i)=(P a[i] b[i] && allZ P (a.drop (i+1)) (b.drop (i+1))):=by
 rw [List.drop_eq_getElem_cons ha,List.drop_eq_getElem_cons hb]
 rfl
theorem allZ_end {α:Type} (P:α→α→Bool) (a b:List α) (i:Nat) (ha:a.length≤i):allZ P (a.drop i) (b.drop i)=true:=by
 rw [List.drop_of_length_le ha]
 cases b.drop i<;>rfl
def adE (a b:S_api_Addr):Bool:=(a.Size==b.Size) && ((eqA 16 a.B b.B) && true)
def iE (a b:Int):Bool:=a==b
def segE (s t:S_api_Segment):Bool:=(s.Set==t.Set) && ((decide (s.AS.length=t.AS.length)) && allZ iE s.AS t.AS)
def exE (a b:List Int):Bool:=eqA 8 a b
def tnE (a b:S_api_Tunnel):Bool:=((a.Kind==b.Kind && ((a.Root.Size==b.Root.Size) && ((eqA 16 a.Root.B b.Root.B) && true)) && (b2s a.Id==b2s b.Id)) && (a.Leaf==b.Leaf && a.Label==b.Label))
theorem sameTn_ok (a b:S_api_Tunnel):attr_sameTunnel.f a b=some (tnE a b):=by
 unfold attr_sameTunnel.f tnE
 rw [same_ok]
 generalize (a.Kind==b.Kind && ((a.Root.Size==b.Root.Size) && ((eqA 16 a.Root.B b.Root.B) && true)) && (b2s a.Id==b2s b.Id))=p
 cases p<;>cases (a.Leaf==b.Leaf)<;>simp
theorem requal_tn (a b:S_api_Tunnel):vineryref06_Equal.f a b=some (tnE a b):=by
 unfold vineryref06_Equal.f vineryref06_Same.f tnE
 rw [bstr_toList,bstr_toList]
 cases (a.Kind==b.Kind)<;>cases ((a.Root.Size==b.Root.Size) && ((eqA 16 a.Root.B b.Root.B) && true))<;>cases (b2s a.Id==b2s b.Id)<;>cases (a.Leaf==b.Leaf)<;>simp
theorem len_ne {α β:Type} {a:List α} {b:List β} (h:a.length≠b.length):((a.length:Int) != (b.length:Int))=true:=by simp;omega
theorem len_eq {α β:Type} {a:List α} {b:List β} (h:a.length=b.length):((a.length:Int) != (b.length:Int))=false:=by simp [h]
theorem sqi_l0 (a b:List Int) (hl:a.length≤100000) (he:a.length=b.length):∀ (m kk i:Nat),i+m=a.length→m < kk→∃ r,slices_Equal_int_int.l0 a b kk (i:Int)=some r∧((r=.inr ()∧allZ iE (a.drop i) (b.drop i)=true)∨(r=.inl false∧allZ iE (a.drop i) (b.drop i)=false))
 | 0,kk+1,i,h,_=>⟨.inr (),by rw [slices_Equal_int_int.l0];rw [if_neg (by simp;omega)],.inl ⟨rfl,allZ_end _ _ _ _ (by omega)⟩⟩
 | m+1,kk+1,i,h,hk=>by
  have hi:i < a.length:=by omega
  have hi2:i < b.length:=by omega
  have h1:0≤(i:Int)∧(i:Int) < (a.length:Int):=by omega
  have h2:0≤(i:Int)∧(i:Int) < (b.length:Int):=by omega
  rw [slices_Equal_int_int.l0,if_pos (by simp;omega),if_pos h1,if_pos h2,inc64 i (by omega),rdx _ i hi,rdx _ i hi2,show (a[i] != b[i])=!(iE a[i] b[i]) from rfl,allZ_drop _ _ _ _ hi hi2]
  cases hp:iE a[i] b[i] with
  | false=>exact ⟨_,by rw [if_pos (show (!false)=true from rfl)],.inr ⟨rfl,rfl⟩⟩
  | true =>
   rw [if_neg (by simp)]
   obtain ⟨r,q1,q2⟩:=sqi_l0 a b hl he m kk (i+1) (by omega) (by omega)
   exact ⟨r,q1,by simpa using q2⟩
theorem sqc_l0 (a b:List S_api_Addr) (hl:a.length≤100000) (he:a.length=b.length):∀ (m kk i:Nat),i+m=a.length→m < kk→∃ r,api_Addr_44.l0 a b kk (i:Int)=some r∧((r=.inr ()∧allZ adE (a.drop i) (b.drop i)=true)∨(r=.inl false∧allZ adE (a.drop i) (b.drop i)=false))
 | 0,kk+1,i,h,_=>⟨.inr (),by rw [api_Addr_44.l0];rw [if_neg (by simp;omega)],.inl ⟨rfl,allZ_end _ _ _ _ (by omega)⟩⟩
 | m+1,kk+1,i,h,hk=>by
  have hi:i < a.length:=by omega
  have hi2:i < b.length:=by omega
  have h1:0≤(i:Int)∧(i:Int) < (a.length:Int):=by omega
  have h2:0≤(i:Int)∧(i:Int) < (b.length:Int):=by omega
  rw [api_Addr_44.l0,if_pos (by simp;omega),if_pos h1,if_pos h2,inc64 i (by omega),rdx _ i hi,rdx _ i hi2,show ((a[i].Size==b[i].Size) && ((eqA 16 a[i].B b[i].B) && true))=adE a[i] b[i] from rfl,allZ_drop _ _ _ _ hi hi2]
  cases hp:adE a[i] b[i] with
  | false=>exact ⟨_,by rw [if_pos (show (!false)=true from rfl)],.inr ⟨rfl,rfl⟩⟩
  | true =>
   rw [if_neg (by simp)]
   obtain ⟨r,q1,q2⟩:=sqc_l0 a b hl he m kk (i+1) (by omega) (by omega)
   exact ⟨r,q1,by simpa using q2⟩
theorem sqe_l0 (a b:List (List Int)) (hl:a.length≤100000) (he:a.length=b.length):∀ (m kk i:Nat),i+m=a.length→m < kk→∃ r,api_Ext.l0 a b kk (i:Int)=some r∧((r=.inr ()∧allZ exE (a.drop i) (b.drop i)=true)∨(r=.inl false∧allZ exE (a.drop i) (b.drop i)=false))
 | 0,kk+1,i,h,_=>⟨.inr (),by rw [api_Ext.l0];rw [if_neg (by simp;omega)],.inl ⟨rfl,allZ_end _ _ _ _ (by omega)⟩⟩
 | m+1,kk+1,i,h,hk=>by
  have hi:i < a.length:=by omega
  have hi2:i < b.length:=by omega
  have h1:0≤(i:Int)∧(i:Int) < (a.length:Int):=by omega
  have h2:0≤(i:Int)∧(i:Int) < (b.length:Int):=by omega
  rw [api_Ext.l0,if_pos (by simp;omega),if_pos h1,if_pos h2,inc64 i (by omega),rdx _ i hi,rdx _ i hi2,show eqA 8 a[i] b[i]=exE a[i] b[i] from rfl,allZ_drop _ _ _ _ hi hi2]
  cases hp:exE a[i] b[i] with
  | false=>exact ⟨_,by rw [if_pos (show (!false)=true from rfl)],.inr ⟨rfl,rfl⟩⟩
  | true =>
   rw [if_neg (by simp)]
   obtain ⟨r,q1,q2⟩:=sqe_l0 a b hl he m kk (i+1) (by omega) (by omega)
   exact ⟨r,q1,by simpa using q2⟩
theorem sqt_l0 (a b:List S_api_Tunnel) (hl:a.length≤100000) (he:a.length=b.length):∀ (m kk i:Nat),i+m=a.length→m < kk→∃ r,api_Tunnel_46_attr_sameTunnel.l0 a b kk (i:Int)=some r∧((r=.inr ()∧allZ tnE (a.drop i) (b.drop i)=true)∨(r=.inl false∧allZ tnE (a.drop i) (b.drop i)=false))
 | 0,kk+1,i,h,_=>⟨.inr (),by rw [api_Tunnel_46_attr_sameTunnel.l0];rw [if_neg (by simp;omega)],.inl ⟨rfl,allZ_end _ _ _ _ (by omega)⟩⟩
 | m+1,kk+1,i,h,hk=>by
  have hi:i < a.length:=by omega
  have hi2:i < b.length:=by omega
  have h1:0≤(i:Int)∧(i:Int) < (a.length:Int):=by omega
  have h2:0≤(i:Int)∧(i:Int) < (b.length:Int):=by omega
  rw [api_Tunnel_46_attr_sameTunnel.l0,if_pos (by simp;omega),if_pos h1,if_pos h2,inc64 i (by omega),rdx _ i hi,rdx _ i hi2,sameTn_ok,Option.bind_some,allZ_drop _ _ _ _ hi hi2]
  cases hp:tnE a[i] b[i] with
  | false=>exact ⟨_,by rw [if_pos (show (!false)=true from rfl)],.inr ⟨rfl,rfl⟩⟩
  | true =>
   rw [if_neg (by simp)]
   obtain ⟨r,q1,q2⟩:=sqt_l0 a b hl he m kk (i+1) (by omega) (by omega)
   exact ⟨r,q1,by simpa using q2⟩
theorem rqe_l0 (a b:List (List Int)) (hl:a.length≤100000) (he:a.length=b.length):∀ (m kk i:Nat),i+m=a.length→m < kk→∃ r,vineryref04_Same.l0 a b kk (i:Int)=some r∧((r=.inr ()∧allZ exE (a.drop i) (b.drop i)=true)∨(r=.inl false∧allZ exE (a.drop i) (b.drop i)=false))
 | 0,kk+1,i,h,_=>⟨.inr (),by rw [vineryref04_Same.l0];rw [if_neg (by simp;omega)],.inl ⟨rfl,allZ_end _ _ _ _ (by omega)⟩⟩
 | m+1,kk+1,i,h,hk=>by
  have hi:i < a.length:=by omega
  have hi2:i < b.length:=by omega
  have h1:0≤(i:Int)∧(i:Int) < (a.length:Int):=by omega
  have h2:0≤(i:Int)∧(i:Int) < (b.length:Int):=by omega
  rw [vineryref04_Same.l0,if_pos (by simp;omega),if_pos h1,if_pos h2,inc64 i (by omega),rdx _ i hi,rdx _ i hi2,show eqA 8 a[i] b[i]=exE a[i] b[i] from rfl,allZ_drop _ _ _ _ hi hi2]
  cases hp:exE a[i] b[i] with
  | false=>exact ⟨_,by rw [if_pos (show (!false)=true from rfl)],.inr ⟨rfl,rfl⟩⟩
  | true =>
   rw [if_neg (by simp)]
   obtain ⟨r,q1,q2⟩:=rqe_l0 a b hl he m kk (i+1) (by omega) (by omega)
   exact ⟨r,q1,by simpa using q2⟩
theorem rqc_l0 (a b:S_api_Attrs) (hl:a.Clusters.length≤100000) (he:a.Clusters.length=b.Clusters.length):∀ (m kk i:Nat),i+m=a.Clusters.length→m < kk→∃ r,vineryref09_Same.l0 a b kk (i:Int)=some r∧((r=.inr ()∧allZ adE (a.Clusters.drop i) (b.Clusters.drop i)=true)∨(r=.inl false∧allZ adE (a.Clusters.drop i) (b.Clusters.drop i)=false))
 | 0,kk+1,i,h,_=>⟨.inr (),by rw [vineryref09_Same.l0];rw [if_neg (by simp;omega)],.inl ⟨rfl,allZ_end _ _ _ _ (by omega)⟩⟩
 | m+1,kk+1,i,h,hk=>by
  have hi:i < a.Clusters.length:=by omega
  have hi2:i < b.Clusters.length:=by omega
  have h1:0≤(i:Int)∧(i:Int) < (a.Clusters.length:Int):=by omega
  have h2:0≤(i:Int)∧(i:Int) < (b.Clusters.length:Int):=by omega
  rw [vineryref09_Same.l0,if_pos (by simp;omega),if_pos h1,if_pos h2,inc64 i (by omega),rdx _ i hi,rdx _ i hi2,show ((a.Clusters[i].Size==b.Clusters[i].Size) && ((eqA 16 a.Clusters[i].B b.Clusters[i].B) && true))=adE a.Clusters[i] b.Clusters[i] from rfl,allZ_drop _ _ _ _ hi hi2]
  cases hp:adE a.Clusters[i] b.Clusters[i] with
  | false=>exact ⟨_,by rw [if_pos (show (!false)=true from rfl)],.inr ⟨rfl,rfl⟩⟩
  | true =>
   rw [if_neg (by simp)]
   obtain ⟨r,q1,q2⟩:=rqc_l0 a b hl he m kk (i+1) (by omega) (by omega)
   exact ⟨r,q1,by simpa using q2⟩
theorem rqt_l0 (a b:S_api_Attrs) (hl:a.Tunnels.length≤100000) (he:a.Tunnels.length=b.Tunnels.length):∀ (m kk i:Nat),i+m=a.Tunnels.length→m < kk→∃ r,vineryref09_Same.l1 a b kk (i:Int)=some r∧((r=.inr ()∧allZ tnE (a.Tunnels.drop i) (b.Tunnels.drop i)=true)∨(r=.inl false∧allZ tnE (a.Tunnels.drop i) (b.Tunnels.drop i)=false))
 | 0,kk+1,i,h,_=>⟨.inr (),by rw [vineryref09_Same.l1];rw [if_neg (by simp;omega)],.inl ⟨rfl,allZ_end _ _ _ _ (by omega)⟩⟩
 | m+1,kk+1,i,h,hk=>by
  have hi:i < a.Tunnels.length:=by omega
  have hi2:i < b.Tunnels.length:=by omega
  have h1:0≤(i:Int)∧(i:Int) < (a.Tunnels.length:Int):=by omega
  have h2:0≤(i:Int)∧(i:Int) < (b.Tunnels.length:Int):=by omega
  rw [vineryref09_Same.l1,if_pos (by simp;omega),if_pos h1,if_pos h2,inc64 i (by omega),rdx _ i hi,rdx _ i hi2,requal_tn,Option.bind_some,allZ_drop _ _ _ _ hi hi2]
  cases hp:tnE a.Tunnels[i] b.Tunnels[i] with
  | false=>exact ⟨_,by rw [if_pos (show (!false)=true from rfl)],.inr ⟨rfl,rfl⟩⟩
  | true =>
   rw [if_neg (by simp)]
   obtain ⟨r,q1,q2⟩:=rqt_l0 a b hl he m kk (i+1) (by omega) (by omega)
   exact ⟨r,q1,by simpa using q2⟩
theorem sqi (k:Nat) (a b:List Int) (hl:a.length≤1000) (hk:2000≤k):slices_Equal_int_int.f k a b=some (decide (a.length=b.length) && allZ iE a b):=by
 unfold slices_Equal_int_int.f
 by_cases he:a.length=b.length
 ·obtain ⟨r,h1,h2⟩:=sqi_l0 a b (by omega) he a.length k 0 (by omega) (by omega)
  rw [if_neg (by rw [len_eq he];simp),show slices_Equal_int_int.l0 a b k 0=_ from h1,Option.bind_some]
  simp only [List.drop_zero] at h2
  rcases h2 with ⟨rfl,h2⟩ | ⟨rfl,h2⟩<;>rw [h2]<;>simp [he]
 ·rw [if_pos (len_ne he)];simp [he]
theorem sqc (k:Nat) (a b:List S_api_Addr) (hl:a.length≤1000) (hk:2000≤k):api_Addr_44.f k a b=some (decide (a.length=b.length) && allZ adE a b):=by
 unfold api_Addr_44.f
 by_cases he:a.length=b.length
 ·obtain ⟨r,h1,h2⟩:=sqc_l0 a b (by omega) he a.length k 0 (by omega) (by omega)
  rw [if_neg (by rw [len_eq he];simp),show api_Addr_44.l0 a b k 0=_ from h1,Option.bind_some]
  simp only [List.drop_zero] at h2
  rcases h2 with ⟨rfl,h2⟩ | ⟨rfl,h2⟩<;>rw [h2]<;>simp [he]
 ·rw [if_pos (len_ne he)];simp [he]
theorem sqe (k:Nat) (a b:List (List Int)) (hl:a.length≤1000) (hk:2000≤k):api_Ext.f k a b=some (decide (a.length=b.length) && allZ exE a b):=by
 unfold api_Ext.f
 by_cases he:a.length=b.length
 ·obtain ⟨r,h1,h2⟩:=sqe_l0 a b (by omega) he a.length k 0 (by omega) (by omega)
  rw [if_neg (by rw [len_eq he];simp),show api_Ext.l0 a b k 0=_ from h1,Option.bind_some]
  simp only [List.drop_zero] at h2
  rcases h2 with ⟨rfl,h2⟩ | ⟨rfl,h2⟩<;>rw [h2]<;>simp [he]
 ·rw [if_pos (len_ne he)];simp [he]
theorem sqt (k:Nat) (a b:List S_api_Tunnel) (hl:a.length≤1000) (hk:2000≤k):api_Tunnel_46_attr_sameTunnel.f k a b=some (decide (a.length=b.length) && allZ tnE a b):=by
 unfold api_Tunnel_46_attr_sameTunnel.f
 by_cases he:a.length=b.length
 ·obtain ⟨r,h1,h2⟩:=sqt_l0 a b (by omega) he a.length k 0 (by omega) (by omega)
  rw [if_neg (by rw [len_eq he];simp),show api_Tunnel_46_attr_sameTunnel.l0 a b k 0=_ from h1,Option.bind_some]
  simp only [List.drop_zero] at h2
  rcases h2 with ⟨rfl,h2⟩ | ⟨rfl,h2⟩<;>rw [h2]<;>simp [he]
 ·rw [if_pos (len_ne he)];simp [he]
theorem rqe (k:Nat) (a b:List (List Int)) (hl:a.length≤1000) (hk:2000≤k):vineryref04_Same.f k a b=some (decide (a.length=b.length) && allZ exE a b):=by
 unfold vineryref04_Same.f
 by_cases he:a.length=b.length
 ·obtain ⟨r,h1,h2⟩:=rqe_l0 a b (by omega) he a.length k 0 (by omega) (by omega)
  rw [if_neg (by rw [len_eq he];simp),show vineryref04_Same.l0 a b k 0=_ from h1,Option.bind_some]
  simp only [List.drop_zero] at h2
  rcases h2 with ⟨rfl,h2⟩ | ⟨rfl,h2⟩<;>rw [h2]<;>simp [he]
 ·rw [if_pos (len_ne he)];simp [he]
theorem sqs (k:Nat) (s t:S_api_Segment) (h:s.AS.length≤1000) (hk:2000≤k):attr_sameSegment.f k s t=some (segE s t):=by
 unfold attr_sameSegment.f segE
 rw [sqi k s.AS t.AS h hk]
 cases s.Set==t.Set<;>simp
theorem sqp_l0 (k:Nat) (a b:List S_api_Segment) (hl:a.length≤100000) (he:a.length=b.length) (hs:∀ s∈a,s.AS.length≤1000) (hk2:2000≤k):∀ (m kk i:Nat),i+m=a.length→m < kk→∃ r,api_Segment_attr_sameSegment.l0 k a b kk (i:Int)=some r∧((r=.inr ()∧allZ segE (a.drop i) (b.drop i)=true)∨(r=.inl false∧allZ segE (a.drop i) (b.drop i)=false))
 | 0,kk+1,i,h,_=>⟨.inr (),by rw [api_Segment_attr_sameSegment.l0,if_neg (by simp;omega)],.inl ⟨rfl,allZ_end _ _ _ _ (by omega)⟩⟩
 | m+1,kk+1,i,h,hk=>by
  have hi:i < a.length:=by omega
  have hi2:i < b.length:=by omega
  have h1:0≤(i:Int)∧(i:Int) < (a.length:Int):=by omega
  have h2:0≤(i:Int)∧(i:Int) < (b.length:Int):=by omega
  rw [api_Segment_attr_sameSegment.l0,if_pos (by simp;omega),if_pos h1,if_pos h2,inc64 i (by omega),rdx _ i hi,rdx _ i hi2,sqs k _ _ (hs _ (List.getElem_mem hi)) hk2,Option.bind_some,allZ_drop _ _ _ _ hi hi2]
  cases hp:segE a[i] b[i] with
  | false=>exact ⟨_,by rw [if_pos (show (!false)=true from rfl)],.inr ⟨rfl,rfl⟩⟩
  | true =>
   rw [if_neg (by simp)]
   obtain ⟨r,q1,q2⟩:=sqp_l0 k a b hl he hs hk2 m kk (i+1) (by omega) (by omega)
   exact ⟨r,q1,by simpa using q2⟩
theorem sqp (k:Nat) (a b:List S_api_Segment) (hl:a.length≤1000) (hs:∀ s∈a,s.AS.length≤1000) (hk:2000≤k):api_Segment_attr_sameSegment.f k a b=some (decide (a.length=b.length) && allZ segE a b):=by
 unfold api_Segment_attr_sameSegment.f
 by_cases he:a.length=b.length
 ·obtain ⟨r,h1,h2⟩:=sqp_l0 k a b (by omega) he hs hk a.length k 0 (by omega) (by omega)
  rw [if_neg (by rw [len_eq he];simp),show api_Segment_attr_sameSegment.l0 k a b k 0=_ from h1,Option.bind_some]
  simp only [List.drop_zero] at h2
  rcases h2 with ⟨rfl,h2⟩ | ⟨rfl,h2⟩<;>rw [h2]<;>simp [he]
 ·rw [if_pos (len_ne he)];simp [he]
theorem rqi_l0 (a b:List S_api_Segment) (j:Nat) (hj:j < a.length) (hj2:j < b.length) (hl:a.length≤1000) (ha:a[j].AS.length≤1000) (he:a[j].AS.length=b[j].AS.length):∀ (m kk i:Nat),i+m=a[j].AS.length→m < kk→∃ r,vineryref09_samePath.l1 a b (j:Int) kk (i:Int)=some r∧((r=.inr ()∧allZ iE (a[j].AS.drop i) (b[j].AS.drop i)=true)∨(r=.inl false∧allZ iE (a[j].AS.drop i) (b[j].AS.drop i)=false))
 | 0,kk+1,i,h,_=>⟨.inr (),by rw [vineryref09_samePath.l1,if_pos ⟨by omega,by omega⟩,rdx a j hj,if_neg (by simp;omega)],.inl ⟨rfl,allZ_end _ _ _ _ (by omega)⟩⟩
 | m+1,kk+1,i,h,hk=>by
  have hi:i < a[j].AS.length:=by omega
  have hi2:i < b[j].AS.length:=by omega
  have g1:0≤(j:Int)∧(j:Int) < (a.length:Int):=by omega
  have g2:0≤(j:Int)∧(j:Int) < (b.length:Int):=by omega
  have h1:0≤(i:Int)∧(i:Int) < (a[j].AS.length:Int):=by omega
  have h2:0≤(i:Int)∧(i:Int) < (b[j].AS.length:Int):=by omega
  rw [vineryref09_samePath.l1,if_pos g1,rdx a j hj,rdx b j hj2,if_pos (by simp;omega),if_pos g1,if_pos h1,if_pos g2,if_pos h2,inc64 i (by omega),rdx _ i hi,rdx _ i hi2,allZ_drop _ _ _ _ hi hi2,show (a[j].AS[i] != b[j].AS[i])=!(iE a[j].AS[i] b[j].AS[i]) from rfl]
  cases hp:iE a[j].AS[i] b[j].AS[i] with
  | false=>exact ⟨_,by rw [if_pos (show (!false)=true from rfl)],.inr ⟨rfl,rfl⟩⟩
  | true =>
   rw [if_neg (by simp)]
   obtain ⟨r,q1,q2⟩:=rqi_l0 a b j hj hj2 hl ha he m kk (i+1) (by omega) (by omega)
   exact ⟨r,q1,by simpa using q2⟩
theorem rqp_l0 (k:Nat) (a b:List S_api_Segment) (hl:a.length≤1000) (he:a.length=b.length) (hs:∀ s∈a,s.AS.length≤1000) (hk2:2000≤k):∀ (m kk i:Nat),i+m=a.length→m < kk→∃ r,vineryref09_samePath.l0 k a b kk (i:Int)=some r∧((r=.inr ()∧allZ segE (a.drop i) (b.drop i)=true)∨(r=.inl false∧allZ segE (a.drop i) (b.drop i)=false))
 | 0,kk+1,i,h,_=>⟨.inr (),by rw [vineryref09_samePath.l0,if_neg (by simp;omega)],.inl ⟨rfl,allZ_end _ _ _ _ (by omega)⟩⟩
 | m+1,kk+1,i,h,hk=>by
  have hi:i < a.length:=by omega
  have hi2:i < b.length:=by omega
  have h1:0≤(i:Int)∧(i:Int) < (a.length:Int):=by omega
  have h2:0≤(i:Int)∧(i:Int) < (b.length:Int):=by omega
  have ha:=hs _ (List.getElem_mem hi)
  rw [vineryref09_samePath.l0,if_pos (by simp;omega),if_pos h1,if_pos h2,if_pos h1,if_pos h2,inc64 i (by omega),rdx _ i hi,rdx _ i hi2,allZ_drop _ _ _ _ hi hi2]
  cases hS:(a[i].Set==b[i].Set) with
  | false=>exact ⟨_,by rw [if_pos (show (!false)=true from rfl),Option.bind_some,if_pos rfl],.inr ⟨rfl,by unfold segE;rw [hS];rfl⟩⟩
  | true =>
   rw [if_neg (by simp),Option.bind_some]
   by_cases hL:a[i].AS.length=b[i].AS.length
   ·rw [len_eq hL,if_neg (by simp)]
    obtain ⟨r1,p1,p2⟩:=rqi_l0 a b i hi hi2 hl ha hL a[i].AS.length k 0 (by omega) (by omega)
    simp only [List.drop_zero] at p2
    rw [show vineryref09_samePath.l1 a b (i:Int) k 0=_ from p1,Option.bind_some]
    rcases p2 with ⟨rfl,p2⟩ | ⟨rfl,p2⟩
    ·obtain ⟨r,q1,q2⟩:=rqp_l0 k a b hl he hs hk2 m kk (i+1) (by omega) (by omega)
     refine ⟨r,q1,?_⟩
     have e:segE a[i] b[i]=true:=by unfold segE;rw [hS,p2,decide_eq_true hL];rfl
     rw [e]
     simpa using q2
    ·exact ⟨_,rfl,.inr ⟨rfl,by unfold segE;rw [p2];simp⟩⟩
   ·exact ⟨_,by rw [len_ne hL,if_pos rfl],.inr ⟨rfl,by unfold segE;rw [decide_eq_false hL];simp⟩⟩
theorem rqp (k:Nat) (a b:List S_api_Segment) (hl:a.length≤1000) (hs:∀ s∈a,s.AS.length≤1000) (hk:2000≤k):vineryref09_samePath.f k a b=some (decide (a.length=b.length) && allZ segE a b):=by
 unfold vineryref09_samePath.f
 by_cases he:a.length=b.length
 ·obtain ⟨r,h1,h2⟩:=rqp_l0 k a b (by omega) he hs hk a.length k 0 (by omega) (by omega)
  rw [if_neg (by rw [len_eq he];simp),show vineryref09_samePath.l0 k a b k 0=_ from h1,Option.bind_some]
  simp only [List.drop_zero] at h2
  rcases h2 with ⟨rfl,h2⟩ | ⟨rfl,h2⟩<;>rw [h2]<;>simp [he]
 ·rw [if_pos (len_ne he)];simp [he]
def sameAB (a b:S_api_Attrs):Bool:=((a.Origin==b.Origin) && ((a.Med==b.Med) && ((a.Pref==b.Pref) && adE a.Originator b.Originator))) &&
 ((decide (a.Path.length=b.Path.length) && allZ segE a.Path b.Path) && ((decide (a.Clusters.length=b.Clusters.length) && allZ adE a.Clusters b.Clusters) && ((decide (a.Exts.length=b.Exts.length) && allZ exE a.Exts b.Exts) && (decide (a.Tunnels.length=b.Tunnels.length) && allZ tnE a.Tunnels b.Tunnels))))
theorem xsame (k:Nat) (a b:S_api_Attrs) (h1:a.Path.length≤1000) (h2:∀ s∈a.Path,s.AS.length≤1000) (h3:a.Clusters.length≤1000) (h4:a.Exts.length≤1000) (h5:a.Tunnels.length≤1000) (hk:2000≤k):attr_Same.f k a b=some (sameAB a b):=by
 unfold attr_Same.f sameAB
 rw [sqp k a.Path b.Path h1 h2 hk,sqc k a.Clusters b.Clusters h3 hk,sqe k a.Exts b.Exts h4 hk,sqt k a.Tunnels b.Tunnels h5 hk,show ((a.Originator.Size==b.Originator.Size) && ((eqA 16 a.Originator.B b.Originator.B) && true))=adE a.Originator b.Originator from rfl]
 generalize (decide (a.Path.length=b.Path.length) && allZ segE a.Path b.Path)=p
 generalize (decide (a.Clusters.length=b.Clusters.length) && allZ adE a.Clusters b.Clusters)=c
 generalize (decide (a.Exts.length=b.Exts.length) && allZ exE a.Exts b.Exts)=e
 generalize (decide (a.Tunnels.length=b.Tunnels.length) && allZ tnE a.Tunnels b.Tunnels)=t
 generalize adE a.Originator b.Originator=g
 simp only [bne]
 generalize (a.Origin==b.Origin)=q1
 generalize (a.Med==b.Med)=q2
 generalize (a.Pref==b.Pref)=q3
 revert p c e t g q1 q2 q3
 decide
theorem rsame (k:Nat) (a b:S_api_Attrs) (h1:a.Path.length≤1000) (h2:∀ s∈a.Path,s.AS.length≤1000) (h3:a.Clusters.length≤1000) (h4:a.Exts.length≤1000) (h5:a.Tunnels.length≤1000) (hk:2000≤k):vineryref09_Same.f k a b=some (sameAB a b):=by
 unfold vineryref09_Same.f sameAB
 rw [rqp k a.Path b.Path h1 h2 hk,rqe k a.Exts b.Exts h4 hk,show ((a.Originator.Size==b.Originator.Size) && ((eqA 16 a.Originator.B b.Originator.B) && true))=adE a.Originator b.Originator from rfl]
 generalize (decide (a.Path.length=b.Path.length) && allZ segE a.Path b.Path)=p
 generalize (decide (a.Exts.length=b.Exts.length) && allZ exE a.Exts b.Exts)=e
 generalize adE a.Originator b.Originator=g
 simp only [bne]
 generalize (a.Origin==b.Origin)=q1
 generalize (a.Med==b.Med)=q2
 generalize (a.Pref==b.Pref)=q3
 by_cases hc:a.Clusters.length=b.Clusters.length
 ·have ec:((a.Clusters.length:Int)==(b.Clusters.length:Int))=true:=by simp [hc]
  by_cases ht:a.Tunnels.length=b.Tunnels.length
  ·have et:((a.Tunnels.length:Int)==(b.Tunnels.length:Int))=true:=by simp [ht]
   obtain ⟨r1,u1,u2⟩:=rqc_l0 a b (by omega) hc a.Clusters.length k 0 (by omega) (by omega)
   obtain ⟨r2,v1,v2⟩:=rqt_l0 a b (by omega) ht a.Tunnels.length k 0 (by omega) (by omega)
   simp only [List.drop_zero] at u2 v2
   rw [show vineryref09_Same.l0 a b k 0=_ from u1,show vineryref09_Same.l1 a b k 0=_ from v1,ec,et,decide_eq_true hc,decide_eq_true ht]
   rcases u2 with ⟨rfl,u2⟩ | ⟨rfl,u2⟩<;>rcases v2 with ⟨rfl,v2⟩ | ⟨rfl,v2⟩<;>rw [u2,v2]<;>clear u1 v1 u2 v2<;>revert p e g q1 q2 q3<;>decide
  ·have et:((a.Tunnels.length:Int)==(b.Tunnels.length:Int))=false:=by simp;omega
   rw [ec,et,decide_eq_false ht]
   cases q1<;>cases q2<;>cases q3<;>cases g<;>simp
 ·have ec:((a.Clusters.length:Int)==(b.Clusters.length:Int))=false:=by simp;omega
  rw [ec,decide_eq_false hc]
  cases q1<;>cases q2<;>cases q3<;>cases g<;>simp
def N32 (n:Int):Prop:=0≤n∧n≤4294967295
theorem putL_len (n:Int):(putL n 4).length=4:=rfl
theorem num_val (k:Nat) (n:Int) (h:N32 n):attr_num.f (k+5) n=some (putL n 4):=by
 obtain ⟨h0,h1⟩:=h
 unfold attr_num.f
 rw [show (4:Int)=((4:Nat):Int) from rfl,put_ok k [] n 4 (by simp) (by omega) (by omega) (by omega) (by omega)]
 rfl
theorem u8wr (n:Int) (h:0≤n∧n≤255):IntKind.u8.wrap n=n:=by rw [IntKind.wrap_u8];omega
def kindL (b:Bool):Int:=if b=true then 1 else 2
def asL (l:List Int):List Int:=l.flatMap fun n=>putL n 4
def segB (s:S_api_Segment):List Int:=[kindL s.Set,(s.AS.length:Int)]++asL s.AS
def GoodS (s:S_api_Segment):Prop:=1≤s.AS.length∧s.AS.length≤255∧∀ n∈s.AS,N32 n
theorem asL_len (l:List Int):(asL l).length=4*l.length:=by
 unfold asL
 induction l with
 | nil=>rfl
 | cons a l ih=>rw [List.flatMap_cons,List.length_append,ih,putL_len,List.length_cons];omega
theorem segB_len (s:S_api_Segment):(segB s).length=2+4*s.AS.length:=by
 unfold segB
 rw [List.length_append,asL_len]
 rfl
theorem rdI (l:List Int) (i:Nat) (hi:i < l.length):rd l (i:Int)=l[i]:=by simp [rd,List.getD,hi]
theorem pb1_val (k:Nat) (l:List S_api_Segment) (s:S_api_Segment) (x9:Int) (hs:rd l x9=s) (hl:s.AS.length≤255) (hn:∀ n∈s.AS,N32 n):∀ (m kk i:Nat) (b:List Int),i+m=s.AS.length→m < kk→b.length≤1000000+4*i →
  attr_pathBytes.l1 (k+5) l x9 kk b (i:Int)=some (b++asL (s.AS.drop i))
 | 0,kk+1,i,b,h,_,_=>by rw [attr_pathBytes.l1,hs,if_neg (by simp;omega),List.drop_of_length_le (by omega)];simp [asL]
 | m+1,kk+1,i,b,h,hk,hb=>by
  have hi:i < s.AS.length:=by omega
  have hv:=num_val k s.AS[i] (hn _ (List.getElem_mem hi))
  have hp:=putL_len s.AS[i]
  rw [attr_pathBytes.l1,hs,if_pos (by simp;omega),if_pos ⟨by omega,by omega⟩,inc64 i (by omega),rdI _ _ hi,hv,Option.bind_some,if_pos (by omega)]
  rw [pb1_val k l s x9 hs hl hn m kk (i+1) (b++putL s.AS[i] 4) (by omega) (by omega) (by simp [hp];omega)]
  rw [List.drop_eq_getElem_cons hi,asL,asL,List.flatMap_cons,List.append_assoc]
theorem pb0_val (k:Nat) (l:List S_api_Segment) (hl:l.length≤16) (hg:∀ s∈l,GoodS s) (hk2:2000≤k):∀ (m kk i:Nat) (b:List Int),i+m=l.length→m < kk→b.length≤1022*i →
  attr_pathBytes.l0 (k+5) l kk b (i:Int)=some (b++(l.drop i).flatMap segB)
 | 0,kk+1,i,b,h,_,_=>by rw [attr_pathBytes.l0,if_neg (by simp;omega),List.drop_of_length_le (by omega)];simp
 | m+1,kk+1,i,b,h,hk,hb=>by
  have hi:i < l.length:=by omega
  have er:rd l (i:Int)=l[i]:=by simp [rd,List.getD,hi]
  obtain ⟨g1,g2,g3⟩:=hg l[i] (List.getElem_mem hi)
  rw [attr_pathBytes.l0,if_pos (by simp;omega),if_pos ⟨by omega,by omega⟩,inc64 i (by omega),er]
  have e1:(if l[i].Set=true then some (1:Int) else some 2)=some (kindL l[i].Set):=by unfold kindL;split<;>rfl
  rw [e1,Option.bind_some,u8wr _ (by omega),if_pos (by simp;omega)]
  have hp:=pb1_val k l l[i] (i:Int) er g2 g3 l[i].AS.length (k+5) 0 (b++[kindL l[i].Set,(l[i].AS.length:Int)]) (by omega) (by omega) (by simp;omega)
  rw [show (0:Int)=((0:Nat):Int) from rfl,hp,Option.bind_some,List.drop_zero]
  have hs:=segB_len l[i]
  rw [show b++[kindL l[i].Set,(l[i].AS.length:Int)]++asL l[i].AS=b++segB l[i] by unfold segB;rw [List.append_assoc]]
  rw [pb0_val k l hl hg hk2 m kk (i+1) (b++segB l[i]) (by omega) (by omega) (by rw [List.length_append];omega)]
  rw [List.drop_eq_getElem_cons hi,List.flatMap_cons,List.append_assoc]
theorem pb_val (k:Nat) (l:List S_api_Segment) (hl:l.length≤16) (hg:∀ s∈l,GoodS s) (hk2:2000≤k):attr_pathBytes.f (k+5) l=some (l.flatMap segB):=by
 unfold attr_pathBytes.f
 rw [show attr_pathBytes.l0 (k+5) l (k+5) [] 0=_ from pb0_val k l hl hg hk2 l.length (k+5) 0 [] (by omega) (by omega) (by simp)]
 rfl
theorem n32_of {n:Int} (h:num32 n=true):N32 n:=by
 unfold num32 at h
 unfold N32
 by_cases h1:n < 0
 ·simp [h1] at h
 ·by_cases h2:n > 4294967295
  ·simp [h1,h2] at h
  ·omega
theorem wrong2_ok (k:Nat) (s:S_api_Segment) (h:s.AS.length≤1000) (hk:2000≤k):∃ b,attr_wrong.f (k+20) s=some b∧(b=false→GoodS s):=by
 obtain ⟨c,h1,hc⟩:=as_f k (k+20) s.AS (by omega) (by omega) rfl
 unfold attr_wrong.f
 by_cases h2:(s.AS.length:Int) < 1
 ·exact ⟨true,by simp [h2],fun h=>nomatch h⟩
 ·by_cases h3:(s.AS.length:Int) > 255
  ·exact ⟨true,by simp [h2,h3],fun h=>nomatch h⟩
  ·exact ⟨c,by simp [h2,h3,h1],fun e=>⟨by omega,by omega,fun n hn=>n32_of (hc e n hn)⟩⟩
theorem sg2_l0 (k:Nat) (l:List S_api_Segment) (hl:l.length≤140737488351232) (hs:∀ s∈l,s.AS.length≤1000) (hk2:2000≤k):∀ (m kk i:Nat),i+m=l.length→m < kk→∃ r,api_Segment_85_attr_wrong.l0 (k+20) l kk (i:Int)=some r∧((r=.inr ()∧∀ x∈l.drop i,GoodS x)∨∃ j:Int,r=.inl j∧0≤j)
 | 0,kk+1,i,h,_=>⟨.inr (),by rw [api_Segment_85_attr_wrong.l0,if_neg (by simp;omega)],.inl ⟨rfl,by rw [List.drop_of_length_le (by omega)];exact fun _ h=>nomatch h⟩⟩
 | m+1,kk+1,i,h,hk=>by
  have hi:i < l.length:=by omega
  have e:IntKind.i64.wrap ((i:Int)+1)=((i+1:Nat):Int):=by rw [w64 _ (by omega)];omega
  have er:rd l (i:Int)=l[i]:=by simp [rd,List.getD,hi]
  obtain ⟨b,hb,hb2⟩:=wrong2_ok k l[i] (hs _ (List.getElem_mem hi)) hk2
  rw [api_Segment_85_attr_wrong.l0,if_pos (by simp;omega),if_pos ⟨by omega,by omega⟩,er,e,hb,Option.bind_some,List.drop_eq_getElem_cons hi]
  cases b with
  | false =>
   rw [if_neg (by simp)]
   obtain ⟨r,h1,h2⟩:=sg2_l0 k l hl hs hk2 m kk (i+1) (by omega) (by omega)
   refine ⟨r,h1,h2.imp (fun ⟨a,b⟩=>⟨a,fun x hx=>?_⟩) id⟩
   rcases List.mem_cons.1 hx with rfl | hx
   ·exact hb2 rfl
   ·exact b x hx
  | true =>
   rw [if_pos rfl]
   exact ⟨.inl (i:Int),rfl,.inr ⟨(i:Int),rfl,by omega⟩⟩
theorem path2_f (k:Nat) (l:List S_api_Segment) (hl:l.length≤1000) (hs:∀ s∈l,s.AS.length≤1000) (hk2:2000≤k):∃ b,attr_rightPath.f (k+20) l=some b∧(b=true→l.length≤16∧∀ x∈l,GoodS x):=by
 obtain ⟨r,h1,h2⟩:=sg2_l0 k l (by omega) hs hk2 l.length (k+20) 0 (by omega) (by omega)
 unfold attr_rightPath.f api_Segment_69_attr_wrong.f api_Segment_85_attr_wrong.f
 rw [show api_Segment_85_attr_wrong.l0 (k+20) l (k+20) 0=_ from h1,Option.bind_some]
 by_cases h16:(l.length:Int)≤16
 ·rcases h2 with ⟨rfl,h2⟩ | ⟨j,rfl,h2⟩
  ·exact ⟨true,by simp [h16],fun _=>⟨by omega,by simpa using h2⟩⟩
  ·exact ⟨false,by simp [h16,h2],fun h=>nomatch h⟩
 ·exact ⟨false,by simp [h16],fun h=>nomatch h⟩
structure RightY (k:Nat) (x:S_api_Attrs):Prop where
 o0:0≤x.Origin
 o1:x.Origin≤2
 m0:-1≤x.Med
 m1:x.Med≤4294967295
 p0:-1≤x.Pref
 p1:x.Pref≤4294967295
 og:(x.Originator.Size=0∧eqA 16 x.Originator.B (List.replicate 16 (0:Int))=true)∨routerB x.Originator=true
 tn:x.Tunnels.length≤1
 cl:∀ c∈x.Clusters,routerB c=true
 cn:x.Clusters.length≤32
 en:x.Exts.length≤64
 tt:∀ t∈x.Tunnels,rightT t=true
 pn:x.Path.length≤16
 ps:∀ s∈x.Path,GoodS s
 pr:attr_rightPath.f k x.Path=some true
theorem orig_ok (a:S_api_Addr) (h:(if (!((a.Size==(0:Int)) && ((eqA 16 a.B (List.replicate 16 (0:Int))) && true)))=true then some (!routerB a) else some (false:Bool))=some false):(a.Size=0∧eqA 16 a.B (List.replicate 16 (0:Int))=true)∨routerB a=true:=by
 cases hr:routerB a
 ·left
  rw [hr] at h
  cases h1:(a.Size==(0:Int))<;>cases h2:eqA 16 a.B (List.replicate 16 (0:Int))<;>rw [h1,h2] at h<;>simp at h
  exact ⟨by simpa using h1,rfl⟩
 ·exact .inr rfl
theorem rightB2_ok (k:Nat) (x:S_api_Attrs) (h1:x.Path.length≤1000) (h2:∀ s∈x.Path,s.AS.length≤1000) (h3:x.Clusters.length≤1000) (h4:x.Tunnels.length≤1000) (hk:2000≤k):∃ ok,attr_Right.f (k+20) x=some ok∧(ok=true→RightY (k+20) x):=by
 obtain ⟨p,hp,hp2⟩:=path2_f k x.Path h1 h2 hk
 obtain ⟨c,hc,hc2⟩:=cl_f k (k+20) x.Clusters (by omega) (by omega) rfl
 obtain ⟨t,ht,ht2⟩:=tn_f k (k+20) x.Tunnels (by omega) (by omega) rfl
 unfold attr_Right.f
 rw [router_ok,hp,hc,ht]
 simp only [Option.bind_some]
 by_cases a1:x.Origin < 0
 ·exact ⟨false,by simp [a1],fun h=>nomatch h⟩
 by_cases a2:x.Origin > 2
 ·exact ⟨false,by simp [a1,a2],fun h=>nomatch h⟩
 by_cases a3:x.Med < -1
 ·exact ⟨false,by simp [a1,a2,a3],fun h=>nomatch h⟩
 by_cases a4:x.Med > 4294967295
 ·exact ⟨false,by simp [a1,a2,a3,a4],fun h=>nomatch h⟩
 by_cases a5:x.Pref < -1
 ·exact ⟨false,by simp [a1,a2,a3,a4,a5],fun h=>nomatch h⟩
 by_cases a6:x.Pref > 4294967295
 ·exact ⟨false,by simp [a1,a2,a3,a4,a5,a6],fun h=>nomatch h⟩
 simp only [a1,a2,a3,a4,a5,a6,decide_false,Bool.false_eq_true,if_false,Option.bind_some]
 by_cases a7:(if (!((x.Originator.Size==(0:Int)) && ((eqA 16 x.Originator.B (List.replicate 16 (0:Int))) && true)))=true then some (!routerB x.Originator) else some (false:Bool))=some true
 ·exact ⟨false,by rw [a7];rfl,fun h=>nomatch h⟩
 have a8:(if (!((x.Originator.Size==(0:Int)) && ((eqA 16 x.Originator.B (List.replicate 16 (0:Int))) && true)))=true then some (!routerB x.Originator) else some (false:Bool))=some false:=by
  split at a7<;>rename_i q
  ·rw [if_pos q];cases hr:routerB x.Originator<;>simp_all
  ·rw [if_neg q]
 rw [a8]
 simp only [Bool.false_eq_true,if_false,Option.bind_some]
 by_cases b1:(x.Clusters.length:Int) > 32
 ·exact ⟨false,by simp [b1],fun h=>nomatch h⟩
 by_cases b2:(x.Exts.length:Int) > 64
 ·exact ⟨false,by simp [b1,b2],fun h=>nomatch h⟩
 by_cases b3:(x.Tunnels.length:Int) > 1
 ·exact ⟨false,by simp [b1,b2,b3],fun h=>nomatch h⟩
 simp only [b1,b2,b3,decide_false,Bool.false_eq_true,if_false,Option.bind_some]
 cases c with
 | true=>exact ⟨false,by simp,fun h=>nomatch h⟩
 | false =>
  cases t with
  | true=>exact ⟨false,by simp,fun h=>nomatch h⟩
  | false=>exact ⟨p,by simp,fun h=>⟨by omega,by omega,by omega,by omega,by omega,by omega,orig_ok _ a8,by omega,hc2 rfl,by omega,by omega,ht2 rfl,(hp2 h).1,(hp2 h).2,by rw [hp,h]⟩⟩
theorem router_facts {a:S_api_Addr} (h:routerB a=true):a.Size=4∧rightB a=true:=by
 unfold routerB at h
 simp only [Bool.and_eq_true,beq_iff_eq] at h
 exact h
theorem rootL_len {a:S_api_Addr} (h:routerB a=true):(rootL a).length=4:=by
 unfold rootL
 rw [List.length_take,arL_length,(router_facts h).1]
 rfl
theorem roots_len (l:List S_api_Addr) (h:∀ a∈l,routerB a=true):(l.flatMap rootL).length=4*l.length:=by
 induction l with
 | nil=>rfl
 | cons a l ih =>
  rw [List.flatMap_cons,List.length_append,ih fun s hs=>h s (by simp [hs]),rootL_len (h a (by simp)),List.length_cons]
  omega
theorem wl0_val (k:Nat) (cl:List S_api_Addr) (hl:cl.length≤32) (hr:∀ c∈cl,routerB c=true):∀ (m kk i:Nat) (b:List Int),i+m=cl.length→m < kk→b.length=4*i→Write.l0 (k+20) cl kk b (i:Int)=some (b++(cl.drop i).flatMap rootL)
 | 0,kk+1,i,b,h,_,hb=>by rw [Write.l0,if_neg (by simp;omega),List.drop_of_length_le (by omega)];simp
 | m+1,kk+1,i,b,h,hk,hb=>by
  have hi:i < cl.length:=by omega
  have er:rd cl (i:Int)=cl[i]:=by simp [rd,List.getD,hi]
  have hc:=hr _ (List.getElem_mem hi)
  have h4:=rootL_len hc
  rw [Write.l0,if_pos (by simp;omega),if_pos ⟨by omega,by omega⟩,er,inc64 i (by omega),addrbytes_ok k _ (router_facts hc).2,Option.bind_some,if_pos (by omega)]
  rw [wl0_val k cl hl hr m kk (i+1) (b++rootL cl[i]) (by omega) (by omega) (by simp;omega)]
  rw [List.drop_eq_getElem_cons hi,List.flatMap_cons,List.append_assoc]
theorem arL8 {x:List Int} (h:x.length=8):arL 8 x=x:=by have:=arL_self x;rwa [h] at this
def vE (e:List Int):Prop:=e.length=8∧isB e
def allv (l:List (List Int)):Prop:=∀ y∈l,vE y
theorem bytes_l0 (l:List (List Int)) (hv:allv l) (hl:l.length*8≤140737488351232):∀ (m i k:Nat) (out:List Int),i+m=l.length→m < k→out.length=8*i→community_Bytes.l0 l k out (i:Int)=some (out++(l.drop i).flatten)
 | 0,i,k+1,out,hi,_,_=>by rw [community_Bytes.l0,if_neg (by simp;omega),List.drop_eq_nil_of_le (by omega)];simp
 | m+1,i,k+1,out,hi,hk,ho=>by
  have hil:i < l.length:=by omega
  have hx:=hv l[i] (List.getElem_mem hil)
  have e:IntKind.i64.wrap ((i:Int)+1)=((i+1:Nat):Int):=by rw [IntKind.wrap_i64];omega
  rw [community_Bytes.l0,if_pos (by simp;omega),if_pos (by omega),rdx l i hil,arL8 hx.1,if_pos (by rw [hx.1];omega),e,bytes_l0 l hv hl m (i+1) k _ (by omega) (by omega) (by rw [List.length_append,hx.1];omega),List.drop_eq_getElem_cons hil,List.flatten_cons,List.append_assoc]
theorem bytes_ok (k:Nat) (l:List (List Int)) (hv:allv l) (hl:l.length*8≤140737488351232) (hk:l.length < k):community_Bytes.f k l=some l.flatten:=by
 have:=bytes_l0 l hv hl l.length 0 k [] (by omega) hk rfl
 unfold community_Bytes.f
 rw [show ((0:Int))=((0:Nat):Int) from rfl,this,Option.bind_some,List.drop_zero,List.nil_append]
theorem write_val (k:Nat) (x:S_api_Attrs) (R:RightY (k+20) x) (hr:attr_Right.f (k+20) x=some true) (h5:∀ t∈x.Tunnels,t.Id.length≤1024) (hv:allv x.Exts) (hk:2000≤k) :
  ∃ mb rb ob v,attr_Write.f (k+20) x=some (outp (L7 x (x.Path.flatMap segB) mb rb ob (x.Clusters.flatMap rootL) x.Exts.flatten (decide ((x.Clusters.length:Int) > 0))) (decide ((x.Tunnels.length:Int) > 0)) 192 22 v,0) ∧
   (0≤x.Med→mb=putL x.Med 4)∧(0≤x.Pref→rb=putL x.Pref 4)∧(routerB x.Originator=true→ob=rootL x.Originator)∧(∀ t,x.Tunnels=[t]→v=bytesT t):=by
 have hcn:=R.cn
 have hen:=R.en
 have htn:=R.tn
 have hpn:=R.pn
 have q1:=wl0_val k x.Clusters (by omega) R.cl x.Clusters.length (k+20) 0 [] (by omega) (by omega) rfl
 have e1:=pb_val (k+15) x.Path R.pn R.ps (by omega)
 obtain ⟨mb,q4,q4'⟩:∃ mb,attr_num.f (k+20) x.Med=some mb∧(0≤x.Med→mb=putL x.Med 4):=by
  by_cases h:0≤x.Med
  ·exact ⟨_,num_val (k+15) x.Med ⟨h,R.m1⟩,fun _=>rfl⟩
  ·obtain ⟨mb,q,_⟩:=num_tot (k+15) x.Med
   exact ⟨mb,q,fun h2=>absurd h2 h⟩
 obtain ⟨rb,q5,q5'⟩:∃ rb,attr_num.f (k+20) x.Pref=some rb∧(0≤x.Pref→rb=putL x.Pref 4):=by
  by_cases h:0≤x.Pref
  ·exact ⟨_,num_val (k+15) x.Pref ⟨h,R.p1⟩,fun _=>rfl⟩
  ·obtain ⟨mb,q,_⟩:=num_tot (k+15) x.Pref
   exact ⟨mb,q,fun h2=>absurd h2 h⟩
 obtain ⟨ob,q6,q6'⟩:∃ ob,addr_Bytes.f (k+20) x.Originator=some ob∧(routerB x.Originator=true→ob=rootL x.Originator):=by
  by_cases h:routerB x.Originator=true
  ·exact ⟨_,addrbytes_ok k _ (router_facts h).2,fun _=>rfl⟩
  ·obtain ⟨ob,q,_⟩:=abytes_ok k x.Originator
   exact ⟨ob,q,fun h2=>absurd h2 h⟩
 have e2:=bytes_ok (k+20) x.Exts hv (by omega) (by omega)
 have hdl:=roots_len x.Clusters R.cl
 have hd:decide (((x.Clusters.flatMap rootL).length:Int) > 0)=decide ((x.Clusters.length:Int) > 0):=by rw [hdl];congr 1;apply propext;omega
 have h7:=L7_len x (x.Path.flatMap segB) mb rb ob (x.Clusters.flatMap rootL) x.Exts.flatten (decide ((x.Clusters.length:Int) > 0))
 have main:∃ v,Write.l1 (k+20) x.Tunnels (k+20) (L7 x (x.Path.flatMap segB) mb rb ob (x.Clusters.flatMap rootL) x.Exts.flatten (decide ((x.Clusters.length:Int) > 0))) 0=some (outp (L7 x (x.Path.flatMap segB) mb rb ob (x.Clusters.flatMap rootL) x.Exts.flatten (decide ((x.Clusters.length:Int) > 0))) (decide ((x.Tunnels.length:Int) > 0)) 192 22 v)∧(∀ t,x.Tunnels=[t]→v=bytesT t):=by
  generalize L7 x (x.Path.flatMap segB) mb rb ob (x.Clusters.flatMap rootL) x.Exts.flatten (decide ((x.Clusters.length:Int) > 0))=L at h7
  have go:∀ T:List S_api_Tunnel,T.length≤1→(∀ t∈T,t.Id.length≤1024)→(∀ t∈T,rightT t=true)→∃ v,Write.l1 (k+20) T (k+20) L 0=some (outp L (decide ((T.length:Int) > 0)) 192 22 v)∧(∀ t,T=[t]→v=bytesT t):=by
   intro T h1 h2 h3
   match T,h1 with
   | [],_=>exact ⟨[],by rw [Write.l1,if_neg (by simp)];rfl,fun t h=>by cases h⟩
   | [t],_ =>
    have hv:pmsi_Bytes.f (k+20) t=some (bytesT t,0):=by rw [pbytes_ok k t (by have:=h2 t (by simp);omega),if_pos (h3 t (by simp))]
    refine ⟨bytesT t,?_,fun t' h=>by cases h;rfl⟩
    rw [Write.l1,if_pos (by simp),if_pos ⟨by omega,by simp⟩,show rd [t] (0:Int)=t from rfl,hv,Option.bind_some,if_pos (by omega),show IntKind.i64.wrap ((0:Int)+1)=1 from rfl,show k+19=(k+18)+1 from rfl,Write.l1,if_neg (by simp)]
    rfl
  exact go x.Tunnels htn h5 R.tt
 obtain ⟨v,hv2,hv3⟩:=main
 refine ⟨mb,rb,ob,v,?_,q4',q5',q6',hv3⟩
 unfold L7 at hv2 ⊢
 unfold attr_Write.f
 rw [hr,Option.bind_some,show Write.l0 (k+20) x.Clusters (k+20) [] 0=_ from q1,show attr_pathBytes.f (k+20) x.Path=_ from e1,q4,q5,q6,e2]
 simp only [Bool.not_true,Bool.false_eq_true,if_false,Option.bind_some,List.nil_append,List.drop_zero,hd]
 rw [show Write.l1 (k+20) x.Tunnels (k+20) _ 0=_ from hv2,Option.bind_some]
theorem rcbytes_l0 (l:List (List Int)) (hv:allv l) (hl:l.length*8≤140737488351232):∀ (m i k:Nat) (out:List Int),i+m=l.length→m < k→out.length=8*i→vineryref04_Bytes.l0 l k out (i:Int)=some (out++(l.drop i).flatten)
 | 0,i,k+1,out,hi,_,_=>by rw [vineryref04_Bytes.l0,if_neg (by simp;omega),List.drop_eq_nil_of_le (by omega)];simp
 | m+1,i,k+1,out,hi,hk,ho=>by
  have hil:i < l.length:=by omega
  have hx:=hv l[i] (List.getElem_mem hil)
  have e:IntKind.i64.wrap ((i:Int)+1)=((i+1:Nat):Int):=by rw [IntKind.wrap_i64];omega
  rw [vineryref04_Bytes.l0,if_pos (by simp;omega),if_pos (by omega),rdx l i hil,arL8 hx.1,if_pos (by rw [hx.1];omega),e,rcbytes_l0 l hv hl m (i+1) k _ (by omega) (by omega) (by rw [List.length_append,hx.1];omega),List.drop_eq_getElem_cons hil,List.flatten_cons,List.append_assoc]
theorem rcbytes_ok (k:Nat) (l:List (List Int)) (hv:allv l) (hl:l.length*8≤140737488351232) (hk:l.length < k):vineryref04_Bytes.f k l=some l.flatten:=by
 have:=rcbytes_l0 l hv hl l.length 0 k [] (by omega) hk rfl
 unfold vineryref04_Bytes.f
 rw [show ((0:Int))=((0:Nat):Int) from rfl,this,Option.bind_some,List.drop_zero,List.nil_append]
theorem rb4 (k:Nat) (n:Int) (h:0≤n):vineryref01_Bytes.f (k+5) n 4=some (putL n 4):=refbytes_ok k n 4 (by omega) (by omega) h
theorem rwl0_val (k:Nat) (x:S_api_Attrs) (hl:x.Clusters.length≤32) (hr:∀ c∈x.Clusters,routerB c=true):∀ (m kk i:Nat) (b:List Int),i+m=x.Clusters.length→m < kk→b.length=4*i→vineryref09_Write.l0 (k+20) x kk b (i:Int)=some (b++(x.Clusters.drop i).flatMap rootL)
 | 0,kk+1,i,b,h,_,hb=>by rw [vineryref09_Write.l0,if_neg (by simp;omega),List.drop_of_length_le (by omega)];simp
 | m+1,kk+1,i,b,h,hk,hb=>by
  have hi:i < x.Clusters.length:=by omega
  have hc:=hr _ (List.getElem_mem hi)
  have h4:=rootL_len hc
  rw [vineryref09_Write.l0,if_pos (by simp;omega),if_pos ⟨by omega,by omega⟩,rdx _ i hi,inc64 i (by omega),raddrbytes_ok k _ (router_facts hc).2,Option.bind_some,if_pos (by omega)]
  rw [rwl0_val k x hl hr m kk (i+1) (b++rootL x.Clusters[i]) (by omega) (by omega) (by simp;omega)]
  rw [List.drop_eq_getElem_cons hi,List.flatMap_cons,List.append_assoc]
theorem rpb1_val (k:Nat) (l:List S_api_Segment) (j:Nat) (hj:j < l.length) (hl:l[j].AS.length≤255) (hn:∀ n∈l[j].AS,N32 n):∀ (m kk i:Nat) (b:List Int),i+m=l[j].AS.length→m < kk→b.length≤1000000+4*i →
  vineryref09_pathBytes.l1 (k+5) l (j:Int) kk b (i:Int)=some (b++asL (l[j].AS.drop i))
 | 0,kk+1,i,b,h,_,_=>by rw [vineryref09_pathBytes.l1,if_pos ⟨by omega,by omega⟩,rdx l j hj,if_neg (by simp;omega),List.drop_of_length_le (by omega)];simp [asL]
 | m+1,kk+1,i,b,h,hk,hb=>by
  have hi:i < l[j].AS.length:=by omega
  have g1:0≤(j:Int)∧(j:Int) < (l.length:Int):=by omega
  have hv:=rb4 k l[j].AS[i] (hn _ (List.getElem_mem hi)).1
  have hp:=putL_len l[j].AS[i]
  rw [vineryref09_pathBytes.l1,if_pos g1,rdx l j hj,if_pos (by simp;omega),if_pos g1,if_pos ⟨by omega,by omega⟩,inc64 i (by omega),rdx _ i hi,hv,Option.bind_some,if_pos (by omega)]
  rw [rpb1_val k l j hj hl hn m kk (i+1) (b++putL l[j].AS[i] 4) (by omega) (by omega) (by simp [hp];omega)]
  rw [List.drop_eq_getElem_cons hi,asL,asL,List.flatMap_cons,List.append_assoc]
theorem rpb0_val (k:Nat) (l:List S_api_Segment) (hl:l.length≤16) (hg:∀ s∈l,GoodS s) (hk2:2000≤k):∀ (m kk i:Nat) (b:List Int),i+m=l.length→m < kk→b.length≤1022*i →
  vineryref09_pathBytes.l0 (k+5) l kk b (i:Int)=some (b++(l.drop i).flatMap segB)
 | 0,kk+1,i,b,h,_,_=>by rw [vineryref09_pathBytes.l0,if_neg (by simp;omega),List.drop_of_length_le (by omega)];simp
 | m+1,kk+1,i,b,h,hk,hb=>by
  have hi:i < l.length:=by omega
  have g1':0≤(i:Int)∧(i:Int) < (l.length:Int):=by omega
  obtain ⟨g1,g2,g3⟩:=hg l[i] (List.getElem_mem hi)
  have e1:(if l[i].Set=true then some (1:Int) else some 2)=some (kindL l[i].Set):=by unfold kindL;split<;>rfl
  rw [vineryref09_pathBytes.l0,if_pos (by simp;omega),if_pos g1',inc64 i (by omega),rdx l i hi,e1,Option.bind_some,if_pos g1',u8wr _ (by omega),if_pos (by simp;omega)]
  have hp:=rpb1_val k l i hi g2 g3 l[i].AS.length (k+5) 0 (b++[kindL l[i].Set,(l[i].AS.length:Int)]) (by omega) (by omega) (by simp;omega)
  rw [show (0:Int)=((0:Nat):Int) from rfl,hp,Option.bind_some,List.drop_zero]
  have hs:=segB_len l[i]
  rw [show b++[kindL l[i].Set,(l[i].AS.length:Int)]++asL l[i].AS=b++segB l[i] by unfold segB;rw [List.append_assoc]]
  rw [rpb0_val k l hl hg hk2 m kk (i+1) (b++segB l[i]) (by omega) (by omega) (by rw [List.length_append];omega)]
  rw [List.drop_eq_getElem_cons hi,List.flatMap_cons,List.append_assoc]
theorem rpb_val (k:Nat) (l:List S_api_Segment) (hl:l.length≤16) (hg:∀ s∈l,GoodS s) (hk2:2000≤k):vineryref09_pathBytes.f (k+5) l=some (l.flatMap segB):=by
 unfold vineryref09_pathBytes.f
 rw [show vineryref09_pathBytes.l0 (k+5) l (k+5) [] 0=_ from rpb0_val k l hl hg hk2 l.length (k+5) 0 [] (by omega) (by omega) (by simp)]
 rfl
theorem rput (is:Bool) (s:List S_api_Raw) (f kd:Int) (v w:List Int) (c:Option (List Int)) (hs:s.length≤100) (hc:is=true→c=some w∧v=w) :
  (if is=true then c.bind fun t=>(if (s.length+([(⟨f,kd,t⟩:S_api_Raw)]:List S_api_Raw).length)*40≤140737488355328 then some (s++([(⟨f,kd,t⟩:S_api_Raw)]:List S_api_Raw)) else none) else some s)=some (outp s is f kd v):=by
 cases is with
 | false=>rfl
 | true =>
  obtain ⟨h1,h2⟩:=hc rfl
  rw [if_pos rfl,h1,Option.bind_some,if_pos (by simp;omega),h2]
  rfl
theorem outp_le {l:List S_api_Raw} {n:Nat} (is:Bool) (f k:Int) (v:List Int) (h:l.length≤n):(outp l is f k v).length≤n+1:=Nat.le_trans (outp_len2 _ _ _ _ _) (Nat.succ_le_succ h)
theorem rwrite (k:Nat) (x:S_api_Attrs) (R:RightY (k+20) x) (hr:vineryref09_Right.f (k+20) x=some true) (hI:∀ t∈x.Tunnels,t.Id.length≤1000000∧isB t.Id) (hv:allv x.Exts) (hk:2000≤k) (mb rb ob v:List Int)
  (hmb:0≤x.Med→mb=putL x.Med 4) (hrb:0≤x.Pref→rb=putL x.Pref 4) (hob:routerB x.Originator=true→ob=rootL x.Originator) (hvv:∀ t,x.Tunnels=[t]→v=bytesT t) :
  vineryref09_Write.f (k+20) x=some (outp (L7 x (x.Path.flatMap segB) mb rb ob (x.Clusters.flatMap rootL) x.Exts.flatten (decide ((x.Clusters.length:Int) > 0))) (decide ((x.Tunnels.length:Int) > 0)) 192 22 v,0):=by
 have hcn:=R.cn
 have hen:=R.en
 have htn:=R.tn
 have hpn:=R.pn
 have hcl:=roots_len x.Clusters R.cl
 have hd:decide (((x.Clusters.flatMap rootL).length:Int) > 0)=decide ((x.Clusters.length:Int) > 0):=by rw [hcl];congr 1;apply propext;omega
 unfold vineryref09_Write.f L7
 rw [hr,Option.bind_some,if_neg (by simp),show vineryref09_pathBytes.f (k+20) x.Path=_ from rpb_val (k+15) x.Path R.pn R.ps (by omega),Option.bind_some,Option.bind_some]
 rw [show ([(⟨(64:Int),(1:Int),([IntKind.u8.wrap x.Origin]:List Int)⟩:S_api_Raw),(⟨(64:Int),(2:Int),x.Path.flatMap segB⟩:S_api_Raw)]:List S_api_Raw)=outp (outp [] true 64 1 [IntKind.u8.wrap x.Origin]) true 64 2 (x.Path.flatMap segB) from rfl]
 have n2:(outp (outp [] true 64 1 [IntKind.u8.wrap x.Origin]) true 64 2 (x.Path.flatMap segB)).length≤2:=outp_le _ _ _ _ (outp_le _ _ _ _ (Nat.le_refl 0))
 generalize outp (outp [] true 64 1 [IntKind.u8.wrap x.Origin]) true 64 2 (x.Path.flatMap segB)=s2 at n2
 rw [rput (decide (x.Med ≥ (0:Int))) s2 128 4 mb (putL x.Med 4) _ (by omega) (fun h=>⟨rb4 (k+15) x.Med (of_decide_eq_true h),hmb (of_decide_eq_true h)⟩),Option.bind_some]
 have n3:=outp_le (decide (x.Med ≥ (0:Int))) 128 4 mb n2
 generalize outp s2 (decide (x.Med ≥ (0:Int))) 128 4 mb=s3 at n3
 rw [rput (decide (x.Pref ≥ (0:Int))) s3 64 5 rb (putL x.Pref 4) _ (by omega) (fun h=>⟨rb4 (k+15) x.Pref (of_decide_eq_true h),hrb (of_decide_eq_true h)⟩),Option.bind_some]
 have n4:=outp_le (decide (x.Pref ≥ (0:Int))) 64 5 rb n3
 generalize outp s3 (decide (x.Pref ≥ (0:Int))) 64 5 rb=s4 at n4
 rw [rput (decide (x.Originator.Size > (0:Int))) s4 128 9 ob (rootL x.Originator) _ (by omega) (fun h=>by
  have h0:0 < x.Originator.Size:=of_decide_eq_true h
  have hro:routerB x.Originator=true:=R.og.elim (fun q=>by omega) id
  exact ⟨raddrbytes_ok k _ (router_facts hro).2,hob hro⟩),Option.bind_some]
 have n5:=outp_le (decide (x.Originator.Size > (0:Int))) 128 9 ob n4
 generalize outp s4 (decide (x.Originator.Size > (0:Int))) 128 9 ob=s5 at n5
 rw [show vineryref09_Write.l0 (k+20) x (k+20) [] 0=_ from rwl0_val k x R.cn R.cl x.Clusters.length (k+20) 0 [] (by omega) (by omega) rfl,Option.bind_some]
 simp only [List.nil_append,List.drop_zero]
 have q6:=rput (decide (((x.Clusters.flatMap rootL).length:Int) > (0:Int))) s5 128 10 (x.Clusters.flatMap rootL) (x.Clusters.flatMap rootL) (some (x.Clusters.flatMap rootL)) (by omega) (fun _=>⟨rfl,rfl⟩)
 rw [Option.bind_some] at q6
 rw [q6,Option.bind_some,hd]
 have n6:=outp_le (decide ((x.Clusters.length:Int) > 0)) 128 10 (x.Clusters.flatMap rootL) n5
 generalize outp s5 (decide ((x.Clusters.length:Int) > 0)) 128 10 (x.Clusters.flatMap rootL)=s6 at n6
 rw [rput (decide ((x.Exts.length:Int) > (0:Int))) s6 192 16 x.Exts.flatten x.Exts.flatten _ (by omega) (fun _=>⟨rcbytes_ok (k+20) x.Exts hv (by omega) (by omega),rfl⟩),Option.bind_some]
 have n7:=outp_le (decide ((x.Exts.length:Int) > (0:Int))) 192 16 x.Exts.flatten n6
 generalize outp s6 (decide ((x.Exts.length:Int) > (0:Int))) 192 16 x.Exts.flatten=s7 at n7
 by_cases ht:(x.Tunnels.length:Int) > 0
 ·obtain ⟨t,e⟩:∃ t,x.Tunnels=[t]:=List.length_eq_one_iff.1 (by omega)
  have hm:t∈x.Tunnels:=by rw [e];simp
  have hrb2:vineryref06_Bytes.f (k+20) t=some (bytesT t,0):=by rw [rbytes_ok k t (by have:=hI t hm;omega) (hI t hm).2,if_pos (R.tt t hm)]
  have er:rd x.Tunnels (0:Int)=t:=by rw [e];rfl
  rw [if_pos (by simpa using ht),if_pos ⟨by omega,by omega⟩,er,hrb2,Option.bind_some,if_pos (by simp;omega),Option.bind_some,decide_eq_true ht,hvv t e]
  rfl
 ·rw [if_neg (by simpa using ht),Option.bind_some,decide_eq_false ht]
  rfl
theorem same_l0 (l:List S_api_Raw) (hl:l.length≤100):∀ (m kk i:Nat),i+m=l.length→m < kk→vineryref09_SameRaws.l0 l l kk (i:Int)=some (.inr ())
 | 0,kk+1,i,h,_=>by rw [vineryref09_SameRaws.l0,if_neg (by simp;omega)]
 | m+1,kk+1,i,h,hk=>by
  have hi:i < l.length:=by omega
  have e:IntKind.i64.wrap ((i:Int)+1)=((i+1:Nat):Int):=by rw [w64 _ (by omega)];omega
  have hr:0≤(i:Int)∧(i:Int) < (l.length:Int):=by omega
  rw [vineryref09_SameRaws.l0,if_pos (by simp;omega),e]
  simp only [if_pos hr,bne_self_eq_false,Bool.false_eq_true,if_false,BEq.rfl,Bool.not_true,Option.bind_some]
  exact same_l0 l hl m kk (i+1) (by omega) (by omega)
theorem same_f (k:Nat) (l:List S_api_Raw) (hl:l.length≤100) (hk:200≤k):vineryref09_SameRaws.f k l l=some true:=by
 unfold vineryref09_SameRaws.f
 rw [if_neg (by simp),show vineryref09_SameRaws.l0 l l k 0=_ from same_l0 l hl l.length k 0 (by omega) (by omega),Option.bind_some]
theorem eqA_refl (n:Nat) (x:List Int):eqA n x x=true:=(eqA_iff _ _ _).2 fun _ _=>rfl
theorem allZ_refl {α:Type} (P:α→α→Bool) (h:∀ x,P x x=true):∀ l:List α,allZ P l l=true
 | []=>rfl
 | x::l=>by unfold allZ;rw [h x,allZ_refl P h l];rfl
theorem adE_refl (a:S_api_Addr):adE a a=true:=by unfold adE;rw [eqA_refl];simp
theorem iE_refl (a:Int):iE a a=true:=by unfold iE;simp
theorem segE_refl (s:S_api_Segment):segE s s=true:=by unfold segE;rw [allZ_refl iE iE_refl];simp
theorem exE_refl (a:List Int):exE a a=true:=eqA_refl _ _
theorem tnE_refl (t:S_api_Tunnel):tnE t t=true:=by unfold tnE;rw [eqA_refl];simp
theorem sameAB_refl (x:S_api_Attrs):sameAB x x=true:=by
 unfold sameAB
 rw [adE_refl,allZ_refl segE segE_refl,allZ_refl adE adE_refl,allZ_refl exE exE_refl,allZ_refl tnE tnE_refl]
 simp
theorem okl {α:Type} {c:Nat} {P:α→Prop} {l:List α} (h:okL (c+1) P l):l.length≤140737488351232:=by
 have:=h.1
 unfold reachBytes at this
 have:l.length*1≤l.length*(c+1):=Nat.mul_le_mul_left _ (Nat.succ_le_succ (Nat.zero_le c))
 omega
theorem writes (k:Nat) (x:S_api_Attrs) (hx:okS_api_Attrs x) (h1:x.Path.length≤1000) (h2:∀ s∈x.Path,s.AS.length≤1000) (h3:x.Clusters.length≤1000) (h4:x.Tunnels.length≤1000) (h5:∀ t∈x.Tunnels,t.Id.length≤1024) (hk:2000≤k) :
  ∃ W e,attr_Write.f (k+20) x=some (W,e)∧vineryref09_Write.f (k+20) x=some (W,e)∧W.length≤100:=by
 have hI:∀ t∈x.Tunnels,t.Id.length≤1000000∧isB t.Id:=fun t ht=>⟨by have:=h5 t ht;omega,okL_isB (hx.2.2.2.2.2.2.2.2 t ht).2.2.2.2⟩
 have hv:allv x.Exts:=fun e he=>by
  have:=hx.2.2.2.2.2.2.1.2 e he
  exact ⟨this.1,okA_isB this⟩
 have r1:=xright k x h1 h2 h3 h4 hk
 have r2:=rright k x h1 h2 h3 h4 hI hk
 cases hr:rightAB x with
 | false =>
  rw [hr] at r1 r2
  refine ⟨[],1,?_,?_,by simp⟩
  ·unfold attr_Write.f;rw [r1];rfl
  ·unfold vineryref09_Write.f;rw [r2];rfl
 | true =>
  rw [hr] at r1 r2
  obtain ⟨ok,hok,hR⟩:=rightB2_ok k x h1 h2 h3 h4 hk
  have R:=hR (by rw [hok] at r1;exact Option.some.inj r1)
  obtain ⟨mb,rb,ob,v,w,hmb,hrb,hob,hvv⟩:=write_val k x R r1 h5 hv hk
  refine ⟨_,0,w,rwrite k x R r2 hI hv hk mb rb ob v hmb hrb hob hvv,?_⟩
  have:=L7_len x (x.Path.flatMap segB) mb rb ob (x.Clusters.flatMap rootL) x.Exts.flatten (decide ((x.Clusters.length:Int) > 0))
  exact Nat.le_trans (outp_len2 _ _ _ _ _) (by omega)
theorem AttrWrites.law (x:S_api_Attrs) (hx:okS_api_Attrs x) (y:S_api_Attrs) (hy:okS_api_Attrs y):∃ k,vinerylaw09_AttrWrites.f k x y=some true:=by
 have l1:x.Path.length≤140737488351232:=okl hx.2.1
 have l2:x.Tunnels.length≤140737488351232:=okl hx.2.2.2.2.2.2.2
 have l3:y.Path.length≤140737488351232:=okl hy.2.1
 have l4:y.Tunnels.length≤140737488351232:=okl hy.2.2.2.2.2.2.2
 refine ⟨(x.Path.length+x.Tunnels.length+y.Path.length+y.Tunnels.length+3000)+20,?_⟩
 obtain ⟨b,hb,hb2⟩:=few_ok ((x.Path.length+x.Tunnels.length+y.Path.length+y.Tunnels.length+3000)+20) x l1 l2 ⟨by omega,by omega⟩
 obtain ⟨c,hc,_⟩:=few_ok ((x.Path.length+x.Tunnels.length+y.Path.length+y.Tunnels.length+3000)+20) y l3 l4 ⟨by omega,by omega⟩
 generalize hK:(x.Path.length+x.Tunnels.length+y.Path.length+y.Tunnels.length+3000)=K at hb hc
 have hK2:2000≤K:=by omega
 unfold vinerylaw09_AttrWrites.f
 rw [small09,Option.bind_some,hb,Option.bind_some,hc,Option.bind_some]
 cases b with
 | false=>rfl
 | true =>
  cases c with
  | false=>rfl
  | true =>
   obtain ⟨c1,c2,c3,c4,c5,c6⟩:=hb2 rfl
   have p2:∀ s∈x.Path,s.AS.length≤1000:=fun s hs=>by have:=c2 s hs;omega
   have hI:∀ t∈x.Tunnels,t.Id.length≤1000000∧isB t.Id:=fun t ht=>⟨by have:=c6 t ht;omega,okL_isB (hx.2.2.2.2.2.2.2.2 t ht).2.2.2.2⟩
   obtain ⟨W,e,w1,w2,w3⟩:=writes K x hx (by omega) p2 (by omega) (by omega) c6 hK2
   have hs:=same_f (K+20) W w3 (by omega)
   have hsp:vinerylaw09_spoil.f W=some ():=by unfold vinerylaw09_spoil.f;rw [if_pos (by omega)]
   have r1:=xright K x (by omega) p2 (by omega) (by omega) hK2
   have r2:=rright K x (by omega) p2 (by omega) (by omega) hI hK2
   have s1:=xsame (K+20) x y (by omega) p2 (by omega) (by omega) (by omega) (by omega)
   have s2:=rsame (K+20) x y (by omega) p2 (by omega) (by omega) (by omega) (by omega)
   have s3:=xsame (K+20) x x (by omega) p2 (by omega) (by omega) (by omega) (by omega)
   rw [sameAB_refl] at s3
   have s4:=rsame (K+20) (⟨0,[],-1,-1,⟨0,List.replicate 16 0⟩,[],[],[]⟩:S_api_Attrs) ⟨0,[],-1,-1,⟨0,List.replicate 16 0⟩,[],[],[]⟩ (by simp) (fun _ h=>nomatch h) (by simp) (by simp) (by simp) (by omega)
   rw [sameAB_refl] at s4
   rw [if_neg (by simp),w1,Option.bind_some,w2,Option.bind_some,hs,Option.bind_some,hsp,Option.bind_some,Option.bind_some,r1,Option.bind_some,r2,Option.bind_some,s1,Option.bind_some,s2,Option.bind_some,s3,Option.bind_some]
   unfold attr_None.f vineryref09_None.f
   rw [Option.bind_some,Option.bind_some,s4,Option.bind_some,hs,Option.bind_some]
   have e1:∀ q:Bool,(q==q)=true:=fun q=>by cases q<;>rfl
   have e2:(e==e)=true:=by simp
   rw [e1,e1,e2]
   rfl
end Go.E
