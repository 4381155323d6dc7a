/- The plain law: what the walk computes is true, whatever the input. -/
import Derived.Test.YtoeenagdbjppgaaDoorGenAttrBack
import Derived.Test.YtoeenagdbjppgaaDoorEngR
set_option linter.unusedVariables false
set_option linter.unusedSimpArgs false
namespace Go.E
theorem bstr_toList (l:List UInt8):(bstr l).toList=l:=by rw [ByteArray.toList_eq];simp [bstr]
theorem clone_ok (l:List Int) (h:l.length≤140737488355328):bytes_Clone.f l=some l:=if_pos h
theorem next_bad (r:S_cursor_rest) (n:Int) (h:r.bad=true∨n < 0∨n > r.left.length):cursor_rest_next.f r n=some ([],⟨r.left,true⟩):=by
 unfold cursor_rest_next.f
 by_cases hb:r.bad=true
 ·simp [hb]
 ·by_cases h1:n < 0
  ·simp [hb,h1]
  ·have h2:(r.left.length:Int) < n:=by rcases h with h | h | h<;>first | exact absurd h hb | exact absurd h h1 | exact h
   simp [hb,h1,h2]
theorem next_ok (r:S_cursor_rest) (n:Int) (hb:r.bad=false) (h0:0≤n) (h1:n≤r.left.length):cursor_rest_next.f r n=some (r.left.take n.toNat,⟨r.left.drop n.toNat,false⟩):=by
 unfold cursor_rest_next.f
 have e0:¬ n < 0:=by omega
 have e1:¬ (r.left.length:Int) < n:=by omega
 simp [hb,e0,e1,h0,h1]
theorem take_bad (r:S_cursor_Reader) (n:Int) (h:r.rest.bad=true∨n < 0∨n > r.rest.left.length):cursor_Reader_Take.f r n=some ([],⟨⟨r.rest.left,true⟩⟩):=by
 unfold cursor_Reader_Take.f
 rw [next_bad _ _ h,Option.bind_some,clone_ok _ (by simp)]
 rfl
theorem take_ok (r:S_cursor_Reader) (n:Int) (hl:r.rest.left.length≤140737488355328) (hb:r.rest.bad=false) (h0:0≤n) (h1:n≤r.rest.left.length) :
  cursor_Reader_Take.f r n=some (r.rest.left.take n.toNat,⟨⟨r.rest.left.drop n.toNat,false⟩⟩):=by
 unfold cursor_Reader_Take.f
 rw [next_ok _ _ hb h0 h1,Option.bind_some,clone_ok _ (by simp;omega)]
 rfl
def numL:List Int→Int→Int
 | [],x=>x
 | c::l,x=>numL l (IntKind.i64.wrap (BitVec.ofInt IntKind.i64.bits (IntKind.i64.wrap (x*2^(min (8:Int).toNat IntKind.i64.bits))) ||| BitVec.ofInt IntKind.i64.bits (IntKind.i64.wrap c)).toNat)
theorem num_l0 (t:List Int×S_cursor_rest) (hl:t.1.length≤140737488355328):∀ (m k i:Nat) (x:Int),m+i=t.1.length→m < k→cursor_Reader_Num.l0 t k x (i:Int)=some (numL (t.1.drop i) x)
 | 0,k+1,i,x,h,_=>by
  unfold cursor_Reader_Num.l0
  rw [if_neg (by simp;omega),List.drop_of_length_le (by omega)]
  rfl
 | m+1,k+1,i,x,h,hk=>by
  unfold cursor_Reader_Num.l0
  have hi:i < t.1.length:=by omega
  have e:IntKind.i64.wrap ((i:Int)+1)=((i+1:Nat):Int):=by rw [IntKind.wrap_i64];omega
  rw [if_pos (by simpa using hi),if_pos (by omega),e,num_l0 t hl m k (i+1) _ (by omega) (by omega),List.drop_eq_getElem_cons hi]
  have er:rd t.1 (i:Int)=t.1[i]:=by simp [rd,List.getD,hi]
  rw [er]
  rfl
theorem num_bad (k:Nat) (r:S_cursor_Reader) (n:Int) (h:r.rest.bad=true∨n < 1∨n > 4∨n > r.rest.left.length):cursor_Reader_Num.f (k+1) r n=some (0,⟨⟨r.rest.left,true⟩⟩):=by
 unfold cursor_Reader_Num.f
 have hl:cursor_Reader_Num.l0 ([],⟨r.rest.left,true⟩) (k+1) 0 0=some 0:=by unfold cursor_Reader_Num.l0;simp
 by_cases hs:n < 1∨n > 4
 ·have:(if decide (n < 1)=true then true else decide (n > 4))=true:=by rcases hs with h | h<;>simp [h]
  rw [if_pos this,Option.bind_some,next_bad _ _ (by omega),Option.bind_some,hl]
  rfl
 ·have h1:¬ n < 1:=fun e=>hs (.inl e)
  have h2:¬ 4 < n:=fun e=>hs (.inr e)
  have:¬ (if decide (n < 1)=true then true else decide (n > 4))=true:=by simp [h1,h2]
  rw [if_neg this,Option.bind_some,next_bad _ _ (by rcases h with h | h | h | h<;>first | exact .inl h | exact absurd h h1 | exact absurd h h2 | exact .inr (.inr h)),Option.bind_some,hl]
  rfl
theorem num_ok (k:Nat) (r:S_cursor_Reader) (n:Int) (hb:r.rest.bad=false) (h1:1≤n) (h4:n≤4) (hn:n≤r.rest.left.length) :
  cursor_Reader_Num.f (k+5) r n=some (numL (r.rest.left.take n.toNat) 0,⟨⟨r.rest.left.drop n.toNat,false⟩⟩):=by
 unfold cursor_Reader_Num.f
 have e1:¬ n < 1:=by omega
 have e4:¬ 4 < n:=by omega
 rw [if_neg (by simp [e1,e4]),Option.bind_some,next_ok _ _ hb (by omega) hn,Option.bind_some]
 have hl:(r.rest.left.take n.toNat).length≤4:=by simp;omega
 have:=num_l0 (r.rest.left.take n.toNat,⟨r.rest.left.drop n.toNat,false⟩) (by show (r.rest.left.take n.toNat).length≤_;omega) (r.rest.left.take n.toNat).length (k+5) 0 0 rfl (by omega)
 simp only [Int.ofNat_zero,Int.natCast_zero,List.drop_zero] at this
 rw [this]
 rfl
theorem fdiv_pos (n:Int) (d:Nat) (hn:0≤n):Int.fdiv n (2^d)=n / (2^d):=Int.fdiv_eq_ediv_of_nonneg _ (Int.le_of_lt (Int.pow_pos (by decide)))
theorem put_step (n:Int) (hn:0≤n) (k:Nat) (x:List Int) (i:Nat) (hi:i≤32) (hx:x.length+1≤140737488355328) :
  cursor_Put.l0 n (k+1) x (i:Int)=cursor_Put.l0 n k (x++[(n / 2^i) % 256]) ((i:Int) - 8):=by
 rw [cursor_Put.l0]
 have h0:(0:Int)≤(i:Int):=by omega
 have e:IntKind.i64.wrap ((i:Int) - 8)=(i:Int) - 8:=by rw [IntKind.wrap_i64];omega
 have hm:min ((i:Int).toNat) IntKind.i64.bits=i:=by
  show min i 64=i
  omega
 rw [if_pos (by simp),if_pos h0,if_pos (by simp;omega),e,hm,fdiv_pos _ _ hn,IntKind.wrap_u8]
theorem put_end (n:Int) (k:Nat) (x:List Int) (i:Int) (hi:i < 0):cursor_Put.l0 n (k+1) x i=some x:=by
 rw [cursor_Put.l0,if_neg (by simp;omega)]
def putL (n:Int):Nat→List Int
 | 1=>[n % 256]
 | 2=>[n / 256 % 256,n % 256]
 | 3=>[n / 65536 % 256,n / 256 % 256,n % 256]
 | 4=>[n / 16777216 % 256,n / 65536 % 256,n / 256 % 256,n % 256]
 | _=>[]
theorem put_bad5 (k:Nat) (b:List Int) (n s:Int) (h1:1≤s) (h4:s≤4) (h:n < 0∨n ≥ 2^(8*s.toNat)):cursor_Put.f k b n s=some ([],5):=by
 unfold cursor_Put.f
 have:¬ (if decide (s < 1)=true then true else decide (s > 4))=true:=by simp;omega
 rw [if_neg this]
 have e:IntKind.i64.wrap ((8:Int)*s)=8*s:=by rw [IntKind.wrap_i64];omega
 rw [e]
 by_cases hn:n < 0
 ·simp [hn]
 ·have hge:n ≥ 2^(8*s.toNat):=h.resolve_left hn
  have hm:min ((8*s).toNat) IntKind.i64.bits=8*s.toNat:=by show min _ 64=_;omega
  have hne:(Int.fdiv n (2^(8*s.toNat)) != 0)=true:=by
   rw [fdiv_pos _ _ (by omega)]
   have hp:(0:Int) < 2^(8*s.toNat):=Int.pow_pos (by decide)
   have:1≤n / 2^(8*s.toNat):=(Int.le_ediv_iff_mul_le hp).2 (by omega)
   simp;omega
  rw [if_neg (by simpa using hn),if_pos (by omega),hm,hne]
  rfl
theorem put_ok (k:Nat) (b:List Int) (n:Int) (s:Nat) (hb:b.length≤140737488351232) (h1:1≤s) (h4:s≤4) (hn:0≤n) (hlt:n < 2^(8*s)):cursor_Put.f (k+5) b n (s:Int)=some (b++putL n s,0):=by
 unfold cursor_Put.f
 have:¬ (if decide ((s:Int) < 1)=true then true else decide ((s:Int) > 4))=true:=by simp;omega
 rw [if_neg this]
 have e:IntKind.i64.wrap ((8:Int)*(s:Int))=8*(s:Int):=by rw [IntKind.wrap_i64];omega
 have e2:IntKind.i64.wrap ((8:Int)*IntKind.i64.wrap ((s:Int) - 1))=8*((s:Int) - 1):=by rw [IntKind.wrap_i64,IntKind.wrap_i64];omega
 rw [e,e2]
 have hm:min ((8*(s:Int)).toNat) IntKind.i64.bits=8*s:=by show min _ 64=_;omega
 have hz:(Int.fdiv n (2^(8*s)) != 0)=false:=by
  rw [fdiv_pos _ _ hn,Int.ediv_eq_zero_of_lt hn hlt];rfl
 rw [if_neg (by simpa using hn),if_pos (by omega),hm,hz,Option.bind_some,if_neg (by simp),clone_ok _ (by omega),Option.bind_some]
 rcases (show s=1∨s=2∨s=3∨s=4 by omega) with rfl | rfl | rfl | rfl
 ·have:=put_step n hn (k+4) b 0 (by omega) (by omega)
  rw [show (8:Int)*((1:Nat) - 1)=((0:Nat):Int) from rfl,this,put_end _ _ _ _ (by omega)]
  simp [putL]
 ·have s1:=put_step n hn (k+4) b 8 (by omega) (by omega)
  have s2:=put_step n hn (k+3) (b++[n / 2^8 % 256]) 0 (by omega) (by simp;omega)
  rw [show (8:Int)*((2:Nat) - 1)=((8:Nat):Int) from rfl,s1,show ((8:Nat):Int) - 8=((0:Nat):Int) from rfl,s2,put_end _ _ _ _ (by omega)]
  simp [putL]
 ·have s1:=put_step n hn (k+4) b 16 (by omega) (by omega)
  have s2:=put_step n hn (k+3) (b++[n / 2^16 % 256]) 8 (by omega) (by simp;omega)
  have s3:=put_step n hn (k+2) (b++[n / 2^16 % 256]++[n / 2^8 % 256]) 0 (by omega) (by simp;omega)
  rw [show (8:Int)*((3:Nat) - 1)=((16:Nat):Int) from rfl,s1,show ((16:Nat):Int) - 8=((8:Nat):Int) from rfl,s2,show ((8:Nat):Int) - 8=((0:Nat):Int) from rfl,s3,put_end _ _ _ _ (by omega)]
  simp [putL]
 ·have s1:=put_step n hn (k+4) b 24 (by omega) (by omega)
  have s2:=put_step n hn (k+3) (b++[n / 2^24 % 256]) 16 (by omega) (by simp;omega)
  have s3:=put_step n hn (k+2) (b++[n / 2^24 % 256]++[n / 2^16 % 256]) 8 (by omega) (by simp;omega)
  have s4:=put_step n hn (k+1) (b++[n / 2^24 % 256]++[n / 2^16 % 256]++[n / 2^8 % 256]) 0 (by omega) (by simp;omega)
  rw [show (8:Int)*((4:Nat) - 1)=((24:Nat):Int) from rfl,s1,show ((24:Nat):Int) - 8=((16:Nat):Int) from rfl,s2,show ((16:Nat):Int) - 8=((8:Nat):Int) from rfl,s3,show ((8:Nat):Int) - 8=((0:Nat):Int) from rfl,s4,put_end _ _ _ _ (by omega)]
  simp [putL]
theorem or_step (x c:Int) (hx:0≤x) (hx2:x < 72057594037927936) (hc:0≤c) (hc2:c≤255) :
  IntKind.i64.wrap (BitVec.ofInt IntKind.i64.bits (IntKind.i64.wrap (x*2^(min (8:Int).toNat IntKind.i64.bits))) ||| BitVec.ofInt IntKind.i64.bits (IntKind.i64.wrap c)).toNat=IntKind.i64.wrap (x*256+c):=by
 obtain ⟨a,rfl⟩:=Int.eq_ofNat_of_zero_le hx
 obtain ⟨d,rfl⟩:=Int.eq_ofNat_of_zero_le hc
 congr 1
 have e1:(BitVec.ofInt IntKind.i64.bits (IntKind.i64.wrap ((a:Int)*2^(min (8:Int).toNat IntKind.i64.bits)))).toNat=2^8*a:=by
  have:((a:Int)*2^(min (8:Int).toNat IntKind.i64.bits))=(a:Int)*256:=rfl
  rw [this,IntKind.wrap_i64,BitVec.toNat_ofInt]
  show (_ % ((2^64:Nat):Int)).toNat=_
  omega
 have e2:(BitVec.ofInt IntKind.i64.bits (IntKind.i64.wrap (d:Int))).toNat=d:=by
  rw [IntKind.wrap_i64,BitVec.toNat_ofInt]
  show (_ % ((2^64:Nat):Int)).toNat=_
  omega
 rw [BitVec.toNat_or,e1,e2,← Nat.two_pow_add_eq_or_of_lt (by omega:d < 2^8)]
 omega
theorem numL_cons (c:Int) (l:List Int) (x:Int) (hx:0≤x) (hx2:x < 4294967296) (hc:0≤c) (hc2:c≤255):numL (c::l) x=numL l (x*256+c):=by
 rw [numL,or_step x c hx (by omega) hc hc2]
 congr 1
 rw [IntKind.wrap_i64];omega
theorem num_put (n:Int) (s:Nat) (h1:1≤s) (h4:s≤4) (hn:0≤n) (hlt:n < 2^(8*s)):numL (putL n s) 0=n:=by
 rcases (show s=1∨s=2∨s=3∨s=4 by omega) with rfl | rfl | rfl | rfl<;>simp only [putL]
 ·have:n < 256:=hlt
  rw [numL_cons _ _ _ (by omega) (by omega) (by omega) (by omega),numL];omega
 ·have:n < 65536:=hlt
  rw [numL_cons _ _ _ (by omega) (by omega) (by omega) (by omega),numL_cons _ _ _ (by omega) (by omega) (by omega) (by omega),numL];omega
 ·have:n < 16777216:=hlt
  rw [numL_cons _ _ _ (by omega) (by omega) (by omega) (by omega),numL_cons _ _ _ (by omega) (by omega) (by omega) (by omega),numL_cons _ _ _ (by omega) (by omega) (by omega) (by omega),numL];omega
 ·have:n < 4294967296:=hlt
  rw [numL_cons _ _ _ (by omega) (by omega) (by omega) (by omega),numL_cons _ _ _ (by omega) (by omega) (by omega) (by omega),numL_cons _ _ _ (by omega) (by omega) (by omega) (by omega),numL_cons _ _ _ (by omega) (by omega) (by omega) (by omega),numL];omega
theorem putL_length (n:Int) (s:Nat) (h1:1≤s) (h4:s≤4):(putL n s).length=s:=by
 rcases (show s=1∨s=2∨s=3∨s=4 by omega) with rfl | rfl | rfl | rfl<;>rfl
theorem left_f (r:S_cursor_rest):cursor_rest_Left.f r=some (if r.bad=true then 0 else (r.left.length:Int)):=by
 unfold cursor_rest_Left.f
 split<;>rfl
theorem w64 (n:Int) (h:-9223372036854775808≤n∧n≤9223372036854775807):IntKind.i64.wrap n=n:=by rw [IntKind.wrap_i64];omega
def isB (l:List Int):Prop:=∀ y∈l,0≤y∧y≤255
theorem okL_isB {l:List Int} (h:okL 1 (okI .u8) l):isB l:=fun y hy=>by
 have:=h.2 y hy
 have e1:IntKind.u8.min=0:=rfl
 have e2:IntKind.u8.max=255:=rfl
 unfold okI at this
 omega
theorem okA_isB {l:List Int} {n:Nat} (h:okA .u8 n l):isB l:=fun y hy=>by
 have:=h.2 y hy
 have e1:IntKind.u8.min=0:=rfl
 have e2:IntKind.u8.max=255:=rfl
 unfold okI at this
 omega
theorem isB.app {a b:List Int} (h:isB a) (h':isB b):isB (a++b):=fun y hy=>(List.mem_append.1 hy).elim (h y) (h' y)
theorem rd_at (l:List Int) (i:Nat) (hi:i < l.length):rd l (i:Int)=l[i]:=by simp [rd,List.getD,hi]
theorem ar_at (l:List Int) (i:Nat) (hi:i < l.length):ar l i=l[i]:=by simp [ar,List.getD,hi]
theorem arL_self (l:List Int):arL l.length l=l:=by
 apply List.ext_getElem
 ·simp [arL]
 ·intro i h1 h2
  simp [arL,ar_at l i h2]
theorem small09 (k:Nat):vinerylaw09_small.f (k+20)=some true:=by
 unfold vinerylaw09_small.f
 rfl
def lg (f:Int):Int:=IntKind.i64.wrap (BitVec.ofInt IntKind.i64.bits f &&& BitVec.ofInt IntKind.i64.bits (16:Int)).toNat
def nf (f:Int):Int:=IntKind.i64.wrap (BitVec.ofInt IntKind.i64.bits f &&& ~~~ BitVec.ofInt IntKind.i64.bits (16:Int)).toNat
def fo (f:Int):Int:=IntKind.u8.wrap (IntKind.i64.wrap (BitVec.ofInt IntKind.i64.bits f ||| BitVec.ofInt IntKind.i64.bits (16:Int)).toNat)
def flagB (n:Nat):Bool:=decide (0≤nf n∧nf n≤255∧lg (nf n)=0) && (decide (lg n≠0) || decide (nf n=n∧0≤fo n∧fo n≤255∧lg (fo n)≠0∧nf (fo n)=n))
theorem flag_all:(List.range 256).all flagB=true:=by kernel_rfl
theorem flag_ok (f:Int) (h0:0≤f) (h1:f≤255):(0≤nf f∧nf f≤255∧lg (nf f)=0)∧(lg f=0→nf f=f∧0≤fo f∧fo f≤255∧lg (fo f)≠0∧nf (fo f)=f):=by
 obtain ⟨n,rfl⟩:=Int.eq_ofNat_of_zero_le h0
 have h:=List.all_eq_true.1 flag_all n (List.mem_range.2 (by omega))
 unfold flagB at h
 simp only [Bool.and_eq_true,Bool.or_eq_true,decide_eq_true_eq] at h
 exact ⟨h.1,fun e=>h.2.elim (fun q=>absurd e q) id⟩
theorem num1 (k:Nat) (c:Int) (t:List Int) (h0:0≤c) (h1:c≤255):cursor_Reader_Num.f (k+5) ⟨⟨c::t,false⟩⟩ 1=some (c,⟨⟨t,false⟩⟩):=by
 rw [num_ok k _ 1 rfl (by omega) (by omega) (by simp;omega)]
 show some (numL [c] 0,_)=_
 rw [numL_cons c [] 0 (by omega) (by omega) h0 h1]
 simp [numL]
theorem num2 (k:Nat) (a b:Int) (t:List Int) (h0:0≤a) (h1:a≤255) (h2:0≤b) (h3:b≤255):cursor_Reader_Num.f (k+5) ⟨⟨a::b::t,false⟩⟩ 2=some (a*256+b,⟨⟨t,false⟩⟩):=by
 rw [num_ok k _ 2 rfl (by omega) (by omega) (by simp;omega)]
 show some (numL [a,b] 0,_)=_
 rw [numL_cons a [b] 0 (by omega) (by omega) h0 h1,numL_cons b [] _ (by omega) (by omega) h2 h3]
 simp [numL]
def cutV (n:Int) (f kd:Int) (u:List Int):Option (S_api_Raw×List Int):=if n≤u.length then some (⟨nf f,kd,u.take n.toNat⟩,u.drop n.toNat) else none
def step:List Int→Option (S_api_Raw×List Int)
 | f::kd::t=>if lg f != 0 then (match t with | a::b::u=>cutV (a*256+b) f kd u | _=>none) else (match t with | a::u=>cutV a f kd u | []=>none)
 | _=>none
theorem step_cons (f kd:Int) (t:List Int):step (f::kd::t)=if lg f != 0 then (match t with | a::b::u=>cutV (a*256+b) f kd u | _=>none) else (match t with | a::u=>cutV a f kd u | []=>none):=rfl
def badOut:Option ((List S_api_Raw×Int) ⊕ (List S_api_Raw×List Int×Bool)):=some (.inl ([],3))
theorem split_step (k kk:Nat) (out:List S_api_Raw) (l:List Int) (h0:l≠[]) (hB:isB l) (hl:l.length≤1000000) (ho:out.length < 64) :
  attr_Split.l0 (k+5) (kk+1) out l false=match step l with | none=>badOut | some (x,r)=>attr_Split.l0 (k+5) kk (out++[x]) r false:=by
 rw [attr_Split.l0]
 unfold cursor_rest_Left.f cursor_rest_Bad.f
 have hlen:0 < l.length:=List.length_pos_iff.2 h0
 have hpos:decide ((l.length:Int) > 0)=true:=by simp;omega
 simp only [Bool.false_eq_true,if_false,Option.bind_some]
 rw [if_pos hpos,if_neg (by simp;omega)]
 obtain ⟨f,t,rfl⟩:∃ f t,l=f::t:=by cases l with | nil=>exact absurd rfl h0 | cons f t=>exact ⟨f,t,rfl⟩
 have hf:=hB f (by simp)
 rw [num1 k f t hf.1 hf.2,Option.bind_some]
 show ((cursor_Reader_Num.f (k+5) ⟨⟨t,false⟩⟩ 1).bind _)=_
 have bad2:∀ (left:List Int) (s:Int),cursor_Reader_Num.f (k+5) ⟨⟨left,true⟩⟩ s=some (0,⟨⟨left,true⟩⟩):=fun left s=>num_bad (k+4) _ s (.inl rfl)
 have badT:∀ (left:List Int) (s:Int),cursor_Reader_Take.f ⟨⟨left,true⟩⟩ s=some ([],⟨⟨left,true⟩⟩):=fun left s=>take_bad _ s (.inl rfl)
 cases t with
 | nil =>
  rw [num_bad (k+4) ⟨⟨[],false⟩⟩ 1 (by right;right;right;simp),Option.bind_some]
  show (((if (lg f != 0)=true then some (2:Int) else some (1:Int))).bind _)=badOut
  cases lg f != 0<;>simp only [Bool.false_eq_true,if_false,if_true,Option.bind_some,bad2,badT]<;>rfl
 | cons kd t =>
  have hk:=hB kd (by simp)
  rw [num1 k kd t hk.1 hk.2,Option.bind_some]
  have finish:∀ (n:Int) (u:List Int),0≤n→u.length≤1000000→((cursor_Reader_Take.f ⟨⟨u,false⟩⟩ n).bind fun t48=>(if t48.2.rest.bad=true then some (.inl ((([]:List S_api_Raw):List S_api_Raw),((3:Int):Int))) else (if (out.length+([(⟨nf f,kd,t48.1⟩:S_api_Raw)]:List S_api_Raw).length)*40≤140737488355328 then attr_Split.l0 (k+5) kk (out++([(⟨nf f,kd,t48.1⟩:S_api_Raw)]:List S_api_Raw)) t48.2.rest.left t48.2.rest.bad else none)))=match cutV n f kd u with | none=>badOut | some (x,r)=>attr_Split.l0 (k+5) kk (out++[x]) r false:=by
   intro n u hn hu
   unfold cutV
   by_cases h:n≤u.length
   ·rw [take_ok _ n (by show u.length≤_;omega) rfl hn h,Option.bind_some,if_pos h]
    simp only [Option.bind_some,Bool.false_eq_true,if_false]
    rw [if_pos (by simp;omega)]
   ·rw [take_bad ⟨⟨u,false⟩⟩ n (by right;right;show n > (u.length:Int);omega),Option.bind_some,if_neg h]
    rfl
  show (((if (lg f != 0)=true then some (2:Int) else some (1:Int))).bind _)=_
  rw [step_cons]
  cases hq:lg f != 0
  ·simp only [Bool.false_eq_true,if_false,Option.bind_some]
   cases t with
   | nil =>
    rw [num_bad (k+4) ⟨⟨[],false⟩⟩ 1 (by right;right;right;simp),Option.bind_some]
    simp only [badT,Option.bind_some,if_true]
    rfl
   | cons a u =>
    have ha:=hB a (by simp)
    rw [num1 k a u ha.1 ha.2,Option.bind_some]
    exact finish a u ha.1 (by simp at hl;omega)
  ·simp only [if_true,Option.bind_some]
   cases t with
   | nil =>
    rw [num_bad (k+4) ⟨⟨[],false⟩⟩ 2 (by right;right;right;simp),Option.bind_some]
    simp only [badT,Option.bind_some,if_true]
    rfl
   | cons a u =>
    cases u with
    | nil =>
     rw [num_bad (k+4) ⟨⟨[a],false⟩⟩ 2 (by right;right;right;simp),Option.bind_some]
     simp only [badT,Option.bind_some,if_true]
     rfl
    | cons b u =>
     have ha:=hB a (by simp)
     have hb:=hB b (by simp)
     rw [num2 k a b u ha.1 ha.2 hb.1 hb.2,Option.bind_some]
     exact finish (a*256+b) u (by omega) (by simp at hl;omega)
structure OkF (x:S_api_Raw):Prop where
 f0:0≤x.Flags
 f1:x.Flags≤255
 fl:lg x.Flags=0
 k0:0≤x.Kind
 k1:x.Kind≤255
def enc (x:S_api_Raw):List Int:=(if (x.Value.length:Int) > 255 then [fo x.Flags,x.Kind,(x.Value.length:Int) / 256,(x.Value.length:Int) % 256] else [x.Flags,x.Kind,(x.Value.length:Int)])++x.Value
theorem enc_isB (x:S_api_Raw) (h:OkF x) (hl:x.Value.length≤4096) (hB:isB x.Value):isB (enc x):=by
 have hf:=(flag_ok x.Flags h.f0 h.f1).2 h.fl
 have f0:=h.f0
 have f1:=h.f1
 have k0:=h.k0
 have k1:=h.k1
 intro y hy
 unfold enc at hy
 rcases List.mem_append.1 hy with hy | hy
 ·split at hy
  ·simp at hy;rcases hy with rfl | rfl | rfl | rfl<;>omega
  ·simp at hy;rcases hy with rfl | rfl | rfl<;>omega
 ·exact hB y hy
theorem step_enc (x:S_api_Raw) (h:OkF x) (hl:x.Value.length≤4096) (r:List Int):step (enc x++r)=some (x,r):=by
 have hf:=(flag_ok x.Flags h.f0 h.f1).2 h.fl
 unfold enc
 by_cases hq:(x.Value.length:Int) > 255
 ·rw [if_pos hq]
  show step (fo x.Flags::x.Kind::([(x.Value.length:Int) / 256,(x.Value.length:Int) % 256]++x.Value++r))=_
  rw [step_cons,if_pos (by simpa using hf.2.2.2.1)]
  show cutV ((x.Value.length:Int) / 256*256+(x.Value.length:Int) % 256) _ _ (x.Value++r)=_
  rw [show (x.Value.length:Int) / 256*256+(x.Value.length:Int) % 256=x.Value.length by omega]
  unfold cutV
  rw [if_pos (by simp;omega),hf.2.2.2.2]
  simp
 ·rw [if_neg hq]
  show step (x.Flags::x.Kind::([(x.Value.length:Int)]++x.Value++r))=_
  rw [step_cons,if_neg (by simp [h.fl])]
  show cutV (x.Value.length:Int) _ _ (x.Value++r)=_
  unfold cutV
  rw [if_pos (by simp;omega),hf.1]
  simp
theorem encs_isB:∀ (l:List S_api_Raw),(∀ x∈l,OkF x∧x.Value.length≤4096∧isB x.Value)→isB (l.flatMap enc):=by
 intro l h y hy
 obtain ⟨x,hx,hy⟩:=List.mem_flatMap.1 hy
 obtain ⟨h1,h2,h3⟩:=h x hx
 exact enc_isB x h1 h2 h3 y hy
theorem enc_len (x:S_api_Raw) (h:x.Value.length≤4096):(enc x).length≤4100∧0 < (enc x).length:=by
 unfold enc
 rw [List.length_append]
 split<;>simp<;>omega
theorem encs_len:∀ (l:List S_api_Raw),(∀ x∈l,x.Value.length≤4096)→(l.flatMap enc).length≤4100*l.length
 | [],_=>Nat.le_refl _
 | x::l,h=>by
  have h1:=(enc_len x (h x (by simp))).1
  have h2:=encs_len l (fun y hy=>h y (by simp [hy]))
  rw [List.flatMap_cons,List.length_append,List.length_cons]
  omega
theorem split_end (k kk:Nat) (out:List S_api_Raw):attr_Split.l0 k (kk+1) out [] false=some (.inr (out,[],false)):=by
 rw [attr_Split.l0]
 rfl
theorem split_enc (k:Nat):∀ (l:List S_api_Raw) (kk:Nat) (out:List S_api_Raw),(∀ x∈l,OkF x∧x.Value.length≤4096∧isB x.Value)→out.length+l.length≤64→l.length < kk→attr_Split.l0 (k+5) kk out (l.flatMap enc) false=some (.inr (out++l,[],false))
 | [],kk+1,out,_,_,_=>by rw [List.append_nil];exact split_end _ _ _
 | x::l,kk+1,out,h,ho,hk=>by
  have hx:=h x (by simp)
  have hl:=fun y hy=>h y (List.mem_cons_of_mem x hy)
  have hlen:=encs_len (x::l) (fun y hy=>(h y hy).2.1)
  simp only [List.length_cons] at ho hk hlen
  rw [split_step k kk out _ (by rw [List.flatMap_cons];intro e;have:=(enc_len x hx.2.1).2;rw [List.append_eq_nil_iff] at e;rw [e.1] at this;exact absurd this (by simp)) (encs_isB _ h) (by omega) (by omega)]
  rw [List.flatMap_cons,step_enc x hx.1 hx.2.1]
  have:=split_enc k l kk (out++[x]) hl (by simp;omega) (by omega)
  show attr_Split.l0 (k+5) kk (out++[x]) (l.flatMap enc) false=_
  rw [this];simp
theorem u8w (n:Int) (h:0≤n∧n≤255):IntKind.u8.wrap n=n:=by rw [IntKind.wrap_u8];omega
theorem chk (F K:Int):∃ b,(if (decide (F < (0:Int)))=true then some (decide (F < (0:Int)):Bool) else (if (decide (F > (255:Int)))=true then some (decide (F > (255:Int)):Bool) else (if ((IntKind.i64.wrap (BitVec.ofInt IntKind.i64.bits F &&& BitVec.ofInt IntKind.i64.bits (16:Int)).toNat) != (0:Int))=true then some ((IntKind.i64.wrap (BitVec.ofInt IntKind.i64.bits F &&& BitVec.ofInt IntKind.i64.bits (16:Int)).toNat) != (0:Int):Bool) else (if (decide (K < (0:Int)))=true then some (decide (K < (0:Int)):Bool) else some (decide (K > (255:Int)):Bool)))))=some b∧(b=false↔(0≤F∧F≤255∧lg F=0∧0≤K∧K≤255)):=by
 show ∃ b,(if (decide (F < (0:Int)))=true then some (decide (F < (0:Int)):Bool) else (if (decide (F > (255:Int)))=true then some (decide (F > (255:Int)):Bool) else (if (lg F != (0:Int))=true then some (lg F != (0:Int):Bool) else (if (decide (K < (0:Int)))=true then some (decide (K < (0:Int)):Bool) else some (decide (K > (255:Int)):Bool)))))=some b∧_
 by_cases h1:F < 0
 ·exact ⟨true,by simp [h1],by simp;omega⟩
 ·by_cases h2:F > 255
  ·exact ⟨true,by simp [h1,h2],by simp;omega⟩
  ·by_cases h3:lg F=0
   ·by_cases h4:K < 0
    ·exact ⟨true,by simp [h1,h2,h3,h4],by simp;omega⟩
    ·by_cases h5:K > 255
     ·exact ⟨true,by simp [h1,h2,h3,h4,h5],by simp;omega⟩
     ·exact ⟨false,by simp [h1,h2,h3,h4,h5],by simp;omega⟩
   ·exact ⟨true,by simp [h1,h2,h3],by simp [h3]⟩
theorem rdR (l:List S_api_Raw) (i:Nat) (hi:i < l.length):rd l (i:Int)=l[i]:=by simp [rd,List.getD,hi]
theorem join_l0 (k:Nat) (l:List S_api_Raw) (h64:l.length≤64):∀ (m kk i:Nat) (out:List Int),i+m=l.length→m < kk→out.length≤4100*i →
  (attr_Join.l0 (k+5) l kk out (i:Int)=some (.inr (out++(l.drop i).flatMap enc))∧∀ x∈l.drop i,OkF x∧x.Value.length≤4096)∨(attr_Join.l0 (k+5) l kk out (i:Int)=some (.inl ([],1))∧∃ x∈l,¬ OkF x)∨attr_Join.l0 (k+5) l kk out (i:Int)=some (.inl ([],2))
 | 0,kk+1,i,out,h,_,_=>by
  left
  rw [attr_Join.l0,if_neg (by simp;omega),List.drop_of_length_le (by omega)]
  exact ⟨by simp,fun _ h=>nomatch h⟩
 | m+1,kk+1,i,out,h,hk,ho=>by
  have hi:i < l.length:=by omega
  have e:IntKind.i64.wrap ((i:Int)+1)=((i+1:Nat):Int):=by rw [w64 _ (by omega)];omega
  rw [attr_Join.l0,if_pos (by simp;omega),if_pos ⟨by omega,by omega⟩,rdR l i hi,e,List.drop_eq_getElem_cons hi]
  generalize hx:l[i]=x
  have hxl:x∈l:=by rw [← hx];exact List.getElem_mem hi
  obtain ⟨b,hb,hb2⟩:=chk x.Flags x.Kind
  rw [hb,Option.bind_some]
  cases b with
  | true =>
   right;left
   refine ⟨by simp,x,hxl,fun o=>?_⟩
   have:=hb2.2 ⟨o.f0,o.f1,o.fl,o.k0,o.k1⟩
   cases this
  | false =>
   have q:=hb2.1 rfl
   have ok:OkF x:=⟨q.1,q.2.1,q.2.2.1,q.2.2.2.1,q.2.2.2.2⟩
   have hf:=(flag_ok x.Flags q.1 q.2.1).2 q.2.2.1
   simp only [Bool.false_eq_true,if_false]
   by_cases hv:(x.Value.length:Int) > 4096
   ·right;right
    rw [if_pos (by simpa using hv)]
   ·rw [if_neg (by simpa using hv)]
    have fin:∀ out2:List Int,out2=out++enc x→(attr_Join.l0 (k+5) l kk out2 ((i+1:Nat):Int)=some (.inr (out++(x::l.drop (i+1)).flatMap enc))∧∀ z∈x::l.drop (i+1),OkF z∧z.Value.length≤4096)∨(attr_Join.l0 (k+5) l kk out2 ((i+1:Nat):Int)=some (.inl ([],1))∧∃ x∈l,¬ OkF x)∨attr_Join.l0 (k+5) l kk out2 ((i+1:Nat):Int)=some (.inl ([],2)):=by
     rintro out2 rfl
     have hlen:=(enc_len x (by omega)).1
     rcases join_l0 k l h64 m kk (i+1) (out++enc x) (by omega) (by omega) (by rw [List.length_append];omega) with ⟨h1,h2⟩ | h | h
     ·left
      refine ⟨by rw [h1,List.flatMap_cons,List.append_assoc],?_⟩
      intro z hz
      rcases List.mem_cons.1 hz with rfl | hz
      ·exact ⟨ok,by omega⟩
      ·exact h2 z hz
     ·exact .inr (.inl h)
     ·exact .inr (.inr h)
    by_cases h255:(x.Value.length:Int) > 255
    ·rw [if_pos (by simpa using h255),if_pos (by simp;omega)]
     have hp:=put_ok k (out++([IntKind.u8.wrap (IntKind.i64.wrap (BitVec.ofInt IntKind.i64.bits (x.Flags) ||| BitVec.ofInt IntKind.i64.bits (16:Int)).toNat),IntKind.u8.wrap (x.Kind)]:List Int)) (x.Value.length:Int) 2 (by simp;omega) (by omega) (by omega) (by omega) (by omega)
     rw [show (2:Int)=((2:Nat):Int) from rfl,hp,Option.bind_some]
     rw [if_pos (by simp [putL];omega)]
     refine fin _ ?_
     unfold enc
     rw [if_pos h255,u8w x.Kind ⟨q.2.2.2.1,q.2.2.2.2⟩]
     have e1:(x.Value.length:Int) / 256 % 256=(x.Value.length:Int) / 256:=by omega
     simp only [putL,e1,fo,List.append_assoc,List.cons_append,List.nil_append]
    ·rw [if_neg (by simpa using h255),if_pos (by simp;omega),if_pos (by simp;omega)]
     refine fin _ ?_
     unfold enc
     rw [if_neg h255,u8w x.Kind ⟨q.2.2.2.1,q.2.2.2.2⟩,u8w x.Flags ⟨q.1,q.2.1⟩,u8w (x.Value.length:Int) (by omega),List.append_assoc]
theorem join_any (k:Nat) (l:List S_api_Raw) :
  (attr_Join.f (k+105) l=some (l.flatMap enc,0)∧l.length≤64∧∀ x∈l,OkF x∧x.Value.length≤4096)∨(attr_Join.f (k+105) l=some ([],1)∧∃ x∈l,¬ OkF x)∨attr_Join.f (k+105) l=some ([],2):=by
 unfold attr_Join.f
 by_cases h:(l.length:Int) > 64
 ·right;right
  rw [if_pos (by simpa using h)]
 ·rw [if_neg (by simpa using h)]
  rcases join_l0 (k+100) l (by omega) l.length (k+105) 0 [] (by omega) (by omega) (by simp) with ⟨h1,h2⟩ | ⟨h1,h2⟩ | h1
  ·left
   rw [show attr_Join.l0 (k+105) l (k+105) [] 0=_ from h1,Option.bind_some]
   exact ⟨by simp,by omega,by simpa using h2⟩
  ·right;left
   rw [show attr_Join.l0 (k+105) l (k+105) [] 0=_ from h1,Option.bind_some]
   exact ⟨rfl,h2⟩
  ·right;right
   rw [show attr_Join.l0 (k+105) l (k+105) [] 0=_ from h1,Option.bind_some]
theorem same_l0 (l:List S_api_Raw) (hl:l.length≤100):∀ (m kk i:Nat),i+m=l.length→m < kk→vineryref09_SameRaws.l0 l l kk (i:Int)=some (.inr ())
 | 0,kk+1,i,h,_=>by rw [vineryref09_SameRaws.l0,if_neg (by simp;omega)]
 | m+1,kk+1,i,h,hk=>by
  have hi:i < l.length:=by omega
  have e:IntKind.i64.wrap ((i:Int)+1)=((i+1:Nat):Int):=by rw [w64 _ (by omega)];omega
  have hr:0≤(i:Int)∧(i:Int) < (l.length:Int):=by omega
  rw [vineryref09_SameRaws.l0,if_pos (by simp;omega),e]
  simp only [if_pos hr,bne_self_eq_false,Bool.false_eq_true,if_false,BEq.rfl,Bool.not_true,Option.bind_some]
  exact same_l0 l hl m kk (i+1) (by omega) (by omega)
theorem same_f (k:Nat) (l:List S_api_Raw) (hl:l.length≤100) (hk:200≤k):vineryref09_SameRaws.f k l l=some true:=by
 unfold vineryref09_SameRaws.f
 rw [if_neg (by simp),show vineryref09_SameRaws.l0 l l k 0=_ from same_l0 l hl l.length k 0 (by omega) (by omega),Option.bind_some]
theorem splitf_enc (k:Nat) (l:List S_api_Raw) (h:∀ x∈l,OkF x∧x.Value.length≤4096∧isB x.Value) (h64:l.length≤64):attr_Split.f (k+105) (l.flatMap enc)=some (l,0):=by
 have hlen:=encs_len l (fun y hy=>(h y hy).2.1)
 unfold attr_Split.f cursor_Open.f
 rw [clone_ok _ (by omega)]
 simp only [Option.bind_some]
 rw [show attr_Split.l0 (k+105) (k+105) [] (l.flatMap enc) false=_ from split_enc (k+100) l (k+105) [] h (by simpa using h64) (by omega),Option.bind_some]
 rfl
/-! trimming zeros -/
theorem tr_nil (k:Nat):bytes_trimRightByte.l0 0 (k+1) []=some []:=by unfold bytes_trimRightByte.l0;simp
theorem tr_snoc (k:Nat) (y:List Int) (c:Int) (h:y.length≤100):bytes_trimRightByte.l0 0 (k+1) (y++[c])=if c=0 then bytes_trimRightByte.l0 0 k y else some (y++[c]):=by
 rw [bytes_trimRightByte.l0]
 have hl:(y++[c]).length=y.length+1:=by simp
 have e:IntKind.i64.wrap (((y++[c]).length:Int) - 1)=(y.length:Int):=by rw [hl,IntKind.wrap_i64];omega
 have er:rd (y++[c]) (y.length:Int)=c:=by rw [rd_at _ _ (by simp)];simp
 rw [e,er,if_pos (by simp<;>omega),if_pos (by rw [hl];omega),Option.bind_some]
 by_cases hc:c=0
 ·rw [if_pos (by simpa using hc),if_pos (by rw [hl];simp<;>omega),if_pos hc]
  simp
 ·rw [if_neg (by simpa using hc),if_neg hc]
theorem tr_ok:∀ (n k:Nat) (x:List Int),x.length=n→n < k→n≤100→∃ r,bytes_trimRightByte.l0 0 k x=some r∧r.length≤x.length∧r.all (·==0)=x.all (·==0)
 | 0,k,x,h,hk,_=>by
  obtain ⟨k,rfl⟩:∃ k',k=k'+1:=⟨k - 1,by omega⟩
  obtain rfl:=List.eq_nil_of_length_eq_zero h
  exact ⟨[],tr_nil k,Nat.le_refl _,rfl⟩
 | n+1,k,x,h,hk,hn=>by
  obtain ⟨k,rfl⟩:∃ k',k=k'+1:=⟨k - 1,by omega⟩
  have hne:x≠[]:=by intro e;subst e;simp at h
  have hx:x=x.dropLast++[x.getLast hne]:=(List.dropLast_concat_getLast hne).symm
  have hd:x.dropLast.length=n:=by simp [h]
  generalize x.dropLast=y at hx hd
  generalize x.getLast hne=c at hx
  subst hx
  rw [tr_snoc k y c (by omega)]
  by_cases hc:c=0
  ·obtain ⟨r,h1,h2,h3⟩:=tr_ok n k y hd (by omega) (by omega)
   exact ⟨r,by rw [if_pos hc];exact h1,by simp;omega,by rw [h3];simp [hc]⟩
  ·exact ⟨_,if_neg hc,Nat.le_refl _,rfl⟩
theorem tl_nil (k:Nat):bytes_trimLeftByte.l0 0 (k+1) []=some []:=by unfold bytes_trimLeftByte.l0;simp
theorem tl_cons (k:Nat) (y:List Int) (c:Int):bytes_trimLeftByte.l0 0 (k+1) (c::y)=if c=0 then bytes_trimLeftByte.l0 0 k y else some (c::y):=by
 rw [bytes_trimLeftByte.l0]
 have er:rd (c::y) 0=c:=rfl
 rw [er,if_pos (by simp<;>omega),if_pos (by simp<;>omega),Option.bind_some]
 by_cases hc:c=0
 ·rw [if_pos (by simpa using hc),if_pos (by simp<;>omega),if_pos hc]
  simp
 ·rw [if_neg (by simpa using hc),if_neg hc]
theorem tl_ok:∀ (x:List Int) (k:Nat),x.length < k→∃ r,bytes_trimLeftByte.l0 0 k x=some r∧(((r.length:Int)==0)=x.all (·==0))
 | [],k,hk=>by
  obtain ⟨k,rfl⟩:∃ k',k=k'+1:=⟨k - 1,by omega⟩
  exact ⟨[],tl_nil k,rfl⟩
 | c::y,k,hk=>by
  obtain ⟨k,rfl⟩:∃ k',k=k'+1:=⟨k - 1,by omega⟩
  rw [tl_cons]
  by_cases hc:c=0
  ·obtain ⟨r,h1,h2⟩:=tl_ok y k (by simp at hk;omega)
   exact ⟨r,by rw [if_pos hc];exact h1,by rw [h2];simp [hc]⟩
  ·refine ⟨_,if_neg hc,?_⟩
   have:(c==0)=false:=by simpa using hc
   simp only [List.all_cons,this,Bool.false_and]
   simp
   omega
theorem trim_ok (k:Nat) (x:List Int) (hx:x.length≤16):∃ r,bytes_Trim.f (k+20) x [0]=some r∧(((r.length:Int)==0)=x.all (·==0)):=by
 by_cases h0:x.length=0
 ·obtain rfl:=List.eq_nil_of_length_eq_zero h0
  exact ⟨[],rfl,rfl⟩
 ·obtain ⟨r,h1,h2,h3⟩:=tr_ok x.length (k+20) x rfl (by omega) (by omega)
  obtain ⟨r',h4,h5⟩:=tl_ok r (k+20) (by omega)
  have e:bytes_Trim.f (k+20) x [0]=(bytes_trimRightByte.f (k+20) x 0).bind fun t21=>(bytes_trimLeftByte.f (k+20) t21 0).bind fun t24=>some t24:=by
   unfold bytes_Trim.f
   have hs:(((bstr ([0]:List UInt8)).size:Int)==(1:Int))=true:=rfl
   have ez:((([0]:List UInt8).getD (Int.toNat (0:Int)) 0).toNat:Int)=0:=rfl
   rw [if_neg (by simpa using h0),if_neg (by rw [bstr_toList,bstr_toList];decide),if_pos hs,ez,if_pos (by decide),Option.bind_some,if_pos (by decide),if_pos (by decide),if_pos (by decide)]
  rw [e]
  unfold bytes_trimRightByte.f bytes_trimLeftByte.f
  rw [h1,Option.bind_some,Option.bind_some,h4,Option.bind_some]
  by_cases hr:r'.length=0
  ·obtain rfl:=List.eq_nil_of_length_eq_zero hr
   exact ⟨[],rfl,by rw [← h3,← h5]⟩
  ·rw [if_neg (by simpa using hr)]
   exact ⟨r',rfl,by rw [h5,h3]⟩
/-! addresses -/
def isSz (n:Int):Bool:=n==0 || n==4 || n==16
def rightB (a:S_api_Addr):Bool:=isSz a.Size && ((arL 16 a.B).drop a.Size.toNat).all (·==0)
theorem isSz_or {n:Int} (h:isSz n=true):n=0∨n=4∨n=16:=by
 unfold isSz at h
 simp only [Bool.or_eq_true,beq_iff_eq] at h
 omega
theorem right_go (k:Nat) (a:S_api_Addr) (h:a.Size=0∨a.Size=4∨a.Size=16):addr_Right.f (k+20) a=some (((arL 16 a.B).drop a.Size.toNat).all (·==0)):=by
 have h16:(arL 16 a.B).length=16:=arL_length _ _
 have ht:(arL 16 a.B).take (Int.toNat 16)=arL 16 a.B:=by rw [List.take_of_length_le];rw [h16];exact Nat.le_refl _
 obtain ⟨r,h1,h2⟩:=trim_ok k ((arL 16 a.B).drop a.Size.toNat) (by rw [List.length_drop,h16];omega)
 have hc:(if (a.Size==(0:Int))=true then some (a.Size==(0:Int):Bool) else (if (a.Size==(4:Int))=true then some (a.Size==(4:Int):Bool) else some (a.Size==(16:Int):Bool)))=some true:=by
  rcases h with h | h | h<;>simp [h]
 unfold addr_Right.f
 rw [ht,hc,Option.bind_some,if_pos rfl,if_pos (by omega),h1,Option.bind_some,h2]
theorem right_ok (k:Nat) (a:S_api_Addr):addr_Right.f (k+20) a=some (rightB a):=by
 by_cases h:a.Size=0∨a.Size=4∨a.Size=16
 ·rw [right_go k a h]
  have:isSz a.Size=true:=by unfold isSz;simp;omega
  unfold rightB
  rw [this,Bool.true_and]
 ·have h0:¬ a.Size=0:=by omega
  have h4:¬ a.Size=4:=by omega
  have h16:¬ a.Size=16:=by omega
  unfold addr_Right.f rightB isSz
  simp [h0,h4,h16]
def zeros:List Int:=List.replicate 16 0
theorem of_ok (b:List Int):addr_Of.f b=some (if isSz b.length=true then (⟨b.length,arC 16 zeros b⟩,0) else (⟨0,zeros⟩,1)):=by
 have hc:∀ n:Int,(if (n==(0:Int))=true then some (n==(0:Int):Bool) else (if (n==(4:Int))=true then some (n==(4:Int):Bool) else some (n==(16:Int):Bool)))=some (isSz n):=by
  intro n
  unfold isSz
  cases h:(n==0)<;>cases h':(n==4)<;>simp
 unfold addr_Of.f
 rw [hc,Option.bind_some]
 cases isSz (b.length:Int)<;>rfl
def rootL (a:S_api_Addr):List Int:=(arL 16 a.B).take a.Size.toNat
theorem addrbytes_ok (k:Nat) (a:S_api_Addr) (h:rightB a=true):addr_Bytes.f (k+20) a=some (rootL a):=by
 unfold addr_Bytes.f
 have hs:a.Size=0∨a.Size=4∨a.Size=16:=isSz_or (by unfold rightB at h;simp only [Bool.and_eq_true] at h;exact h.1)
 rw [right_ok,h,Option.bind_some,if_neg (by simp),if_pos (by omega),clone_ok _ (by simp [arL_length];omega),Option.bind_some]
 rfl
theorem rootL_length (a:S_api_Addr) (h:rightB a=true):((rootL a).length:Int)=a.Size:=by
 have hs:a.Size=0∨a.Size=4∨a.Size=16:=isSz_or (by unfold rightB at h;simp only [Bool.and_eq_true] at h;exact h.1)
 unfold rootL
 rw [List.length_take,arL_length]
 omega
theorem root_back (a:S_api_Addr) (h:rightB a=true) (hl:a.B.length=16):(⟨((rootL a).length:Int),arC 16 zeros (rootL a)⟩:S_api_Addr)=a:=by
 have hs:a.Size=0∨a.Size=4∨a.Size=16:=isSz_or (by unfold rightB at h;simp only [Bool.and_eq_true] at h;exact h.1)
 have hz:((arL 16 a.B).drop a.Size.toNat).all (·==0)=true:=by unfold rightB at h;simp only [Bool.and_eq_true] at h;exact h.2
 have hB:arL 16 a.B=a.B:=by rw [← hl];exact arL_self _
 rw [hB] at hz
 have hr:=rootL_length a h
 obtain ⟨S,B⟩:=a
 simp only [S_api_Addr.mk.injEq] at *
 refine ⟨hr,?_⟩
 apply List.ext_getElem
 ·rw [arC_length,hl]
 ·intro i h1 h2
  have hi:i < 16:=by rw [arC_length] at h1;exact h1
  rw [← ar_at _ i h1,ar_arC _ _ _ _ hi]
  have hrl:(rootL ⟨S,B⟩).length=S.toNat:=by omega
  by_cases hlt:i < S.toNat
  ·rw [if_pos (by omega)]
   have:rootL ⟨S,B⟩=B.take S.toNat:=by unfold rootL;simp only;rw [hB]
   rw [this,ar_at _ _ (by simp<;>omega)]
   simp
  ·rw [if_neg (by omega)]
   have hm:B[i]∈B.drop S.toNat:=by
    have e:(B.drop S.toNat)[i - S.toNat]? = some B[i]:=by rw [List.getElem?_drop,show S.toNat+(i - S.toNat)=i by omega,List.getElem?_eq_getElem h2]
    exact List.mem_of_getElem? e
   have hz':=List.all_eq_true.1 hz B[i] hm
   have:B[i]=0:=by simpa using hz'
   rw [this]
   unfold zeros ar
   rw [List.getD_eq_getElem?_getD,List.getElem?_replicate,if_pos hi]
   rfl
theorem rootL_isB (a:S_api_Addr) (h:isB a.B) (hl:a.B.length=16):isB (rootL a):=by
 have hB:arL 16 a.B=a.B:=by rw [← hl];exact arL_self _
 intro y hy
 unfold rootL at hy
 rw [hB] at hy
 exact h y (List.mem_of_mem_take hy)
/-! tunnels -/
def mcastB (a:S_api_Addr):Bool:=rightB a && (if a.Size=4 then Int.fdiv (ar a.B 0) (2^(min (4:Int).toNat IntKind.u8.bits))==14 else a.Size==16 && ar a.B 0==255)
theorem mcast_ok (k:Nat) (a:S_api_Addr):addr_Multicast.f (k+20) a=some (mcastB a):=by
 unfold addr_Multicast.f mcastB
 rw [right_ok,Option.bind_some]
 cases rightB a
 ·rfl
 ·simp only [Bool.not_true,Bool.false_eq_true,if_false,Bool.true_and]
  by_cases h4:a.Size=4
  ·simp [h4]
  ·by_cases h16:a.Size=16
   ·simp [h16]
   ·simp [h4,h16]
def rightT (t:S_api_Tunnel):Bool :=
  rightB t.Root && (decide (0≤t.Label) && (decide (t.Label≤1048575) &&
  (if t.Kind=0 then IntKind.i64.wrap (t.Root.Size+(t.Id.length:Int))==0
   else if t.Kind=1 then t.Root.Size==4 && (t.Id.length:Int)==6
   else if t.Kind=2∨t.Kind=7 then decide (t.Root.Size > 0) && decide ((t.Id.length:Int)≤64)
   else if t.Kind=3∨t.Kind=4∨t.Kind=5 then isSz t.Id.length && ((t.Id.length:Int)==t.Root.Size && mcastB ⟨t.Id.length,arC 16 zeros t.Id⟩)
   else if t.Kind=6 then decide (t.Root.Size > 0) && (t.Id.length:Int)==0
   else false)))
theorem iteB (p q:Bool):(if p=true then some q else some false)=some (p && q):=by cases p<;>rfl
theorem pright_ok (k:Nat) (t:S_api_Tunnel):pmsi_Right.f (k+20) t=some (rightT t):=by
 unfold pmsi_Right.f rightT
 rw [right_ok,Option.bind_some]
 cases rightB t.Root
 ·rfl
 ·simp only [Bool.not_true,Bool.false_eq_true,if_false,Bool.true_and]
  by_cases hl:t.Label < 0
  ·have:¬ 0≤t.Label:=by omega
   simp [hl,this]
  ·have hl':0≤t.Label:=by omega
   by_cases hm:t.Label > 1048575
   ·have:¬ t.Label≤1048575:=by omega
    simp [hl,hl',hm,this]
   ·have hm':t.Label≤1048575:=by omega
    simp only [hl,hl',hm,hm',decide_false,decide_true,Bool.false_eq_true,if_false,Option.bind_some,Bool.true_and]
    by_cases k0:t.Kind=0
    ·simp [k0]
    by_cases k1:t.Kind=1
    ·rw [iteB];simp [k1]
    by_cases k27:t.Kind=2∨t.Kind=7
    ·rw [iteB,iteB];rcases k27 with h | h<;>simp [h]
    by_cases k345:t.Kind=3∨t.Kind=4∨t.Kind=5
    ·rw [of_ok]
     have e2:¬ t.Kind=2:=by omega
     have e7:¬ t.Kind=7:=by omega
     simp only [k0,k1,k27,k345,if_true,if_false,e2,e7,beq_iff_eq,Bool.false_eq_true,Option.bind_some,beq_eq_false_iff_ne.2 e2,beq_eq_false_iff_ne.2 e7]
     have e:(if (t.Kind==3)=true then some (t.Kind==3) else if (t.Kind==4)=true then some (t.Kind==4) else some (t.Kind==5))=some true:=by
      rcases k345 with h | h | h<;>simp [h]
     simp only [beq_iff_eq] at e
     rw [e,Option.bind_some,if_pos rfl]
     cases hz:isSz (t.Id.length:Int)
     ·simp
     ·simp only [if_true,mcast_ok]
      by_cases hs:(t.Id.length:Int)=t.Root.Size
      ·simp [hs]
      ·simp [hs]
    ·have h2:¬ t.Kind=2:=by omega
     have h7:¬ t.Kind=7:=by omega
     have h3:¬ t.Kind=3:=by omega
     have h4:¬ t.Kind=4:=by omega
     have h5:¬ t.Kind=5:=by omega
     by_cases k6:t.Kind=6
     ·rw [iteB,iteB,iteB];simp [k6]
     ·simp [k0,k1,h2,h7,h3,h4,h5,k6]
theorem right_cases (t:S_api_Tunnel) (h:rightT t=true) (hI:t.Id.length≤140737488351232):rightB t.Root=true∧0≤t.Label∧t.Label≤1048575 ∧
    ((t.Kind=0∧t.Root.Size=0∧t.Id=[])∨(t.Kind=1∧t.Root.Size=4∧t.Id.length=6)∨((t.Kind=2∨t.Kind=7)∧0 < t.Root.Size∧t.Id.length≤64) ∨
     ((t.Kind=3∨t.Kind=4∨t.Kind=5)∧(t.Id.length:Int)=t.Root.Size)∨(t.Kind=6∧t.Id=[])):=by
  unfold rightT at h
  simp only [Bool.and_eq_true,decide_eq_true_eq] at h
  obtain ⟨h1,h2,h3,h4⟩:=h
  have hs:t.Root.Size=0∨t.Root.Size=4∨t.Root.Size=16:=isSz_or (by unfold rightB at h1;simp only [Bool.and_eq_true] at h1;exact h1.1)
  refine ⟨h1,h2,h3,?_⟩
  split at h4
  · rename_i hk
    rw [w64 _ (by omega)] at h4
    have h5:t.Root.Size+(t.Id.length:Int)=0:=by simpa using h4
    exact .inl ⟨hk,by omega,List.eq_nil_of_length_eq_zero (by omega)⟩
  · split at h4
    · rename_i hk
      simp only [Bool.and_eq_true,beq_iff_eq] at h4
      exact .inr (.inl ⟨hk,h4.1,by omega⟩)
    · split at h4
      · rename_i hk
        simp only [Bool.and_eq_true,decide_eq_true_eq] at h4
        exact .inr (.inr (.inl ⟨hk,h4.1,by omega⟩))
      · split at h4
        · rename_i hk
          simp only [Bool.and_eq_true,beq_iff_eq] at h4
          exact .inr (.inr (.inr (.inl ⟨hk,h4.2.1⟩)))
        · split at h4
          · rename_i hk
            simp only [Bool.and_eq_true,beq_iff_eq] at h4
            exact .inr (.inr (.inr (.inr ⟨hk,List.eq_nil_of_length_eq_zero (by omega)⟩)))
          · cases h4
def famL (a:S_api_Addr):Int:=if a.Size=4 then 1 else 2
def identL (t:S_api_Tunnel):List Int :=
 if t.Kind=1 then ((t.Id.take 4++[0,0])++t.Id.drop 4)++rootL t.Root
 else if t.Kind=7 then (([7,0,famL t.Root,IntKind.u8.wrap t.Root.Size]++rootL t.Root)++putL t.Id.length 2)++t.Id
 else if t.Kind=2 then (([6,0,famL t.Root,IntKind.u8.wrap t.Root.Size]++rootL t.Root)++putL t.Id.length 2)++t.Id
 else rootL t.Root++t.Id
theorem fam_ok (a:S_api_Addr):pmsi_family.f a=some (famL a):=by
 unfold pmsi_family.f famL
 by_cases h:a.Size=4<;>simp [h]
theorem rootL_le (a:S_api_Addr):(rootL a).length≤16:=by unfold rootL;rw [List.length_take,arL_length];omega
theorem ident_ok (k:Nat) (t:S_api_Tunnel) (h:rightT t=true) (hI:t.Id.length≤140737488351232):pmsi_identifier.f (k+20) t=some (identL t):=by
 obtain ⟨h1,h2,h3,h4⟩:=right_cases t h hI
 have hr:=rootL_le t.Root
 unfold pmsi_identifier.f identL
 rw [addrbytes_ok k _ h1,Option.bind_some]
 by_cases k1:t.Kind=1
 ·have hid:t.Id.length=6:=by
   rcases h4 with h4 | h4 | h4 | h4 | h4<;>omega
  have e1:t.Id.take (Int.toNat (t.Id.length:Int))=t.Id:=by simp
  rw [if_pos (by simpa using k1),if_pos k1,if_pos (by omega),clone_ok _ (by simp<;>omega),Option.bind_some,if_pos (by simp<;>omega),if_pos (by omega),e1,if_pos (by simp<;>omega),if_pos (by simp<;>omega)]
  rfl
 ·by_cases k7:t.Kind=7
  ·have hid:t.Id.length≤64:=by rcases h4 with h4 | h4 | h4 | h4 | h4<;>omega
   have hp:=putL_length (t.Id.length:Int) 2 (by omega) (by omega)
   rw [if_neg (by simpa using k1),if_pos (by simpa using k7),if_neg k1,if_pos k7,fam_ok,Option.bind_some,if_pos (by simp<;>omega),
    show (2:Int)=((2:Nat):Int) from rfl,put_ok (k+15) _ _ 2 (by simp<;>omega) (by omega) (by omega) (by omega) (by omega),Option.bind_some,if_pos (by simp [hp];omega)]
  ·by_cases k2:t.Kind=2
   ·have hid:t.Id.length≤64:=by rcases h4 with h4 | h4 | h4 | h4 | h4<;>omega
    have hp:=putL_length (t.Id.length:Int) 2 (by omega) (by omega)
    rw [if_neg (by simpa using k1),if_neg (by simpa using k7),if_pos (by simpa using k2),if_neg k1,if_neg k7,if_pos k2,fam_ok,Option.bind_some,if_pos (by simp<;>omega),
     show (2:Int)=((2:Nat):Int) from rfl,put_ok (k+15) _ _ 2 (by simp<;>omega) (by omega) (by omega) (by omega) (by omega),Option.bind_some,if_pos (by simp [hp];omega)]
   ·rw [if_neg (by simpa using k1),if_neg (by simpa using k7),if_neg (by simpa using k2),if_neg k1,if_neg k7,if_neg k2,if_pos (by omega)]
def leafL (b:Bool):Int:=if b=true then 1 else 0
def bytesT (t:S_api_Tunnel):List Int:=([leafL t.Leaf,IntKind.u8.wrap t.Kind]++putL (16*t.Label) 3)++identL t
theorem identL_le (t:S_api_Tunnel) (h:rightT t=true) (hI:t.Id.length≤140737488351232):(identL t).length≤t.Id.length+22:=by
 have hr:=rootL_le t.Root
 have hp:∀ n:Int,(putL n 2).length=2:=fun n=>rfl
 unfold identL
 split
 ·simp;omega
 ·split
  ·simp [hp];omega
  ·split
   ·simp [hp];omega
   ·simp;omega
theorem label_ok (k:Nat) (l:Int) (h0:0≤l) (h1:l≤1048575):label_Bytes.f (k+20) l false=some (putL (16*l) 3,0):=by
 unfold label_Bytes.f
 have e:IntKind.i64.wrap (l*2^(min (4:Int).toNat IntKind.i64.bits))=16*l:=by
  have:(2:Int)^(min (4:Int).toNat IntKind.i64.bits)=16:=rfl
  rw [this,w64 _ (by omega)];omega
 rw [if_neg (by simp<;>omega),e]
 simp only [Bool.false_eq_true,if_false,Option.bind_some]
 rw [show (3:Int)=((3:Nat):Int) from rfl,put_ok (k+15) [] _ 3 (by simp) (by omega) (by omega) (by omega) (by omega)]
 rfl
theorem pbytes_ok (k:Nat) (t:S_api_Tunnel) (hI:t.Id.length≤140737488351232):pmsi_Bytes.f (k+20) t=some (if rightT t=true then (bytesT t,0) else ([],1)):=by
 unfold pmsi_Bytes.f
 rw [pright_ok,Option.bind_some]
 cases h:rightT t
 ·simp
 ·obtain ⟨h1,h2,h3,_⟩:=right_cases t h hI
  have hl:=identL_le t h hI
  have hp:(putL (16*t.Label) 3).length=3:=rfl
  simp only [Bool.not_true,Bool.false_eq_true,if_false,if_true]
  have e:(if t.Leaf=true then some ((1:Int):Int) else some ((0:Int):Int))=some (leafL t.Leaf):=by unfold leafL;split<;>rfl
  rw [e,Option.bind_some,label_ok k _ h2 h3,Option.bind_some,if_pos (by simp [hp]),ident_ok k t h hI,Option.bind_some,if_pos (by simp [hp];omega)]
  rfl
theorem equal_f (a b:List Int):bytes_Equal.f a b=some (b2s a==b2s b):=by unfold bytes_Equal.f;rw [bstr_toList,bstr_toList]
theorem same_ok (a b:S_api_Tunnel):pmsi_Same.f a b=some (a.Kind==b.Kind && ((a.Root.Size==b.Root.Size) && ((eqA 16 a.Root.B b.Root.B) && true)) && (b2s a.Id==b2s b.Id)):=by
 unfold pmsi_Same.f
 rw [equal_f]
 cases (a.Kind==b.Kind)<;>cases ((a.Root.Size==b.Root.Size) && ((eqA 16 a.Root.B b.Root.B) && true))<;>simp
theorem take_app (l rest:List Int) (n:Int) (hn:(l.length:Int)=n) (hl:l.length+rest.length≤140737488355328):cursor_Reader_Take.f ⟨⟨l++rest,false⟩⟩ n=some (l,⟨⟨rest,false⟩⟩):=by
 subst hn
 rw [take_ok _ _ (by simp;omega) rfl (by omega) (by simp;omega)]
 simp
theorem num2p (k:Nat) (n:Int) (rest:List Int) (h0:0≤n) (h1:n < 65536):cursor_Reader_Num.f (k+5) ⟨⟨putL n 2++rest,false⟩⟩ 2=some (n,⟨⟨rest,false⟩⟩):=by
 have hp:(putL n 2).length=2:=rfl
 rw [num_ok k _ 2 rfl (by omega) (by omega) (by simp [hp];omega)]
 show some (numL (putL n 2) 0,_)=_
 rw [num_put n 2 (by omega) (by omega) h0 (by omega)]
 rfl
theorem numL3 (L:Int) (h0:0≤L) (h1:L≤1048575):numL (putL (16*L) 3) 0=16*L:=num_put _ 3 (by omega) (by omega) (by omega) (by omega)
theorem and15 (n:Nat) (h:n < 9223372036854775808):(BitVec.ofInt IntKind.i64.bits (n:Int) &&& BitVec.ofInt IntKind.i64.bits (15:Int)).toNat=n % 16:=by
 have e1:(BitVec.ofInt IntKind.i64.bits (n:Int)).toNat=n:=by
  rw [BitVec.toNat_ofInt]
  show (_ % ((2^64:Nat):Int)).toNat=_
  omega
 have e2:(BitVec.ofInt IntKind.i64.bits (15:Int)).toNat=2^4 - 1:=rfl
 rw [BitVec.toNat_and,e1,e2,Nat.and_two_pow_sub_one_eq_mod]
theorem labelread_ok (k:Nat) (L:Int) (h0:0≤L) (h1:L≤1048575):∃ f e,label_Read.f (k+20) (putL (16*L) 3)=some (L,f,e):=by
 unfold label_Read.f cursor_Open.f
 have hp:(putL (16*L) 3).length=3:=rfl
 rw [clone_ok _ (by rw [hp];omega)]
 try simp only [Option.bind_some]
 rw [num_ok (k+15) _ 3 rfl (by omega) (by omega) (by simp [hp]),Option.bind_some]
 have ht:(putL (16*L) 3).take (Int.toNat 3)=putL (16*L) 3:=rfl
 simp only [ht,numL3 L h0 h1]
 obtain ⟨m,hm⟩:=Int.eq_ofNat_of_zero_le (show 0≤16*L by omega)
 have ha:(BitVec.ofInt IntKind.i64.bits (16*L) &&& BitVec.ofInt IntKind.i64.bits (15:Int)).toNat=0:=by
  rw [hm,and15 m (by omega)];omega
 have hf:Int.fdiv (16*L) (2^(min (4:Int).toNat IntKind.i64.bits))=L:=by
  have:(2:Int)^(min (4:Int).toNat IntKind.i64.bits)=16:=rfl
  rw [this,Int.fdiv_eq_ediv_of_nonneg _ (by omega)];omega
 rw [ha,hf]
 refine ⟨_,_,if_neg ?_⟩
 rw [hp]
 decide
def zeroT:S_api_Tunnel:=⟨false,0,0,⟨0,List.replicate 16 0⟩,[]⟩
def tailP (k:Nat) (t:S_api_Tunnel) (rr:S_cursor_rest) (b:List Int):Option (S_api_Tunnel×Int) :=
 (pmsi_Bytes.f k t).bind fun t59=>((cursor_rest_Bad.f rr).bind fun t70=>(if t70=true then some (true:Bool) else (if (t59.2 != (0:Int))=true then some (true:Bool) else (bytes_Equal.f t59.1 b).bind fun t73=>some (!t73:Bool)))).bind fun s62=>(if s62=true then some (zeroT,(4:Int)) else some (t,(0:Int)))
theorem tail_same (k:Nat) (t:S_api_Tunnel) (rr:S_cursor_rest) (h:rightT t=true) (hI:t.Id.length≤140737488351232) (hr:rr.bad=false):tailP (k+20) t rr (bytesT t)=some (t,0):=by
 unfold tailP cursor_rest_Bad.f
 rw [pbytes_ok k t hI,if_pos h,hr]
 simp only [Option.bind_some,equal_f]
 simp
theorem leaf_back (b:Bool):(leafL b==1)=b:=by cases b<;>rfl
theorem of_root (a:S_api_Addr) (h:rightB a=true) (hl:a.B.length=16):addr_Of.f (rootL a)=some (a,0):=by
 have hs:isSz ((rootL a).length:Int)=true:=by
  rw [rootL_length a h];unfold rightB at h;simp only [Bool.and_eq_true] at h;exact h.1
 rw [of_ok,if_pos hs,root_back a h hl]
theorem root_ok (a:S_api_Addr) (rest:List Int) (n:Int) (hn:n=a.Size) (h:rightB a=true) (hl:a.B.length=16) (hr:rest.length≤140737488351232):pmsi_root.f ⟨⟨rootL a++rest,false⟩⟩ n=some (a,⟨⟨rest,false⟩⟩):=by
 unfold pmsi_root.f
 have:=rootL_le a
 rw [take_app _ _ n (by rw [hn];exact rootL_length a h) (by omega),Option.bind_some]
 simp only
 rw [of_root a h hl,Option.bind_some]
theorem parse_bytes (k:Nat) (t:S_api_Tunnel) (h:rightT t=true) (hI:t.Id.length≤140737488351000) (hB:t.Root.B.length=16):pmsi_Parse.f (k+20) (bytesT t)=some (t,0):=by
 obtain ⟨h1,h2,h3,h4⟩:=right_cases t h (by omega)
 have hil:=identL_le t h (by omega)
 have hrl:=rootL_le t.Root
 have hrs:=rootL_length t.Root h1
 have hsz:t.Root.Size=0∨t.Root.Size=4∨t.Root.Size=16:=isSz_or (by unfold rightB at h1;simp only [Bool.and_eq_true] at h1;exact h1.1)
 have hK:0≤t.Kind∧t.Kind≤7:=by omega
 have hKw:IntKind.u8.wrap t.Kind=t.Kind:=by rw [IntKind.wrap_u8];omega
 have hSw:IntKind.u8.wrap t.Root.Size=t.Root.Size:=by rw [IntKind.wrap_u8];omega
 have hp3:(putL (16*t.Label) 3).length=3:=rfl
 have hb:bytesT t=leafL t.Leaf::t.Kind::(putL (16*t.Label) 3++identL t):=by unfold bytesT;rw [hKw];rfl
 have hlen:(bytesT t).length≤140737488351100:=by rw [hb];simp [hp3];omega
 have hlf:0≤leafL t.Leaf∧leafL t.Leaf≤255:=by unfold leafL;split<;>omega
 obtain ⟨f,e,hlr⟩:=labelread_ok k t.Label h2 h3
 have ht:(⟨leafL t.Leaf==1,t.Kind,t.Label,t.Root,t.Id⟩:S_api_Tunnel)=t:=by rw [leaf_back]
 have hT:∀ rr:S_cursor_rest,rr.bad=false→tailP (k+20) ⟨leafL t.Leaf==1,t.Kind,t.Label,t.Root,t.Id⟩ rr (bytesT t)=some (t,0):=fun rr hr=>by
  rw [ht];exact tail_same k t rr h (by omega) hr
 unfold pmsi_Parse.f cursor_Open.f
 rw [clone_ok _ (by omega)]
 try simp only [Option.bind_some]
 rw [show cursor_Reader_Num.f (k+20) ⟨⟨bytesT t,false⟩⟩ 1=some (leafL t.Leaf,⟨⟨t.Kind::(putL (16*t.Label) 3++identL t),false⟩⟩) from by rw [hb];exact num1 (k+15) _ _ hlf.1 hlf.2]
 try simp only [Option.bind_some]
 rw [num1 (k+15) _ _ (by omega) (by omega)]
 try simp only [Option.bind_some]
 rw [take_app _ _ 3 (by rw [hp3];rfl) (by rw [hp3];omega)]
 try simp only [Option.bind_some]
 rw [hlr]
 try simp only [Option.bind_some]
 rcases h4 with ⟨hk,hs,hid⟩ | ⟨hk,hs,hid⟩ | ⟨hk,hs,hid⟩ | ⟨hk,hid⟩ | ⟨hk,hid⟩
 ·
  have e:identL t=rootL t.Root++[]:=by unfold identL;rw [if_neg (by omega),if_neg (by omega),if_neg (by omega),hid]
  rw [if_neg (by simp [hk]),show (if (t.Kind==(2:Int))=true then some (t.Kind==(2:Int)) else some (t.Kind==(7:Int)))=some false from by simp [hk]]
  try simp only [Option.bind_some,Bool.false_eq_true,if_false]
  rw [show (if (t.Kind==(3:Int))=true then some (t.Kind==(3:Int)) else if (t.Kind==(4:Int))=true then some (t.Kind==(4:Int)) else some (t.Kind==(5:Int)))=some false from by simp [hk]]
  try simp only [Option.bind_some,Bool.false_eq_true,if_false]
  rw [left_f,e]
  try simp only [Bool.false_eq_true,if_false,Option.bind_some]
  rw [root_ok t.Root [] _ (by simp;omega) h1 hB (by simp)]
  try simp only [Option.bind_some]
  have:=hT ⟨[],false⟩ rfl
  rw [hid] at this
  exact this
 ·
  have e:identL t=t.Id.take 4++([0,0]++(t.Id.drop 4++(rootL t.Root++[]))):=by unfold identL;rw [if_pos hk];simp
  rw [if_pos (by simp [hk]),e,take_app _ _ 4 (by simp;omega) (by simp;omega)]
  try simp only [Option.bind_some]
  rw [take_app _ _ 2 (by simp) (by simp;omega)]
  try simp only [Option.bind_some]
  rw [take_app _ _ 2 (by simp;omega) (by simp;omega)]
  try simp only [Option.bind_some]
  rw [if_pos (by simp;omega)]
  try simp only [Option.bind_some]
  rw [root_ok t.Root [] _ (by omega) h1 hB (by simp)]
  simp only [Option.bind_some,List.take_append_drop]
  exact hT ⟨[],false⟩ rfl
 ·
  have e:∃ c,(c=6∨c=7)∧identL t=[c,0,famL t.Root]++(t.Root.Size::(rootL t.Root++(putL t.Id.length 2++(t.Id++[])))):=by
   unfold identL
   rcases hk with hk | hk
   ·exact ⟨6,.inl rfl,by rw [if_neg (by omega),if_neg (by omega),if_pos hk,hSw];simp⟩
   ·exact ⟨7,.inr rfl,by rw [if_neg (by omega),if_pos hk,hSw];simp⟩
  obtain ⟨c,hc,e⟩:=e
  have hp2:(putL (t.Id.length:Int) 2).length=2:=rfl
  rw [if_neg (by simp;omega),show (if (t.Kind==(2:Int))=true then some (t.Kind==(2:Int)) else some (t.Kind==(7:Int)))=some true from by rcases hk with hk | hk<;>simp [hk]]
  try simp only [Option.bind_some,if_true]
  rw [e,take_app _ _ 3 (by simp) (by simp [hp2];omega)]
  try simp only [Option.bind_some]
  rw [num1 (k+15) _ _ (by omega) (by omega)]
  try simp only [Option.bind_some]
  rw [root_ok t.Root _ _ rfl h1 hB (by simp [hp2];omega)]
  try simp only [Option.bind_some]
  rw [num2p (k+15) _ _ (by omega) (by omega)]
  try simp only [Option.bind_some]
  rw [take_app _ _ _ rfl (by simp;omega)]
  try simp only [Option.bind_some]
  exact hT ⟨[],false⟩ rfl
 ·
  have e:identL t=rootL t.Root++t.Id:=by unfold identL;rw [if_neg (by omega),if_neg (by omega),if_neg (by omega)]
  have hleft:IntKind.i64.wrap (Int.tdiv ((rootL t.Root++t.Id).length:Int) 2)=t.Root.Size:=by
   rw [List.length_append]
   have:(((rootL t.Root).length+t.Id.length:Nat):Int)=2*t.Root.Size:=by omega
   rw [this,Int.mul_tdiv_cancel_left _ (by decide),w64 _ (by omega)]
  rw [if_neg (by simp;omega),show (if (t.Kind==(2:Int))=true then some (t.Kind==(2:Int)) else some (t.Kind==(7:Int)))=some false from by rcases hk with hk | hk | hk<;>simp [hk]]
  try simp only [Option.bind_some,Bool.false_eq_true,if_false]
  rw [show (if (t.Kind==(3:Int))=true then some (t.Kind==(3:Int)) else if (t.Kind==(4:Int))=true then some (t.Kind==(4:Int)) else some (t.Kind==(5:Int)))=some true from by rcases hk with hk | hk | hk<;>simp [hk]]
  try simp only [Option.bind_some,if_true]
  rw [left_f,e]
  try simp only [Bool.false_eq_true,if_false,Option.bind_some]
  rw [hleft,root_ok t.Root _ _ rfl h1 hB (by omega)]
  try simp only [Option.bind_some]
  rw [left_f]
  try simp only [Bool.false_eq_true,if_false,Option.bind_some]
  rw [show (⟨⟨t.Id,false⟩⟩:S_cursor_Reader)=⟨⟨t.Id++[],false⟩⟩ from by simp,take_app _ _ _ rfl (by simp;omega)]
  try simp only [Option.bind_some]
  exact hT ⟨[],false⟩ rfl
 ·
  have e:identL t=rootL t.Root++[]:=by unfold identL;rw [if_neg (by omega),if_neg (by omega),if_neg (by omega),hid]
  rw [if_neg (by simp [hk]),show (if (t.Kind==(2:Int))=true then some (t.Kind==(2:Int)) else some (t.Kind==(7:Int)))=some false from by simp [hk]]
  try simp only [Option.bind_some,Bool.false_eq_true,if_false]
  rw [show (if (t.Kind==(3:Int))=true then some (t.Kind==(3:Int)) else if (t.Kind==(4:Int))=true then some (t.Kind==(4:Int)) else some (t.Kind==(5:Int)))=some false from by simp [hk]]
  try simp only [Option.bind_some,Bool.false_eq_true,if_false]
  rw [left_f,e]
  try simp only [Bool.false_eq_true,if_false,Option.bind_some]
  rw [root_ok t.Root [] _ (by simp;omega) h1 hB (by simp)]
  try simp only [Option.bind_some]
  have:=hT ⟨[],false⟩ rfl
  rw [hid] at this
  exact this
def routerB (a:S_api_Addr):Bool:=(a.Size==4) && rightB a
theorem router_ok (k:Nat) (a:S_api_Addr):attr_router.f (k+20) a=some (routerB a):=by
 unfold attr_router.f routerB
 rw [right_ok]
 cases a.Size==4<;>simp
theorem right1_ok (k:Nat) (a:S_api_Addr):attr_Right_1.f (k+20) a=some (!routerB a):=by
 unfold attr_Right_1.f
 rw [router_ok,Option.bind_some]
theorem right2_ok (k:Nat) (t:S_api_Tunnel):attr_Right_2.f (k+20) t=some (!rightT t):=by
 unfold attr_Right_2.f
 rw [pright_ok,Option.bind_some]
def num32 (n:Int):Bool:=!(if (decide (n < (0:Int)))=true then true else (decide (n > (4294967295:Int))))
theorem wrong1_ok (n:Int):attr_wrong_1.f n=some (!num32 n):=by unfold attr_wrong_1.f num32;rw [Bool.not_not]
theorem cl_l0 (k:Nat) (l:List S_api_Addr) (hl:l.length≤140737488351232):∀ (m kk i:Nat),i+m=l.length→m < kk→∃ r,api_Addr_92_attr_Right_1.l0 (k+20) l kk (i:Int)=some r∧((r=.inr ()∧∀ x∈l.drop i,routerB x=true)∨∃ j:Int,r=.inl j∧0≤j)
 | 0,kk+1,i,h,_=>⟨.inr (),by rw [api_Addr_92_attr_Right_1.l0,if_neg (by simp;omega)],.inl ⟨rfl,by rw [List.drop_of_length_le (by omega)];exact fun _ h=>nomatch h⟩⟩
 | m+1,kk+1,i,h,hk=>by
  have hi:i < l.length:=by omega
  have e:IntKind.i64.wrap ((i:Int)+1)=((i+1:Nat):Int):=by rw [w64 _ (by omega)];omega
  have er:rd l (i:Int)=l[i]:=by simp [rd,List.getD,hi]
  rw [api_Addr_92_attr_Right_1.l0,if_pos (by simp;omega),if_pos ⟨by omega,by omega⟩,er,e,right1_ok,Option.bind_some,List.drop_eq_getElem_cons hi]
  by_cases hp:routerB l[i]=true
  ·rw [if_neg (by simp [hp])]
   obtain ⟨r,h1,h2⟩:=cl_l0 k l hl m kk (i+1) (by omega) (by omega)
   refine ⟨r,h1,h2.imp (fun ⟨a,b⟩=>⟨a,fun x hx=>?_⟩) id⟩
   rcases List.mem_cons.1 hx with rfl | hx
   ·exact hp
   ·exact b x hx
  ·rw [if_pos (by simp [hp])]
   exact ⟨.inl (i:Int),rfl,.inr ⟨(i:Int),rfl,by omega⟩⟩
theorem cl_f (k K:Nat) (l:List S_api_Addr) (hl:l.length≤140737488351232) (hK:l.length < K) (he:K=k+20):∃ b,api_Addr_attr_Right_1.f (k+20) l=some b∧(b=false→∀ x∈l,routerB x=true):=by
 subst he
 obtain ⟨r,h1,h2⟩:=cl_l0 k l hl l.length (k+20) 0 (by omega) hK
 unfold api_Addr_attr_Right_1.f api_Addr_92_attr_Right_1.f
 rw [show api_Addr_92_attr_Right_1.l0 (k+20) l (k+20) 0=_ from h1,Option.bind_some]
 rcases h2 with ⟨rfl,h2⟩ | ⟨j,rfl,h2⟩
 ·exact ⟨false,rfl,fun _=>by simpa using h2⟩
 ·exact ⟨true,by simp [h2],fun h=>nomatch h⟩
theorem tn_l0 (k:Nat) (l:List S_api_Tunnel) (hl:l.length≤140737488351232):∀ (m kk i:Nat),i+m=l.length→m < kk→∃ r,api_Tunnel_93_attr_Right_2.l0 (k+20) l kk (i:Int)=some r∧((r=.inr ()∧∀ x∈l.drop i,rightT x=true)∨∃ j:Int,r=.inl j∧0≤j)
 | 0,kk+1,i,h,_=>⟨.inr (),by rw [api_Tunnel_93_attr_Right_2.l0,if_neg (by simp;omega)],.inl ⟨rfl,by rw [List.drop_of_length_le (by omega)];exact fun _ h=>nomatch h⟩⟩
 | m+1,kk+1,i,h,hk=>by
  have hi:i < l.length:=by omega
  have e:IntKind.i64.wrap ((i:Int)+1)=((i+1:Nat):Int):=by rw [w64 _ (by omega)];omega
  have er:rd l (i:Int)=l[i]:=by simp [rd,List.getD,hi]
  rw [api_Tunnel_93_attr_Right_2.l0,if_pos (by simp;omega),if_pos ⟨by omega,by omega⟩,er,e,right2_ok,Option.bind_some,List.drop_eq_getElem_cons hi]
  by_cases hp:rightT l[i]=true
  ·rw [if_neg (by simp [hp])]
   obtain ⟨r,h1,h2⟩:=tn_l0 k l hl m kk (i+1) (by omega) (by omega)
   refine ⟨r,h1,h2.imp (fun ⟨a,b⟩=>⟨a,fun x hx=>?_⟩) id⟩
   rcases List.mem_cons.1 hx with rfl | hx
   ·exact hp
   ·exact b x hx
  ·rw [if_pos (by simp [hp])]
   exact ⟨.inl (i:Int),rfl,.inr ⟨(i:Int),rfl,by omega⟩⟩
theorem tn_f (k K:Nat) (l:List S_api_Tunnel) (hl:l.length≤140737488351232) (hK:l.length < K) (he:K=k+20):∃ b,api_Tunnel_attr_Right_2.f (k+20) l=some b∧(b=false→∀ x∈l,rightT x=true):=by
 subst he
 obtain ⟨r,h1,h2⟩:=tn_l0 k l hl l.length (k+20) 0 (by omega) hK
 unfold api_Tunnel_attr_Right_2.f api_Tunnel_93_attr_Right_2.f
 rw [show api_Tunnel_93_attr_Right_2.l0 (k+20) l (k+20) 0=_ from h1,Option.bind_some]
 rcases h2 with ⟨rfl,h2⟩ | ⟨j,rfl,h2⟩
 ·exact ⟨false,rfl,fun _=>by simpa using h2⟩
 ·exact ⟨true,by simp [h2],fun h=>nomatch h⟩
theorem as_l0 (k:Nat) (l:List Int) (hl:l.length≤140737488351232):∀ (m kk i:Nat),i+m=l.length→m < kk→∃ r,slices_IndexFunc_int_int_attr_wrong_1.l0 l kk (i:Int)=some r∧((r=.inr ()∧∀ x∈l.drop i,num32 x=true)∨∃ j:Int,r=.inl j∧0≤j)
 | 0,kk+1,i,h,_=>⟨.inr (),by rw [slices_IndexFunc_int_int_attr_wrong_1.l0,if_neg (by simp;omega)],.inl ⟨rfl,by rw [List.drop_of_length_le (by omega)];exact fun _ h=>nomatch h⟩⟩
 | m+1,kk+1,i,h,hk=>by
  have hi:i < l.length:=by omega
  have e:IntKind.i64.wrap ((i:Int)+1)=((i+1:Nat):Int):=by rw [w64 _ (by omega)];omega
  have er:rd l (i:Int)=l[i]:=by simp [rd,List.getD,hi]
  rw [slices_IndexFunc_int_int_attr_wrong_1.l0,if_pos (by simp;omega),if_pos ⟨by omega,by omega⟩,er,e,wrong1_ok,Option.bind_some,List.drop_eq_getElem_cons hi]
  by_cases hp:num32 l[i]=true
  ·rw [if_neg (by simp [hp])]
   obtain ⟨r,h1,h2⟩:=as_l0 k l hl m kk (i+1) (by omega) (by omega)
   refine ⟨r,h1,h2.imp (fun ⟨a,b⟩=>⟨a,fun x hx=>?_⟩) id⟩
   rcases List.mem_cons.1 hx with rfl | hx
   ·exact hp
   ·exact b x hx
  ·rw [if_pos (by simp [hp])]
   exact ⟨.inl (i:Int),rfl,.inr ⟨(i:Int),rfl,by omega⟩⟩
theorem as_f (k K:Nat) (l:List Int) (hl:l.length≤140737488351232) (hK:l.length < K) (he:K=k+20):∃ b,slices_ContainsFunc_int_int_attr_wrong_1.f (k+20) l=some b∧(b=false→∀ x∈l,num32 x=true):=by
 subst he
 obtain ⟨r,h1,h2⟩:=as_l0 k l hl l.length (k+20) 0 (by omega) hK
 unfold slices_ContainsFunc_int_int_attr_wrong_1.f slices_IndexFunc_int_int_attr_wrong_1.f
 rw [show slices_IndexFunc_int_int_attr_wrong_1.l0 l (k+20) 0=_ from h1,Option.bind_some]
 rcases h2 with ⟨rfl,h2⟩ | ⟨j,rfl,h2⟩
 ·exact ⟨false,rfl,fun _=>by simpa using h2⟩
 ·exact ⟨true,by simp [h2],fun h=>nomatch h⟩
theorem wrong_ok (k:Nat) (s:S_api_Segment) (h:s.AS.length≤1000) (hk:2000≤k):∃ b,attr_wrong.f (k+20) s=some b∧(b=false→s.AS.length≤255):=by
 obtain ⟨c,h1,_⟩:=as_f k (k+20) s.AS (by omega) (by omega) rfl
 unfold attr_wrong.f
 by_cases h2:(s.AS.length:Int) < 1
 ·exact ⟨true,by simp [h2],fun h=>nomatch h⟩
 ·by_cases h3:(s.AS.length:Int) > 255
  ·exact ⟨true,by simp [h2,h3],fun h=>nomatch h⟩
  ·exact ⟨c,by simp [h2,h3,h1],fun _=>by omega⟩
theorem sg_l0 (k:Nat) (l:List S_api_Segment) (hl:l.length≤140737488351232) (hs:∀ s∈l,s.AS.length≤1000) (hk2:2000≤k):∀ (m kk i:Nat),i+m=l.length→m < kk→∃ r,api_Segment_110_attr_wrong.l0 (k+20) l kk (i:Int)=some r∧((r=.inr ()∧∀ x∈l.drop i,x.AS.length≤255)∨∃ j:Int,r=.inl j∧0≤j)
 | 0,kk+1,i,h,_=>⟨.inr (),by rw [api_Segment_110_attr_wrong.l0,if_neg (by simp;omega)],.inl ⟨rfl,by rw [List.drop_of_length_le (by omega)];exact fun _ h=>nomatch h⟩⟩
 | m+1,kk+1,i,h,hk=>by
  have hi:i < l.length:=by omega
  have e:IntKind.i64.wrap ((i:Int)+1)=((i+1:Nat):Int):=by rw [w64 _ (by omega)];omega
  have er:rd l (i:Int)=l[i]:=by simp [rd,List.getD,hi]
  obtain ⟨b,hb,hb2⟩:=wrong_ok k l[i] (hs _ (List.getElem_mem hi)) hk2
  rw [api_Segment_110_attr_wrong.l0,if_pos (by simp;omega),if_pos ⟨by omega,by omega⟩,er,e,hb,Option.bind_some,List.drop_eq_getElem_cons hi]
  cases b with
  | false =>
   rw [if_neg (by simp)]
   obtain ⟨r,h1,h2⟩:=sg_l0 k l hl hs hk2 m kk (i+1) (by omega) (by omega)
   refine ⟨r,h1,h2.imp (fun ⟨a,b⟩=>⟨a,fun x hx=>?_⟩) id⟩
   rcases List.mem_cons.1 hx with rfl | hx
   ·exact hb2 rfl
   ·exact b x hx
  | true =>
   rw [if_pos rfl]
   exact ⟨.inl (i:Int),rfl,.inr ⟨(i:Int),rfl,by omega⟩⟩
theorem path_f (k:Nat) (l:List S_api_Segment) (hl:l.length≤1000) (hs:∀ s∈l,s.AS.length≤1000) (hk2:2000≤k):∃ b,attr_rightPath.f (k+20) l=some b∧(b=true→l.length≤16∧∀ x∈l,x.AS.length≤255):=by
 obtain ⟨r,h1,h2⟩:=sg_l0 k l (by omega) hs hk2 l.length (k+20) 0 (by omega) (by omega)
 unfold attr_rightPath.f api_Segment_94_attr_wrong.f api_Segment_110_attr_wrong.f
 rw [show api_Segment_110_attr_wrong.l0 (k+20) l (k+20) 0=_ from h1,Option.bind_some]
 by_cases h16:(l.length:Int)≤16
 ·rcases h2 with ⟨rfl,h2⟩ | ⟨j,rfl,h2⟩
  ·exact ⟨true,by simp [h16],fun _=>⟨by omega,by simpa using h2⟩⟩
  ·exact ⟨false,by simp [h16,h2],fun h=>nomatch h⟩
 ·exact ⟨false,by simp [h16],fun h=>nomatch h⟩
structure RightX (x:S_api_Attrs):Prop where
 o0:0≤x.Origin
 o1:x.Origin≤2
 tn:x.Tunnels.length≤1
 cl:∀ c∈x.Clusters,routerB c=true
 cn:x.Clusters.length≤32
 en:x.Exts.length≤64
 pn:x.Path.length≤16
 ps:∀ s∈x.Path,s.AS.length≤255
theorem rightA_ok (k:Nat) (x:S_api_Attrs) (h1:x.Path.length≤1000) (h2:∀ s∈x.Path,s.AS.length≤1000) (h3:x.Clusters.length≤1000) (h4:x.Tunnels.length≤1000) (hk:2000≤k):∃ ok,attr_Right.f (k+20) x=some ok∧(ok=true→RightX x):=by
 obtain ⟨p,hp,hp2⟩:=path_f k x.Path h1 h2 hk
 obtain ⟨c,hc,hc2⟩:=cl_f k (k+20) x.Clusters (by omega) (by omega) rfl
 obtain ⟨t,ht,ht2⟩:=tn_f k (k+20) x.Tunnels (by omega) (by omega) rfl
 unfold attr_Right.f
 rw [router_ok,hp,hc,ht]
 simp only [Option.bind_some]
 by_cases a1:x.Origin < 0
 ·exact ⟨false,by simp [a1],fun h=>nomatch h⟩
 by_cases a2:x.Origin > 2
 ·exact ⟨false,by simp [a1,a2],fun h=>nomatch h⟩
 by_cases a3:x.Med < -1
 ·exact ⟨false,by simp [a1,a2,a3],fun h=>nomatch h⟩
 by_cases a4:x.Med > 4294967295
 ·exact ⟨false,by simp [a1,a2,a3,a4],fun h=>nomatch h⟩
 by_cases a5:x.Pref < -1
 ·exact ⟨false,by simp [a1,a2,a3,a4,a5],fun h=>nomatch h⟩
 by_cases a6:x.Pref > 4294967295
 ·exact ⟨false,by simp [a1,a2,a3,a4,a5,a6],fun h=>nomatch h⟩
 simp only [a1,a2,a3,a4,a5,a6,decide_false,Bool.false_eq_true,if_false,Option.bind_some]
 by_cases a7:(if (!((x.Originator.Size==(0:Int)) && ((eqA 16 x.Originator.B (List.replicate 16 (0:Int))) && true)))=true then some (!routerB x.Originator) else some (false:Bool))=some true
 ·exact ⟨false,by rw [a7];rfl,fun h=>nomatch h⟩
 have a8:(if (!((x.Originator.Size==(0:Int)) && ((eqA 16 x.Originator.B (List.replicate 16 (0:Int))) && true)))=true then some (!routerB x.Originator) else some (false:Bool))=some false:=by
  split at a7<;>rename_i q
  ·rw [if_pos q];cases hr:routerB x.Originator<;>simp_all
  ·rw [if_neg q]
 rw [a8]
 simp only [Bool.false_eq_true,if_false,Option.bind_some]
 by_cases b1:(x.Clusters.length:Int) > 32
 ·exact ⟨false,by simp [b1],fun h=>nomatch h⟩
 by_cases b2:(x.Exts.length:Int) > 64
 ·exact ⟨false,by simp [b1,b2],fun h=>nomatch h⟩
 by_cases b3:(x.Tunnels.length:Int) > 1
 ·exact ⟨false,by simp [b1,b2,b3],fun h=>nomatch h⟩
 simp only [b1,b2,b3,decide_false,Bool.false_eq_true,if_false,Option.bind_some]
 cases c with
 | true=>exact ⟨false,by simp,fun h=>nomatch h⟩
 | false =>
  cases t with
  | true=>exact ⟨false,by simp,fun h=>nomatch h⟩
  | false=>exact ⟨p,by simp,fun h=>⟨by omega,by omega,by omega,hc2 rfl,by omega,by omega,(hp2 h).1,(hp2 h).2⟩⟩
theorem num_tot (k:Nat) (n:Int):∃ v,attr_num.f (k+5) n=some v∧v.length≤4:=by
 unfold attr_num.f
 by_cases h:n < 0∨n ≥ 2^(8*4)
 ·rw [put_bad5 (k+5) [] n 4 (by omega) (by omega) h]
  exact ⟨[],rfl,by simp⟩
 ·rw [show (4:Int)=((4:Nat):Int) from rfl,put_ok k [] n 4 (by simp) (by omega) (by omega) (by omega) (by omega)]
  exact ⟨_,rfl,by simp [putL]⟩
theorem abytes_ok (k:Nat) (a:S_api_Addr):∃ v,addr_Bytes.f (k+20) a=some v∧v.length≤16∧(routerB a=true→v.length=4):=by
 unfold addr_Bytes.f
 rw [right_ok,Option.bind_some]
 cases hr:rightB a with
 | false=>exact ⟨[],by simp,by simp,fun h=>by unfold routerB at h;rw [hr] at h;simp at h⟩
 | true =>
  have hs:0≤a.Size∧a.Size≤16:=by
   unfold rightB isSz at hr
   simp at hr
   omega
  have h16:(arL 16 a.B).length=16:=arL_length _ _
  rw [if_neg (by simp),if_pos ⟨by omega,hs.1,hs.2⟩,clone_ok _ (by simp [h16];omega)]
  refine ⟨_,rfl,by simp [h16];omega,fun h=>?_⟩
  unfold routerB at h
  simp at h
  simp [h16,h.1]
theorem wl0_ok (k:Nat) (cl:List S_api_Addr) (hl:cl.length≤1000) (hr:∀ c∈cl,routerB c=true):∀ (m kk i:Nat) (b:List Int),i+m=cl.length→m < kk→b.length=4*i→∃ d,Write.l0 (k+20) cl kk b (i:Int)=some d∧d.length=4*cl.length
 | 0,kk+1,i,b,h,_,hb=>⟨b,by rw [Write.l0,if_neg (by simp;omega)],by omega⟩
 | m+1,kk+1,i,b,h,hk,hb=>by
  have hi:i < cl.length:=by omega
  have e:IntKind.i64.wrap ((i:Int)+1)=((i+1:Nat):Int):=by rw [w64 _ (by omega)];omega
  have er:rd cl (i:Int)=cl[i]:=by simp [rd,List.getD,hi]
  obtain ⟨v,h1,h2,h3⟩:=abytes_ok k cl[i]
  have h4:=h3 (hr _ (List.getElem_mem hi))
  rw [Write.l0,if_pos (by simp;omega),if_pos ⟨by omega,by omega⟩,er,e,h1,Option.bind_some,if_pos (by omega)]
  exact wl0_ok k cl hl hr m kk (i+1) (b++v) (by omega) (by omega) (by simp;omega)
theorem pb1_tot (k:Nat) (l:List S_api_Segment) (s:S_api_Segment) (x9:Int) (hs:rd l x9=s) (hl:s.AS.length≤1000):∀ (m kk i:Nat) (b:List Int),i+m=s.AS.length→m < kk→b.length≤1000000+4*i→∃ d,attr_pathBytes.l1 (k+5) l x9 kk b (i:Int)=some d∧d.length≤b.length+4*m
 | 0,kk+1,i,b,h,_,_=>⟨b,by rw [attr_pathBytes.l1,hs,if_neg (by simp;omega)],by omega⟩
 | m+1,kk+1,i,b,h,hk,hb=>by
  have e:IntKind.i64.wrap ((i:Int)+1)=((i+1:Nat):Int):=by rw [w64 _ (by omega)];omega
  obtain ⟨v,h1,h2⟩:=num_tot k (rd s.AS (i:Int))
  rw [attr_pathBytes.l1,hs,if_pos (by simp;omega),if_pos ⟨by omega,by omega⟩,e,h1,Option.bind_some,if_pos (by omega)]
  obtain ⟨d,h3,h4⟩:=pb1_tot k l s x9 hs hl m kk (i+1) (b++v) (by omega) (by omega) (by simp;omega)
  exact ⟨d,h3,by simp at h4;omega⟩
theorem cb_tot (l:List (List Int)) (hl:l.length≤1000):∀ (m kk i:Nat) (b:List Int),i+m=l.length→m < kk→b.length=8*i→∃ d,community_Bytes.l0 l kk b (i:Int)=some d
 | 0,kk+1,i,b,h,_,_=>⟨b,by rw [community_Bytes.l0,if_neg (by simp;omega)]⟩
 | m+1,kk+1,i,b,h,hk,hb=>by
  have e:IntKind.i64.wrap ((i:Int)+1)=((i+1:Nat):Int):=by rw [w64 _ (by omega)];omega
  have h8:(arL 8 (rd l (i:Int))).length=8:=arL_length _ _
  rw [community_Bytes.l0,if_pos (by simp;omega),if_pos ⟨by omega,by omega⟩,e,if_pos (by omega)]
  exact cb_tot l hl m kk (i+1) _ (by omega) (by omega) (by simp [h8];omega)
theorem pb0_tot (k:Nat) (l:List S_api_Segment) (hl:l.length≤16) (hs:∀ s∈l,s.AS.length≤255) (hk2:2000≤k):∀ (m kk i:Nat) (b:List Int),i+m=l.length→m < kk→b.length≤1022*i→∃ d,attr_pathBytes.l0 (k+5) l kk b (i:Int)=some d
 | 0,kk+1,i,b,h,_,_=>⟨b,by rw [attr_pathBytes.l0,if_neg (by simp;omega)]⟩
 | m+1,kk+1,i,b,h,hk,hb=>by
  have hi:i < l.length:=by omega
  have e:IntKind.i64.wrap ((i:Int)+1)=((i+1:Nat):Int):=by rw [w64 _ (by omega)];omega
  have er:rd l (i:Int)=l[i]:=by simp [rd,List.getD,hi]
  have h255:=hs _ (List.getElem_mem hi)
  rw [attr_pathBytes.l0,if_pos (by simp;omega),if_pos ⟨by omega,by omega⟩,er,e]
  obtain ⟨s,hs34⟩:∃ s:Int,(if l[i].Set=true then some ((1:Int):Int) else some ((2:Int):Int))=some s:=by cases l[i].Set<;>exact ⟨_,rfl⟩
  rw [hs34,Option.bind_some,if_pos (by simp;omega)]
  obtain ⟨d,h1,h2⟩:=pb1_tot k l l[i] (i:Int) er (by omega) l[i].AS.length (k+5) 0 (b++[s,IntKind.u8.wrap (l[i].AS.length:Int)]) (by omega) (by omega) (by simp;omega)
  rw [show attr_pathBytes.l1 (k+5) l (i:Int) (k+5) (b++[s,IntKind.u8.wrap (l[i].AS.length:Int)]) 0=_ from h1,Option.bind_some]
  exact pb0_tot k l hl hs hk2 m kk (i+1) d (by omega) (by omega) (by simp at h2;omega)
theorem fw0 (x:S_api_Attrs) (hl:x.Path.length≤140737488351232):∀ (m kk i:Nat),i+m=x.Path.length→m < kk→∃ r,vinerylaw09_Few.l0 x kk (i:Int)=some r∧(r=.inl false∨(r=.inr ()∧∀ s∈x.Path.drop i,s.AS.length≤300))
 | 0,kk+1,i,h,_=>⟨.inr (),by rw [vinerylaw09_Few.l0,if_neg (by simp;omega)],.inr ⟨rfl,by rw [List.drop_of_length_le (by omega)];exact fun _ h=>nomatch h⟩⟩
 | m+1,kk+1,i,h,hk=>by
  have hi:i < x.Path.length:=by omega
  have e:IntKind.i64.wrap ((i:Int)+1)=((i+1:Nat):Int):=by rw [w64 _ (by omega)];omega
  have er:rd x.Path (i:Int)=x.Path[i]:=by simp [rd,List.getD,hi]
  rw [vinerylaw09_Few.l0,if_pos (by simp;omega),if_pos ⟨by omega,by omega⟩,er,e,List.drop_eq_getElem_cons hi]
  by_cases hp:(x.Path[i].AS.length:Int) > 300
  ·exact ⟨.inl false,by rw [if_pos (by simpa using hp)],.inl rfl⟩
  ·rw [if_neg (by simpa using hp)]
   obtain ⟨r,h1,h2⟩:=fw0 x hl m kk (i+1) (by omega) (by omega)
   refine ⟨r,h1,h2.imp id (fun ⟨a,b⟩=>⟨a,fun s hs=>?_⟩)⟩
   rcases List.mem_cons.1 hs with rfl | hs
   ·omega
   ·exact b s hs
theorem fw1 (x:S_api_Attrs) (hl:x.Tunnels.length≤140737488351232):∀ (m kk i:Nat),i+m=x.Tunnels.length→m < kk→∃ r,vinerylaw09_Few.l1 x kk (i:Int)=some r∧(r=.inl false∨(r=.inr ()∧∀ s∈x.Tunnels.drop i,s.Id.length≤1024))
 | 0,kk+1,i,h,_=>⟨.inr (),by rw [vinerylaw09_Few.l1,if_neg (by simp;omega)],.inr ⟨rfl,by rw [List.drop_of_length_le (by omega)];exact fun _ h=>nomatch h⟩⟩
 | m+1,kk+1,i,h,hk=>by
  have hi:i < x.Tunnels.length:=by omega
  have e:IntKind.i64.wrap ((i:Int)+1)=((i+1:Nat):Int):=by rw [w64 _ (by omega)];omega
  have er:rd x.Tunnels (i:Int)=x.Tunnels[i]:=by simp [rd,List.getD,hi]
  rw [vinerylaw09_Few.l1,if_pos (by simp;omega),if_pos ⟨by omega,by omega⟩,er,e,List.drop_eq_getElem_cons hi]
  by_cases hp:(x.Tunnels[i].Id.length:Int) > 1024
  ·exact ⟨.inl false,by rw [if_pos (by simpa using hp)],.inl rfl⟩
  ·rw [if_neg (by simpa using hp)]
   obtain ⟨r,h1,h2⟩:=fw1 x hl m kk (i+1) (by omega) (by omega)
   refine ⟨r,h1,h2.imp id (fun ⟨a,b⟩=>⟨a,fun s hs=>?_⟩)⟩
   rcases List.mem_cons.1 hs with rfl | hs
   ·omega
   ·exact b s hs
theorem few_ok (k:Nat) (x:S_api_Attrs) (h1:x.Path.length≤140737488351232) (h2:x.Tunnels.length≤140737488351232) (hk:x.Path.length < k∧x.Tunnels.length < k):∃ b,vinerylaw09_Few.f k x=some b∧(b=true→x.Path.length < 20∧(∀ s∈x.Path,s.AS.length≤300)∧x.Clusters.length < 100∧x.Exts.length < 200∧x.Tunnels.length < 10∧∀ t∈x.Tunnels,t.Id.length≤1024):=by
 obtain ⟨r,p1,p2⟩:=fw0 x h1 x.Path.length k 0 (by omega) hk.1
 obtain ⟨q,q1,q2⟩:=fw1 x h2 x.Tunnels.length k 0 (by omega) hk.2
 unfold vinerylaw09_Few.f
 rw [show vinerylaw09_Few.l0 x k 0=_ from p1,Option.bind_some]
 rcases p2 with rfl | ⟨rfl,p2⟩
 ·exact ⟨false,rfl,fun h=>nomatch h⟩
 rw [show vinerylaw09_Few.l1 x k 0=_ from q1]
 simp only [Option.bind_some]
 rcases q2 with rfl | ⟨rfl,q2⟩
 ·exact ⟨false,rfl,fun h=>nomatch h⟩
 by_cases a1:(x.Path.length:Int) < 20
 ·by_cases a2:(x.Clusters.length:Int) < 100
  ·by_cases a3:(x.Exts.length:Int) < 200
   ·by_cases a4:(x.Tunnels.length:Int) < 10
    ·exact ⟨true,by simp [a1,a2,a3,a4],fun _=>⟨by omega,by simpa using p2,by omega,by omega,by omega,by simpa using q2⟩⟩
    ·exact ⟨false,by simp [a1,a2,a3,a4],fun h=>nomatch h⟩
   ·exact ⟨false,by simp [a1,a2,a3],fun h=>nomatch h⟩
  ·exact ⟨false,by simp [a1,a2],fun h=>nomatch h⟩
 ·exact ⟨false,by simp [a1],fun h=>nomatch h⟩
theorem outp_len2 (l:List S_api_Raw) (is:Bool) (f k:Int) (v:List Int):(outp l is f k v).length≤l.length+1:=by
 unfold outp;split<;>simp
def L7 (x:S_api_Attrs) (pb mb rb ob d eb:List Int) (c:Bool):List S_api_Raw :=
 outp (outp (outp (outp (outp (outp (outp [] true 64 1 [IntKind.u8.wrap x.Origin]) true 64 2 pb) (decide (x.Med ≥ (0:Int))) 128 4 mb) (decide (x.Pref ≥ (0:Int))) 64 5 rb) (decide (x.Originator.Size > (0:Int))) 128 9 ob) c 128 10 d) (decide ((x.Exts.length:Int) > (0:Int))) 192 16 eb
theorem L7_len (x:S_api_Attrs) (pb mb rb ob d eb:List Int) (c:Bool):(L7 x pb mb rb ob d eb c).length≤7:=by
 unfold L7
 refine Nat.le_trans (outp_len2 _ _ _ _ _) (Nat.succ_le_succ (Nat.le_trans (outp_len2 _ _ _ _ _) (Nat.succ_le_succ (Nat.le_trans (outp_len2 _ _ _ _ _) (Nat.succ_le_succ (Nat.le_trans (outp_len2 _ _ _ _ _) (Nat.succ_le_succ (Nat.le_trans (outp_len2 _ _ _ _ _) (Nat.succ_le_succ (Nat.le_trans (outp_len2 _ _ _ _ _) (Nat.succ_le_succ (outp_len2 _ _ _ _ _))))))))))))
theorem write_ok (k:Nat) (x:S_api_Attrs) (h1:x.Path.length≤1000) (h2:∀ s∈x.Path,s.AS.length≤1000) (h3:x.Clusters.length≤1000) (h4:x.Tunnels.length≤1000) (h5:∀ t∈x.Tunnels,t.Id.length≤1024) (hk:2000≤k) :
  (attr_Right.f (k+20) x=some false∧attr_Write.f (k+20) x=some ([],1)) ∨
  (attr_Right.f (k+20) x=some true∧∃ pb mb rb ob d eb v,attr_Write.f (k+20) x=some (outp (L7 x pb mb rb ob d eb (decide ((x.Clusters.length:Int) > 0))) (decide ((x.Tunnels.length:Int) > 0)) 192 22 v,0)):=by
 obtain ⟨ok,hok,hr⟩:=rightA_ok k x h1 h2 h3 h4 hk
 unfold attr_Write.f
 rw [hok,Option.bind_some]
 cases ok with
 | false=>exact .inl ⟨rfl,rfl⟩
 | true =>
  right
  have R:=hr rfl
  obtain ⟨d,q1,q2⟩:=wl0_ok k x.Clusters h3 R.cl x.Clusters.length (k+20) 0 [] (by omega) (by omega) rfl
  obtain ⟨pb,q3⟩:=pb0_tot (k+15) x.Path R.pn R.ps (by omega) x.Path.length (k+20) 0 [] (by omega) (by omega) (by simp)
  obtain ⟨mb,q4,_⟩:=num_tot (k+15) x.Med
  obtain ⟨rb,q5,_⟩:=num_tot (k+15) x.Pref
  obtain ⟨ob,q6,_⟩:=abytes_ok k x.Originator
  have hen:=R.en
  have htn:=R.tn
  obtain ⟨eb,q7⟩:=cb_tot x.Exts (by omega) x.Exts.length (k+20) 0 [] (by omega) (by omega) rfl
  have e1:attr_pathBytes.f (k+20) x.Path=some pb:=by unfold attr_pathBytes.f;rw [show attr_pathBytes.l0 (k+20) x.Path (k+20) [] 0=_ from q3];rfl
  have e2:community_Bytes.f (k+20) x.Exts=some eb:=by unfold community_Bytes.f;rw [show community_Bytes.l0 x.Exts (k+20) [] 0=_ from q7];rfl
  have hd:decide ((d.length:Int) > 0)=decide ((x.Clusters.length:Int) > 0):=by rw [q2];congr 1;apply propext;omega
  have h7:=L7_len x pb mb rb ob d eb (decide ((x.Clusters.length:Int) > 0))
  have main:∃ v,Write.l1 (k+20) x.Tunnels (k+20) (L7 x pb mb rb ob d eb (decide ((x.Clusters.length:Int) > 0))) 0=some (outp (L7 x pb mb rb ob d eb (decide ((x.Clusters.length:Int) > 0))) (decide ((x.Tunnels.length:Int) > 0)) 192 22 v):=by
   generalize L7 x pb mb rb ob d eb (decide ((x.Clusters.length:Int) > 0))=L at h7
   match hT:x.Tunnels,htn with
   | [],_=>exact ⟨[],by rw [Write.l1,if_neg (by simp)];rfl⟩
   | [t],_ =>
    obtain ⟨v,hv⟩:∃ v,pmsi_Bytes.f (k+20) t=some v:=⟨_,pbytes_ok k t (by have:=h5 t (by rw [hT];simp);omega)⟩
    refine ⟨v.1,?_⟩
    rw [Write.l1,if_pos (by simp),if_pos ⟨by omega,by simp⟩,show rd [t] (0:Int)=t from rfl,hv,Option.bind_some,if_pos (by omega),show IntKind.i64.wrap ((0:Int)+1)=1 from rfl,show k+19=(k+18)+1 from rfl,Write.l1,if_neg (by simp)]
    rfl
  obtain ⟨v,hv⟩:=main
  unfold L7 at hv ⊢
  refine ⟨rfl,pb,mb,rb,ob,d,eb,v,?_⟩
  rw [show Write.l0 (k+20) x.Clusters (k+20) [] 0=_ from q1,e1,show attr_num.f (k+20) x.Med=_ from q4,show attr_num.f (k+20) x.Pref=_ from q5,q6,e2]
  simp only [Bool.not_true,Bool.false_eq_true,if_false,Option.bind_some,hd]
  rw [show Write.l1 (k+20) x.Tunnels (k+20) _ 0=_ from hv,Option.bind_some]
theorem open_ok (b:List Int) (h:b.length≤140737488355328):cursor_Open.f b=some ⟨⟨b,false⟩⟩:=by
 unfold cursor_Open.f
 rw [clone_ok _ h]
 rfl
def N32 (n:Int):Prop:=0≤n∧n≤4294967295
theorem putL_len (n:Int):(putL n 4).length=4:=rfl
theorem num4 (k:Nat) (n:Int) (rest:List Int) (h:N32 n):cursor_Reader_Num.f (k+5) ⟨⟨putL n 4++rest,false⟩⟩ 4=some (n,⟨⟨rest,false⟩⟩):=by
 have hp:(putL n 4).length=4:=rfl
 obtain ⟨h0,h1⟩:=h
 rw [num_ok k _ 4 rfl (by omega) (by omega) (by simp [hp];omega)]
 show some (numL (putL n 4) 0,_)=_
 rw [num_put n 4 (by omega) (by omega) h0 (by omega)]
 rfl
theorem num_val (k:Nat) (n:Int) (h:N32 n):attr_num.f (k+5) n=some (putL n 4):=by
 obtain ⟨h0,h1⟩:=h
 unfold attr_num.f
 rw [show (4:Int)=((4:Nat):Int) from rfl,put_ok k [] n 4 (by simp) (by omega) (by omega) (by omega) (by omega)]
 rfl
theorem u8wr (n:Int) (h:0≤n∧n≤255):IntKind.u8.wrap n=n:=by rw [IntKind.wrap_u8];omega
def kindL (b:Bool):Int:=if b=true then 1 else 2
def asL (l:List Int):List Int:=l.flatMap fun n=>putL n 4
def segB (s:S_api_Segment):List Int:=[kindL s.Set,(s.AS.length:Int)]++asL s.AS
def GoodS (s:S_api_Segment):Prop:=1≤s.AS.length∧s.AS.length≤255∧∀ n∈s.AS,N32 n
theorem asL_len (l:List Int):(asL l).length=4*l.length:=by
 unfold asL
 induction l with
 | nil=>rfl
 | cons a l ih=>rw [List.flatMap_cons,List.length_append,ih,putL_len,List.length_cons];omega
theorem segB_len (s:S_api_Segment):(segB s).length=2+4*s.AS.length:=by
 unfold segB
 rw [List.length_append,asL_len]
 rfl
theorem segBs_len (l:List S_api_Segment) (h:∀ s∈l,GoodS s):(l.flatMap segB).length≤1022*l.length:=by
 induction l with
 | nil=>simp
 | cons a l ih =>
  have h1:=ih fun s hs=>h s (by simp [hs])
  have h2:=(h a (by simp)).2.1
  rw [List.flatMap_cons,List.length_append,segB_len,List.length_cons]
  omega
theorem rdI (l:List Int) (i:Nat) (hi:i < l.length):rd l (i:Int)=l[i]:=by simp [rd,List.getD,hi]
theorem inc64 (i:Nat) (h:i≤100000):IntKind.i64.wrap ((i:Int)+1)=((i+1:Nat):Int):=by rw [w64 _ (by omega)];omega
theorem pb1_val (k:Nat) (l:List S_api_Segment) (s:S_api_Segment) (x9:Int) (hs:rd l x9=s) (hl:s.AS.length≤255) (hn:∀ n∈s.AS,N32 n):∀ (m kk i:Nat) (b:List Int),i+m=s.AS.length→m < kk→b.length≤1000000+4*i →
  attr_pathBytes.l1 (k+5) l x9 kk b (i:Int)=some (b++asL (s.AS.drop i))
 | 0,kk+1,i,b,h,_,_=>by rw [attr_pathBytes.l1,hs,if_neg (by simp;omega),List.drop_of_length_le (by omega)];simp [asL]
 | m+1,kk+1,i,b,h,hk,hb=>by
  have hi:i < s.AS.length:=by omega
  have hv:=num_val k s.AS[i] (hn _ (List.getElem_mem hi))
  have hp:=putL_len s.AS[i]
  rw [attr_pathBytes.l1,hs,if_pos (by simp;omega),if_pos ⟨by omega,by omega⟩,inc64 i (by omega),rdI _ _ hi,hv,Option.bind_some,if_pos (by omega)]
  rw [pb1_val k l s x9 hs hl hn m kk (i+1) (b++putL s.AS[i] 4) (by omega) (by omega) (by simp [hp];omega)]
  rw [List.drop_eq_getElem_cons hi,asL,asL,List.flatMap_cons,List.append_assoc]
theorem pb0_val (k:Nat) (l:List S_api_Segment) (hl:l.length≤16) (hg:∀ s∈l,GoodS s) (hk2:2000≤k):∀ (m kk i:Nat) (b:List Int),i+m=l.length→m < kk→b.length≤1022*i →
  attr_pathBytes.l0 (k+5) l kk b (i:Int)=some (b++(l.drop i).flatMap segB)
 | 0,kk+1,i,b,h,_,_=>by rw [attr_pathBytes.l0,if_neg (by simp;omega),List.drop_of_length_le (by omega)];simp
 | m+1,kk+1,i,b,h,hk,hb=>by
  have hi:i < l.length:=by omega
  have er:rd l (i:Int)=l[i]:=by simp [rd,List.getD,hi]
  obtain ⟨g1,g2,g3⟩:=hg l[i] (List.getElem_mem hi)
  rw [attr_pathBytes.l0,if_pos (by simp;omega),if_pos ⟨by omega,by omega⟩,inc64 i (by omega),er]
  have e1:(if l[i].Set=true then some (1:Int) else some 2)=some (kindL l[i].Set):=by unfold kindL;split<;>rfl
  rw [e1,Option.bind_some,u8wr _ (by omega),if_pos (by simp;omega)]
  have hp:=pb1_val k l l[i] (i:Int) er g2 g3 l[i].AS.length (k+5) 0 (b++[kindL l[i].Set,(l[i].AS.length:Int)]) (by omega) (by omega) (by simp;omega)
  rw [show (0:Int)=((0:Nat):Int) from rfl,hp,Option.bind_some,List.drop_zero]
  have hs:=segB_len l[i]
  rw [show b++[kindL l[i].Set,(l[i].AS.length:Int)]++asL l[i].AS=b++segB l[i] by unfold segB;rw [List.append_assoc]]
  rw [pb0_val k l hl hg hk2 m kk (i+1) (b++segB l[i]) (by omega) (by omega) (by rw [List.length_append];omega)]
  rw [List.drop_eq_getElem_cons hi,List.flatMap_cons,List.append_assoc]
theorem pb_val (k:Nat) (l:List S_api_Segment) (hl:l.length≤16) (hg:∀ s∈l,GoodS s) (hk2:2000≤k):attr_pathBytes.f (k+5) l=some (l.flatMap segB):=by
 unfold attr_pathBytes.f
 rw [show attr_pathBytes.l0 (k+5) l (k+5) [] 0=_ from pb0_val k l hl hg hk2 l.length (k+5) 0 [] (by omega) (by omega) (by simp)]
 rfl
theorem rp1_val (k:Nat) (t:Int×S_cursor_Reader) (tail:List Int) (ht:t.1≤255):∀ (l:List Int) (kk i:Nat) (acc:List Int),(i:Int)+l.length=t.1→l.length < kk→acc.length≤i→(∀ n∈l,N32 n) →
  attr_readPath.l1 (k+5) t kk (i:Int) (asL l++tail) false acc=some (tail,false,acc++l)
 | [],kk+1,i,acc,h,_,_,_=>by
  rw [attr_readPath.l1,if_neg (by simp at h ⊢;omega)]
  simp [asL]
 | n::l,kk+1,i,acc,h,hk,ha,hn=>by
  simp only [List.length_cons] at h hk
  rw [attr_readPath.l1,if_pos (by simp;omega)]
  rw [show asL (n::l)++tail=putL n 4++(asL l++tail) by unfold asL;rw [List.flatMap_cons,List.append_assoc]]
  rw [num4 k n _ (hn n (by simp)),Option.bind_some,if_pos (by simp;omega),Option.bind_some,inc64 i (by omega)]
  rw [rp1_val k t tail ht l kk (i+1) (acc++[n]) (by omega) (by omega) (by simp;omega) (fun y hy=>hn y (by simp [hy]))]
  simp
theorem rp0_val (k:Nat) (hk2:2000≤k):∀ (l:List S_api_Segment) (kk:Nat) (acc:List S_api_Segment),l.length < kk→acc.length+l.length≤100→(∀ s∈l,GoodS s) →
  attr_readPath.l0 (k+5) kk acc (l.flatMap segB) false=some (.inr (acc++l,[],false))
 | [],kk+1,acc,_,_,_=>by
  rw [attr_readPath.l0,left_f]
  simp
 | s::l,kk+1,acc,hk,ha,hg=>by
  obtain ⟨g1,g2,g3⟩:=hg s (by simp)
  simp only [List.length_cons] at hk ha
  have hlen:=segB_len s
  rw [attr_readPath.l0,left_f]
  simp only [Bool.false_eq_true,if_false,Option.bind_some]
  rw [if_pos (by rw [List.flatMap_cons,List.length_append];simp;omega)]
  rw [show (s::l).flatMap segB=kindL s.Set::(s.AS.length:Int)::(asL s.AS++l.flatMap segB) by rw [List.flatMap_cons];unfold segB;simp]
  have hkd:0≤kindL s.Set∧kindL s.Set≤255:=by unfold kindL;split<;>omega
  rw [num1 k _ _ hkd.1 hkd.2,Option.bind_some]
  show ((cursor_Reader_Num.f (k+5) ⟨⟨(s.AS.length:Int)::(asL s.AS++l.flatMap segB),false⟩⟩ 1).bind _)=_
  rw [num1 k _ _ (by omega) (by omega),Option.bind_some]
  have h1:=rp1_val k ((s.AS.length:Int),(⟨⟨asL s.AS++l.flatMap segB,false⟩⟩:S_cursor_Reader)) (l.flatMap segB) (by show (s.AS.length:Int)≤255;omega) s.AS (k+5) 0 [] (by simp) (by omega) (by simp) g3
  rw [show (0:Int)=((0:Nat):Int) from rfl,h1,Option.bind_some]
  have e2:∀ b:Bool,(if (kindL b != (1:Int))=true then (kindL b != (2:Int)) else false)=false:=by decide
  have e3:∀ b:Bool,(kindL b==(1:Int))=b:=by decide
  simp only [e2,e3,Bool.false_eq_true,if_false,List.nil_append]
  rw [if_pos (by simp;omega),rp0_val k hk2 l kk (acc++[s]) (by omega) (by simp;omega) (fun y hy=>hg y (by simp [hy]))]
  simp
theorem readPath_val (k:Nat) (l:List S_api_Segment) (hl:l.length≤16) (hg:∀ s∈l,GoodS s) (hk2:2000≤k) (hr:attr_rightPath.f (k+5) l=some true):attr_readPath.f (k+5) (l.flatMap segB)=some (l,true):=by
 have hb:=segBs_len l hg
 unfold attr_readPath.f
 rw [open_ok _ (by omega),Option.bind_some]
 show ((attr_readPath.l0 (k+5) (k+5) [] (l.flatMap segB) false).bind _)=_
 rw [rp0_val k hk2 l (k+5) [] (by omega) (by simp;omega) hg,Option.bind_some]
 unfold cursor_rest_Bad.f
 simp only [Option.bind_some,Bool.not_false,if_true,List.nil_append]
 rw [hr]
 rfl
theorem n32_of {n:Int} (h:num32 n=true):N32 n:=by
 unfold num32 at h
 unfold N32
 by_cases h1:n < 0
 ·simp [h1] at h
 ·by_cases h2:n > 4294967295
  ·simp [h1,h2] at h
  ·omega
theorem wrong2_ok (k:Nat) (s:S_api_Segment) (h:s.AS.length≤1000) (hk:2000≤k):∃ b,attr_wrong.f (k+20) s=some b∧(b=false→GoodS s):=by
 obtain ⟨c,h1,hc⟩:=as_f k (k+20) s.AS (by omega) (by omega) rfl
 unfold attr_wrong.f
 by_cases h2:(s.AS.length:Int) < 1
 ·exact ⟨true,by simp [h2],fun h=>nomatch h⟩
 ·by_cases h3:(s.AS.length:Int) > 255
  ·exact ⟨true,by simp [h2,h3],fun h=>nomatch h⟩
  ·exact ⟨c,by simp [h2,h3,h1],fun e=>⟨by omega,by omega,fun n hn=>n32_of (hc e n hn)⟩⟩
theorem sg2_l0 (k:Nat) (l:List S_api_Segment) (hl:l.length≤140737488351232) (hs:∀ s∈l,s.AS.length≤1000) (hk2:2000≤k):∀ (m kk i:Nat),i+m=l.length→m < kk→∃ r,api_Segment_110_attr_wrong.l0 (k+20) l kk (i:Int)=some r∧((r=.inr ()∧∀ x∈l.drop i,GoodS x)∨∃ j:Int,r=.inl j∧0≤j)
 | 0,kk+1,i,h,_=>⟨.inr (),by rw [api_Segment_110_attr_wrong.l0,if_neg (by simp;omega)],.inl ⟨rfl,by rw [List.drop_of_length_le (by omega)];exact fun _ h=>nomatch h⟩⟩
 | m+1,kk+1,i,h,hk=>by
  have hi:i < l.length:=by omega
  have e:IntKind.i64.wrap ((i:Int)+1)=((i+1:Nat):Int):=by rw [w64 _ (by omega)];omega
  have er:rd l (i:Int)=l[i]:=by simp [rd,List.getD,hi]
  obtain ⟨b,hb,hb2⟩:=wrong2_ok k l[i] (hs _ (List.getElem_mem hi)) hk2
  rw [api_Segment_110_attr_wrong.l0,if_pos (by simp;omega),if_pos ⟨by omega,by omega⟩,er,e,hb,Option.bind_some,List.drop_eq_getElem_cons hi]
  cases b with
  | false =>
   rw [if_neg (by simp)]
   obtain ⟨r,h1,h2⟩:=sg2_l0 k l hl hs hk2 m kk (i+1) (by omega) (by omega)
   refine ⟨r,h1,h2.imp (fun ⟨a,b⟩=>⟨a,fun x hx=>?_⟩) id⟩
   rcases List.mem_cons.1 hx with rfl | hx
   ·exact hb2 rfl
   ·exact b x hx
  | true =>
   rw [if_pos rfl]
   exact ⟨.inl (i:Int),rfl,.inr ⟨(i:Int),rfl,by omega⟩⟩
theorem path2_f (k:Nat) (l:List S_api_Segment) (hl:l.length≤1000) (hs:∀ s∈l,s.AS.length≤1000) (hk2:2000≤k):∃ b,attr_rightPath.f (k+20) l=some b∧(b=true→l.length≤16∧∀ x∈l,GoodS x):=by
 obtain ⟨r,h1,h2⟩:=sg2_l0 k l (by omega) hs hk2 l.length (k+20) 0 (by omega) (by omega)
 unfold attr_rightPath.f api_Segment_94_attr_wrong.f api_Segment_110_attr_wrong.f
 rw [show api_Segment_110_attr_wrong.l0 (k+20) l (k+20) 0=_ from h1,Option.bind_some]
 by_cases h16:(l.length:Int)≤16
 ·rcases h2 with ⟨rfl,h2⟩ | ⟨j,rfl,h2⟩
  ·exact ⟨true,by simp [h16],fun _=>⟨by omega,by simpa using h2⟩⟩
  ·exact ⟨false,by simp [h16,h2],fun h=>nomatch h⟩
 ·exact ⟨false,by simp [h16],fun h=>nomatch h⟩
def zeroA:S_api_Addr:=⟨0,List.replicate 16 0⟩
structure RightY (k:Nat) (x:S_api_Attrs):Prop where
 o0:0≤x.Origin
 o1:x.Origin≤2
 m0:-1≤x.Med
 m1:x.Med≤4294967295
 p0:-1≤x.Pref
 p1:x.Pref≤4294967295
 og:(x.Originator.Size=0∧eqA 16 x.Originator.B (List.replicate 16 (0:Int))=true)∨routerB x.Originator=true
 tn:x.Tunnels.length≤1
 cl:∀ c∈x.Clusters,routerB c=true
 cn:x.Clusters.length≤32
 en:x.Exts.length≤64
 tt:∀ t∈x.Tunnels,rightT t=true
 pn:x.Path.length≤16
 ps:∀ s∈x.Path,GoodS s
 pr:attr_rightPath.f k x.Path=some true
theorem orig_ok (a:S_api_Addr) (h:(if (!((a.Size==(0:Int)) && ((eqA 16 a.B (List.replicate 16 (0:Int))) && true)))=true then some (!routerB a) else some (false:Bool))=some false):(a.Size=0∧eqA 16 a.B (List.replicate 16 (0:Int))=true)∨routerB a=true:=by
 cases hr:routerB a
 ·left
  rw [hr] at h
  cases h1:(a.Size==(0:Int))<;>cases h2:eqA 16 a.B (List.replicate 16 (0:Int))<;>rw [h1,h2] at h<;>simp at h
  exact ⟨by simpa using h1,rfl⟩
 ·exact .inr rfl
theorem rightB2_ok (k:Nat) (x:S_api_Attrs) (h1:x.Path.length≤1000) (h2:∀ s∈x.Path,s.AS.length≤1000) (h3:x.Clusters.length≤1000) (h4:x.Tunnels.length≤1000) (hk:2000≤k):∃ ok,attr_Right.f (k+20) x=some ok∧(ok=true→RightY (k+20) x):=by
 obtain ⟨p,hp,hp2⟩:=path2_f k x.Path h1 h2 hk
 obtain ⟨c,hc,hc2⟩:=cl_f k (k+20) x.Clusters (by omega) (by omega) rfl
 obtain ⟨t,ht,ht2⟩:=tn_f k (k+20) x.Tunnels (by omega) (by omega) rfl
 unfold attr_Right.f
 rw [router_ok,hp,hc,ht]
 simp only [Option.bind_some]
 by_cases a1:x.Origin < 0
 ·exact ⟨false,by simp [a1],fun h=>nomatch h⟩
 by_cases a2:x.Origin > 2
 ·exact ⟨false,by simp [a1,a2],fun h=>nomatch h⟩
 by_cases a3:x.Med < -1
 ·exact ⟨false,by simp [a1,a2,a3],fun h=>nomatch h⟩
 by_cases a4:x.Med > 4294967295
 ·exact ⟨false,by simp [a1,a2,a3,a4],fun h=>nomatch h⟩
 by_cases a5:x.Pref < -1
 ·exact ⟨false,by simp [a1,a2,a3,a4,a5],fun h=>nomatch h⟩
 by_cases a6:x.Pref > 4294967295
 ·exact ⟨false,by simp [a1,a2,a3,a4,a5,a6],fun h=>nomatch h⟩
 simp only [a1,a2,a3,a4,a5,a6,decide_false,Bool.false_eq_true,if_false,Option.bind_some]
 by_cases a7:(if (!((x.Originator.Size==(0:Int)) && ((eqA 16 x.Originator.B (List.replicate 16 (0:Int))) && true)))=true then some (!routerB x.Originator) else some (false:Bool))=some true
 ·exact ⟨false,by rw [a7];rfl,fun h=>nomatch h⟩
 have a8:(if (!((x.Originator.Size==(0:Int)) && ((eqA 16 x.Originator.B (List.replicate 16 (0:Int))) && true)))=true then some (!routerB x.Originator) else some (false:Bool))=some false:=by
  split at a7<;>rename_i q
  ·rw [if_pos q];cases hr:routerB x.Originator<;>simp_all
  ·rw [if_neg q]
 rw [a8]
 simp only [Bool.false_eq_true,if_false,Option.bind_some]
 by_cases b1:(x.Clusters.length:Int) > 32
 ·exact ⟨false,by simp [b1],fun h=>nomatch h⟩
 by_cases b2:(x.Exts.length:Int) > 64
 ·exact ⟨false,by simp [b1,b2],fun h=>nomatch h⟩
 by_cases b3:(x.Tunnels.length:Int) > 1
 ·exact ⟨false,by simp [b1,b2,b3],fun h=>nomatch h⟩
 simp only [b1,b2,b3,decide_false,Bool.false_eq_true,if_false,Option.bind_some]
 cases c with
 | true=>exact ⟨false,by simp,fun h=>nomatch h⟩
 | false =>
  cases t with
  | true=>exact ⟨false,by simp,fun h=>nomatch h⟩
  | false=>exact ⟨p,by simp,fun h=>⟨by omega,by omega,by omega,by omega,by omega,by omega,orig_ok _ a8,by omega,hc2 rfl,by omega,by omega,ht2 rfl,(hp2 h).1,(hp2 h).2,by rw [hp,h]⟩⟩
theorem router_facts {a:S_api_Addr} (h:routerB a=true):a.Size=4∧rightB a=true:=by
 unfold routerB at h
 simp only [Bool.and_eq_true,beq_iff_eq] at h
 exact h
theorem rootL_len {a:S_api_Addr} (h:routerB a=true):(rootL a).length=4:=by
 unfold rootL
 rw [List.length_take,arL_length,(router_facts h).1]
 rfl
theorem roots_len (l:List S_api_Addr) (h:∀ a∈l,routerB a=true):(l.flatMap rootL).length=4*l.length:=by
 induction l with
 | nil=>rfl
 | cons a l ih =>
  rw [List.flatMap_cons,List.length_append,ih fun s hs=>h s (by simp [hs]),rootL_len (h a (by simp)),List.length_cons]
  omega
theorem wl0_val (k:Nat) (cl:List S_api_Addr) (hl:cl.length≤32) (hr:∀ c∈cl,routerB c=true):∀ (m kk i:Nat) (b:List Int),i+m=cl.length→m < kk→b.length=4*i→Write.l0 (k+20) cl kk b (i:Int)=some (b++(cl.drop i).flatMap rootL)
 | 0,kk+1,i,b,h,_,hb=>by rw [Write.l0,if_neg (by simp;omega),List.drop_of_length_le (by omega)];simp
 | m+1,kk+1,i,b,h,hk,hb=>by
  have hi:i < cl.length:=by omega
  have er:rd cl (i:Int)=cl[i]:=by simp [rd,List.getD,hi]
  have hc:=hr _ (List.getElem_mem hi)
  have h4:=rootL_len hc
  rw [Write.l0,if_pos (by simp;omega),if_pos ⟨by omega,by omega⟩,er,inc64 i (by omega),addrbytes_ok k _ (router_facts hc).2,Option.bind_some,if_pos (by omega)]
  rw [wl0_val k cl hl hr m kk (i+1) (b++rootL cl[i]) (by omega) (by omega) (by simp;omega)]
  rw [List.drop_eq_getElem_cons hi,List.flatMap_cons,List.append_assoc]
theorem rc0_val:∀ (cl:List S_api_Addr) (kk:Nat) (acc:List S_api_Addr),cl.length < kk→acc.length+cl.length≤100→(∀ a∈cl,routerB a=true∧a.B.length=16) →
  attr_readClusters.l0 kk acc (cl.flatMap rootL) false=some (acc++cl,[],false)
 | [],kk+1,acc,_,_,_=>by
  rw [attr_readClusters.l0,left_f]
  simp
 | a::cl,kk+1,acc,hk,ha,h=>by
  simp only [List.length_cons] at hk ha
  obtain ⟨h1,h2⟩:=h a (by simp)
  have h4:=rootL_len h1
  have h5:=roots_len cl fun s hs=>(h s (by simp [hs])).1
  rw [attr_readClusters.l0,left_f]
  simp only [Bool.false_eq_true,if_false,Option.bind_some]
  rw [List.flatMap_cons,if_pos (by rw [List.length_append];simp;omega),take_app _ _ 4 (by omega) (by omega),Option.bind_some]
  rw [of_root a (router_facts h1).2 h2,Option.bind_some,if_pos (by simp;omega)]
  show attr_readClusters.l0 kk (acc++[a]) (cl.flatMap rootL) false=_
  rw [rc0_val cl kk (acc++[a]) (by omega) (by simp;omega) fun y hy=>h y (by simp [hy])]
  simp
theorem readClusters_val (k:Nat) (cl:List S_api_Addr) (hl:cl.length≤32) (h0:cl≠[]) (h:∀ a∈cl,routerB a=true∧a.B.length=16) (hk:100≤k):attr_readClusters.f k (cl.flatMap rootL)=some (cl,true):=by
 have h5:=roots_len cl fun s hs=>(h s hs).1
 have h6:0 < cl.length:=List.length_pos_iff.2 h0
 unfold attr_readClusters.f
 rw [open_ok _ (by omega),Option.bind_some]
 show ((attr_readClusters.l0 k [] (cl.flatMap rootL) false).bind _)=_
 rw [rc0_val cl k [] (by omega) (by simp;omega) h,Option.bind_some]
 unfold cursor_rest_Bad.f
 simp only [Option.bind_some,Bool.not_false,if_true,List.nil_append]
 rw [if_pos (by simp;omega),decide_eq_true (by omega)]
theorem rdx {α:Type} [Inhabited α] (l:List α) (i:Nat) (hi:i < l.length):rd l (i:Int)=l[i]:=by simp [rd,List.getD,hi]
theorem arL8 {x:List Int} (h:x.length=8):arL 8 x=x:=by have:=arL_self x;rwa [h] at this
def vE (e:List Int):Prop:=e.length=8∧isB e
theorem list8 (e:List Int) (h:e.length=8):∃ a b c d p q r s:Int,e=[a,b,c,d,p,q,r,s]:=by
 match e,h with
 | [a,b,c,d,p,q,r,s],_=>exact ⟨a,b,c,d,p,q,r,s,rfl⟩
def allv (l:List (List Int)):Prop:=∀ y∈l,vE y
theorem flat8:∀ (l:List (List Int)),allv l→(l.flatten).length=8*l.length
 | [],_=>rfl
 | x::l,h=>by
  rw [List.flatten_cons,List.length_append,flat8 l (fun y hy=>h y (List.mem_cons_of_mem _ hy)),(h x (List.mem_cons_self)).1,List.length_cons];omega
theorem bytes_l0 (l:List (List Int)) (hv:allv l) (hl:l.length*8≤140737488351232):∀ (m i k:Nat) (out:List Int),i+m=l.length→m < k→out.length=8*i→community_Bytes.l0 l k out (i:Int)=some (out++(l.drop i).flatten)
 | 0,i,k+1,out,hi,_,_=>by rw [community_Bytes.l0,if_neg (by simp;omega),List.drop_eq_nil_of_le (by omega)];simp
 | m+1,i,k+1,out,hi,hk,ho=>by
  have hil:i < l.length:=by omega
  have hx:=hv l[i] (List.getElem_mem hil)
  have e:IntKind.i64.wrap ((i:Int)+1)=((i+1:Nat):Int):=by rw [IntKind.wrap_i64];omega
  rw [community_Bytes.l0,if_pos (by simp;omega),if_pos (by omega),rdx l i hil,arL8 hx.1,if_pos (by rw [hx.1];omega),e,bytes_l0 l hv hl m (i+1) k _ (by omega) (by omega) (by rw [List.length_append,hx.1];omega),List.drop_eq_getElem_cons hil,List.flatten_cons,List.append_assoc]
theorem bytes_ok (k:Nat) (l:List (List Int)) (hv:allv l) (hl:l.length*8≤140737488351232) (hk:l.length < k):community_Bytes.f k l=some l.flatten:=by
 have:=bytes_l0 l hv hl l.length 0 k [] (by omega) hk rfl
 unfold community_Bytes.f
 rw [show ((0:Int))=((0:Nat):Int) from rfl,this,Option.bind_some,List.drop_zero,List.nil_append]
theorem arC8c (x:List Int) (h:x.length=8):arC 8 (List.replicate 8 (0:Int)) x=x:=by
 obtain ⟨a,b,c,d,p,q,r,s,rfl⟩:=list8 x h
 rfl
theorem read_l0:∀ (r:List (List Int)) (acc:List (List Int)) (k:Nat),allv r→(acc.length+r.length)*8≤140737488351232→r.length < k→community_Read.l0 k acc r.flatten false=some (acc++r,[],false)
 | [],acc,k+1,_,_,_=>by
  rw [community_Read.l0,left_f];simp
 | x::r,acc,k+1,hv,hl,hk=>by
  have hx:=hv x (List.mem_cons_self)
  have hr:allv r:=fun y hy=>hv y (List.mem_cons_of_mem _ hy)
  have fl:=flat8 r hr
  rw [List.length_cons] at hl hk
  have len:(x++r.flatten).length=8+8*r.length:=by rw [List.length_append,hx.1,fl]
  rw [community_Read.l0,left_f,Option.bind_some,List.flatten_cons]
  simp only [Bool.false_eq_true,if_false]
  rw [if_pos (by rw [len];simp;omega),take_ok ⟨⟨x++r.flatten,false⟩⟩ 8 (by show (x++r.flatten).length≤_;omega) rfl (by decide) (by show (8:Int)≤((x++r.flatten).length:Int);omega),Option.bind_some]
  have t1:(x++r.flatten).take (Int.toNat (8:Int))=x:=by rw [show Int.toNat (8:Int)=x.length from hx.1.symm,List.take_left]
  have t2:(x++r.flatten).drop (Int.toNat (8:Int))=r.flatten:=by rw [show Int.toNat (8:Int)=x.length from hx.1.symm,List.drop_left]
  simp only [t1,t2]
  rw [if_pos (by simp only [List.length_singleton];omega),arC8c x hx.1,read_l0 r (acc++[x]) k hr (by simp;omega) (by omega)]
  simp
theorem read_ok (k:Nat) (r:List (List Int)) (hv:allv r) (hl:r.length*8≤140737488351232) (hk:r.length < k):community_Read.f k r.flatten=some (r,0):=by
 have fl:=flat8 r hv
 unfold community_Read.f cursor_Open.f
 have e:Int.tmod ((r.flatten).length:Int) 8=0:=by
  rw [fl,show Int.tmod (((8*r.length:Nat)):Int) 8=(((8*r.length) % 8:Nat):Int) from rfl];omega
 rw [e,if_neg (by decide),clone_ok _ (by omega),Option.bind_some,Option.bind_some]
 simp only
 rw [read_l0 r [] k hv (by simp;omega) hk,Option.bind_some,List.nil_append]
theorem num1' (k:Nat) (c:Int) (h0:0≤c) (h1:c≤255):cursor_Reader_Num.f (k+5) ⟨⟨[c],false⟩⟩ 1=some (c,⟨⟨[],false⟩⟩):=num1 k c [] h0 h1
theorem said1_val (k:Nat) (o:Int) (h0:0≤o) (h1:o≤2):attr_said_k1.f (k+20) [o]=some (o,true):=by
 unfold attr_said_k1.f
 rw [open_ok _ (by simp),Option.bind_some,num1' (k+15) o h0 (by omega),Option.bind_some]
 show some (o,decide (o≤2))=_
 rw [decide_eq_true h1]
theorem said2_val (k:Nat) (l:List S_api_Segment) (hl:l.length≤16) (hg:∀ s∈l,GoodS s) (hk2:2000≤k) (hr:attr_rightPath.f (k+20) l=some true):attr_said_k2.f (k+20) (l.flatMap segB)=some (l,true):=by
 have hb:=segBs_len l hg
 unfold attr_said_k2.f
 rw [open_ok _ (by omega),Option.bind_some,readPath_val (k+15) l hl hg (by omega) hr]
 rfl
theorem num4' (k:Nat) (n:Int) (h:N32 n):cursor_Reader_Num.f (k+5) ⟨⟨putL n 4,false⟩⟩ 4=some (n,⟨⟨[],false⟩⟩):=by
 have:=num4 k n [] h
 rwa [List.append_nil] at this
theorem said4_val (k:Nat) (n:Int) (h:N32 n):attr_said_k4.f (k+20) (putL n 4)=some (n,true):=by
 unfold attr_said_k4.f
 rw [open_ok _ (by rw [putL_len];omega),Option.bind_some,num4' (k+15) n h,Option.bind_some]
 rfl
theorem said5_val (k:Nat) (n:Int) (h:N32 n):attr_said_k5.f (k+20) (putL n 4)=some (n,true):=by
 unfold attr_said_k5.f
 rw [open_ok _ (by rw [putL_len];omega),Option.bind_some,num4' (k+15) n h,Option.bind_some]
 rfl
theorem said9_val (a:S_api_Addr) (h:routerB a=true) (hl:a.B.length=16):attr_said_k9.f (rootL a)=some (a,true):=by
 have h4:=rootL_len h
 have hs:=(router_facts h).1
 unfold attr_said_k9.f
 rw [open_ok _ (by omega),Option.bind_some,of_root a (router_facts h).2 hl,Option.bind_some]
 simp [hs]
theorem said10_val (k:Nat) (cl:List S_api_Addr) (hl:cl.length≤32) (h0:cl≠[]) (h:∀ a∈cl,routerB a=true∧a.B.length=16) (hk:100≤k):attr_said_k10.f k (cl.flatMap rootL)=some (cl,true):=by
 have h5:=roots_len cl fun s hs=>(h s hs).1
 unfold attr_said_k10.f
 rw [open_ok _ (by omega),Option.bind_some,readClusters_val k cl hl h0 h hk]
 rfl
theorem said16_val (k:Nat) (l:List (List Int)) (hl:l.length≤64) (h0:l≠[]) (h:allv l) (hk:100≤k):attr_said_k16.f k l.flatten=some (l,true):=by
 have h5:=flat8 l h
 have h6:0 < l.length:=List.length_pos_iff.2 h0
 unfold attr_said_k16.f
 rw [open_ok _ (by omega),Option.bind_some,read_ok k l h (by omega) (by omega),Option.bind_some]
 rw [if_pos (by simp;omega)]
 show some (l,decide ((l.length:Int)≤64))=_
 rw [decide_eq_true (by omega)]
theorem bytesT_len (t:S_api_Tunnel) (h:rightT t=true) (hI:t.Id.length≤1000000):(bytesT t).length≤1000100:=by
 have:=identL_le t h (by omega)
 unfold bytesT
 rw [List.length_append,List.length_append]
 have e:(putL (16*t.Label) 3).length=3:=rfl
 simp [e]
 omega
theorem said22_val (k:Nat) (t:S_api_Tunnel) (h:rightT t=true) (hI:t.Id.length≤1000000) (hB:t.Root.B.length=16):attr_said_k22.f (k+20) (bytesT t)=some ([t],true):=by
 have h5:=bytesT_len t h hI
 unfold attr_said_k22.f
 rw [open_ok _ (by omega),Option.bind_some,parse_bytes k t h (by omega) hB]
 rfl
def Says (k:Nat) (kd:Int) (v:List Int) (sv:SV):Prop:=said.f k kd v=some (sv,true)
theorem says1 {k:Nat} {v:List Int} {o:Int} (h:attr_said_k1.f k v=some (o,true)):Says k 1 v (.n o):=by
 unfold Says said.f;rw [if_pos rfl,h];rfl
theorem says2 {k:Nat} {v:List Int} {o:List S_api_Segment} (h:attr_said_k2.f k v=some (o,true)):Says k 2 v (.p o):=by
 unfold Says said.f;rw [if_neg (by decide),if_pos rfl,h];rfl
theorem says4 {k:Nat} {v:List Int} {o:Int} (h:attr_said_k4.f k v=some (o,true)):Says k 4 v (.n o):=by
 unfold Says said.f;rw [if_neg (by decide),if_neg (by decide),if_pos rfl,h];rfl
theorem says5 {k:Nat} {v:List Int} {o:Int} (h:attr_said_k5.f k v=some (o,true)):Says k 5 v (.n o):=by
 unfold Says said.f;rw [if_neg (by decide),if_neg (by decide),if_neg (by decide),if_pos rfl,h];rfl
theorem says9 {k:Nat} {v:List Int} {o:S_api_Addr} (h:attr_said_k9.f v=some (o,true)):Says k 9 v (.a o):=by
 unfold Says said.f;rw [if_neg (by decide),if_neg (by decide),if_neg (by decide),if_neg (by decide),if_pos rfl,h];rfl
theorem says10 {k:Nat} {v:List Int} {o:List S_api_Addr} (h:attr_said_k10.f k v=some (o,true)):Says k 10 v (.c o):=by
 unfold Says said.f;rw [if_neg (by decide),if_neg (by decide),if_neg (by decide),if_neg (by decide),if_neg (by decide),if_pos rfl,h];rfl
theorem says16 {k:Nat} {v:List Int} {o:List (List Int)} (h:attr_said_k16.f k v=some (o,true)):Says k 16 v (.e o):=by
 unfold Says said.f;rw [if_neg (by decide),if_neg (by decide),if_neg (by decide),if_neg (by decide),if_neg (by decide),if_neg (by decide),if_pos rfl,h];rfl
theorem says22 {k:Nat} {v:List Int} {o:List S_api_Tunnel} (h:attr_said_k22.f k v=some (o,true)):Says k 22 v (.t o):=by
 unfold Says said.f;rw [if_neg (by decide),if_neg (by decide),if_neg (by decide),if_neg (by decide),if_neg (by decide),if_neg (by decide),if_neg (by decide),if_pos rfl,h];rfl
theorem mget_set_ne (l:List (Int×Bool)) (k j:Int) (v:Bool) (h:j≠k):mget (mset l k v) j=mget l j:=by
 induction l with
 | nil=>simp [mset,mget,h]
 | cons p l ih =>
  unfold mset
  split
  ·rename_i e
   have:k=p.1:=by simpa using e
   subst this
   unfold mget
   rw [if_neg (by simpa using h),if_neg (by simpa using h)]
  ·unfold mget
   rw [ih]
structure St (kd:Int) (x:S_api_Attrs) (s:RdS):Prop where
 x:s.x=x
 out:s.out=0
 had:∀ j,kd < j∨j=14→hadv s j=false
theorem St.up {kd kd':Int} {x:S_api_Attrs} {s:RdS} (h:St kd x s) (hk:kd≤kd'):St kd' x s:=⟨h.x,h.out,fun j hj=>h.had j (hj.imp (fun h=>by omega) id)⟩
theorem take_eq (k:Nat) (s:RdS) (X:S_api_Raw) (fl:Int) (sv:SV) (y:S_api_Attrs) (hf:attr_flagsOf.f X.Kind=some (fl,true)) (hh:hadv s X.Kind=false) (ht:attr_table.f X.Kind=some false)
  (hs:said.f k X.Kind X.Value=some (sv,true)) (he:X.Flags=fl) (hset:setf.f s.x X.Kind sv=some y):take.f k s X=some ⟨y,s.out,mset s.had X.Kind true⟩:=by
 have e:attr_fits.f X.Flags fl=some true:=by rw [he];unfold attr_fits.f;simp
 unfold take.f
 rw [hf,Option.bind_some,if_neg (by simp),if_pos hh,ht,Option.bind_some,if_neg (by simp),hs,Option.bind_some,e,Option.bind_some,if_neg (by simp)]
 show (setf.f s.x X.Kind sv).bind _=_
 rw [hset,Option.bind_some]
theorem take_st (k:Nat) (kd0 kd fl:Int) (v:List Int) (sv:SV) (x y:S_api_Attrs) (s:RdS) (h:St kd0 x s) (hk:kd0 < kd) (h14:kd≠14) (hf:attr_flagsOf.f kd=some (fl,true)) (ht:attr_table.f kd=some false)
  (hs:Says k kd v sv) (hset:setf.f x kd sv=some y):∃ s',take.f k s ⟨fl,kd,v⟩=some s'∧St kd y s':=by
 have h1:=take_eq k s ⟨fl,kd,v⟩ fl sv y hf (h.had kd (.inl hk)) ht hs rfl (by rw [h.x];exact hset)
 refine ⟨_,h1,⟨rfl,h.out,fun j hj=>?_⟩⟩
 unfold hadv
 show (mget (mset s.had kd true) j).getD false=false
 rw [mget_set_ne _ _ _ _ (by omega)]
 exact h.had j (hj.imp (fun h=>by omega) id)
def foldT (k:Nat):List S_api_Raw→RdS→Option RdS
 | [],s=>some s
 | x::l,s=>(take.f k s x).bind fun s'=>foldT k l s'
theorem foldT_snoc (k:Nat) (x:S_api_Raw):∀ (l:List S_api_Raw) (s s1 s2:RdS),foldT k l s=some s1→take.f k s1 x=some s2→foldT k (l++[x]) s=some s2
 | [],s,s1,s2,h1,h2=>by
  obtain rfl:=Option.some.inj h1
  show (take.f k s x).bind _=_
  rw [h2,Option.bind_some]
  rfl
 | z::l,s,s1,s2,h1,h2=>by
  unfold foldT at h1
  cases hz:take.f k s z with
  | none=>rw [hz] at h1;cases h1
  | some s3 =>
   rw [hz,Option.bind_some] at h1
   rw [List.cons_append]
   unfold foldT
   rw [hz,Option.bind_some]
   exact foldT_snoc k x l s3 s1 s2 h1 h2
theorem read_fold (k:Nat) (l:List S_api_Raw) (hl:l.length≤1000) (s':RdS):∀ (r:List S_api_Raw) (kk i:Nat) (s:RdS),l.drop i=r→i+r.length=l.length→r.length < kk→foldT k r s=some s'→Read.l0 k l kk s (i:Int)=some s':=by
 intro r
 induction r with
 | nil =>
  intro kk i s hd hi hk hf
  obtain ⟨kk,rfl⟩:∃ q,kk=q+1:=⟨kk - 1,by simp at hk;omega⟩
  simp only [List.length_nil] at hi
  rw [Read.l0,if_neg (by simp;omega)]
  exact hf
 | cons x r ih =>
  intro kk i s hd hi hk hf
  obtain ⟨kk,rfl⟩:∃ q,kk=q+1:=⟨kk - 1,by simp at hk;omega⟩
  simp only [List.length_cons] at hi hk
  have hil:i < l.length:=by omega
  rw [List.drop_eq_getElem_cons hil] at hd
  have hx:l[i]=x:=(List.cons.inj hd).1
  have hr:l.drop (i+1)=r:=(List.cons.inj hd).2
  unfold foldT at hf
  rw [Read.l0,if_pos (by simp;omega),if_pos ⟨by omega,by omega⟩,rdR l i hil,hx,inc64 i (by omega)]
  cases ht:take.f k s x with
  | none=>rw [ht] at hf;cases hf
  | some s1 =>
   rw [ht,Option.bind_some] at hf
   rw [Option.bind_some]
   exact ih kk (i+1) s1 hr (by omega) (by omega) hf
theorem fold_outp (k:Nat) (L:List S_api_Raw) (is:Bool) (kd0 kd fl:Int) (v:List Int) (x y:S_api_Attrs) (s0:RdS) (h:∃ s,foldT k L s0=some s∧St kd0 x s) (hk:kd0 < kd)
  (hy:is=true→∃ sv,Says k kd v sv∧setf.f x kd sv=some y) (hn:is=false→y=x) (h14:kd≠14) (hf:attr_flagsOf.f kd=some (fl,true)) (ht:attr_table.f kd=some false) :
  ∃ s,foldT k (outp L is fl kd v) s0=some s∧St kd y s:=by
 obtain ⟨s,h1,h2⟩:=h
 cases is with
 | false=>rw [hn rfl];exact ⟨s,h1,h2.up (by omega)⟩
 | true =>
  obtain ⟨sv,h3,h4⟩:=hy rfl
  obtain ⟨s',h5,h6⟩:=take_st k kd0 kd fl v sv x y s h2 hk h14 hf ht h3 h4
  exact ⟨s',foldT_snoc k _ L s0 s s' h1 h5,h6⟩
theorem eqA_eq {x y:List Int} (hx:x.length=16) (hy:y.length=16):eqA 16 x y=(x==y):=by
 rw [Bool.eq_iff_iff,eqA_iff]
 simp only [beq_iff_eq]
 refine ⟨fun h=>?_,fun e=>by subst e;exact fun _ _=>rfl⟩
 apply List.ext_getElem
 ·omega
 ·intro i h1 h2
  have:=h i (by omega)
  rwa [ar_at _ _ h1,ar_at _ _ h2] at this
theorem write_val (k:Nat) (x:S_api_Attrs) (R:RightY (k+20) x) (hr:attr_Right.f (k+20) x=some true) (h5:∀ t∈x.Tunnels,t.Id.length≤1024) (hv:allv x.Exts) (hk:2000≤k) :
  ∃ mb rb ob v,attr_Write.f (k+20) x=some (outp (L7 x (x.Path.flatMap segB) mb rb ob (x.Clusters.flatMap rootL) x.Exts.flatten (decide ((x.Clusters.length:Int) > 0))) (decide ((x.Tunnels.length:Int) > 0)) 192 22 v,0) ∧
   (0≤x.Med→mb=putL x.Med 4)∧(0≤x.Pref→rb=putL x.Pref 4)∧(routerB x.Originator=true→ob=rootL x.Originator)∧(∀ t,x.Tunnels=[t]→v=bytesT t):=by
 have hcn:=R.cn
 have hen:=R.en
 have htn:=R.tn
 have hpn:=R.pn
 have q1:=wl0_val k x.Clusters (by omega) R.cl x.Clusters.length (k+20) 0 [] (by omega) (by omega) rfl
 have e1:=pb_val (k+15) x.Path R.pn R.ps (by omega)
 obtain ⟨mb,q4,q4'⟩:∃ mb,attr_num.f (k+20) x.Med=some mb∧(0≤x.Med→mb=putL x.Med 4):=by
  by_cases h:0≤x.Med
  ·exact ⟨_,num_val (k+15) x.Med ⟨h,R.m1⟩,fun _=>rfl⟩
  ·obtain ⟨mb,q,_⟩:=num_tot (k+15) x.Med
   exact ⟨mb,q,fun h2=>absurd h2 h⟩
 obtain ⟨rb,q5,q5'⟩:∃ rb,attr_num.f (k+20) x.Pref=some rb∧(0≤x.Pref→rb=putL x.Pref 4):=by
  by_cases h:0≤x.Pref
  ·exact ⟨_,num_val (k+15) x.Pref ⟨h,R.p1⟩,fun _=>rfl⟩
  ·obtain ⟨mb,q,_⟩:=num_tot (k+15) x.Pref
   exact ⟨mb,q,fun h2=>absurd h2 h⟩
 obtain ⟨ob,q6,q6'⟩:∃ ob,addr_Bytes.f (k+20) x.Originator=some ob∧(routerB x.Originator=true→ob=rootL x.Originator):=by
  by_cases h:routerB x.Originator=true
  ·exact ⟨_,addrbytes_ok k _ (router_facts h).2,fun _=>rfl⟩
  ·obtain ⟨ob,q,_⟩:=abytes_ok k x.Originator
   exact ⟨ob,q,fun h2=>absurd h2 h⟩
 have e2:=bytes_ok (k+20) x.Exts hv (by omega) (by omega)
 have hdl:=roots_len x.Clusters R.cl
 have hd:decide (((x.Clusters.flatMap rootL).length:Int) > 0)=decide ((x.Clusters.length:Int) > 0):=by rw [hdl];congr 1;apply propext;omega
 have h7:=L7_len x (x.Path.flatMap segB) mb rb ob (x.Clusters.flatMap rootL) x.Exts.flatten (decide ((x.Clusters.length:Int) > 0))
 have main:∃ v,Write.l1 (k+20) x.Tunnels (k+20) (L7 x (x.Path.flatMap segB) mb rb ob (x.Clusters.flatMap rootL) x.Exts.flatten (decide ((x.Clusters.length:Int) > 0))) 0=some (outp (L7 x (x.Path.flatMap segB) mb rb ob (x.Clusters.flatMap rootL) x.Exts.flatten (decide ((x.Clusters.length:Int) > 0))) (decide ((x.Tunnels.length:Int) > 0)) 192 22 v)∧(∀ t,x.Tunnels=[t]→v=bytesT t):=by
  generalize L7 x (x.Path.flatMap segB) mb rb ob (x.Clusters.flatMap rootL) x.Exts.flatten (decide ((x.Clusters.length:Int) > 0))=L at h7
  have go:∀ T:List S_api_Tunnel,T.length≤1→(∀ t∈T,t.Id.length≤1024)→(∀ t∈T,rightT t=true)→∃ v,Write.l1 (k+20) T (k+20) L 0=some (outp L (decide ((T.length:Int) > 0)) 192 22 v)∧(∀ t,T=[t]→v=bytesT t):=by
   intro T h1 h2 h3
   match T,h1 with
   | [],_=>exact ⟨[],by rw [Write.l1,if_neg (by simp)];rfl,fun t h=>by cases h⟩
   | [t],_ =>
    have hv:pmsi_Bytes.f (k+20) t=some (bytesT t,0):=by rw [pbytes_ok k t (by have:=h2 t (by simp);omega),if_pos (h3 t (by simp))]
    refine ⟨bytesT t,?_,fun t' h=>by cases h;rfl⟩
    rw [Write.l1,if_pos (by simp),if_pos ⟨by omega,by simp⟩,show rd [t] (0:Int)=t from rfl,hv,Option.bind_some,if_pos (by omega),show IntKind.i64.wrap ((0:Int)+1)=1 from rfl,show k+19=(k+18)+1 from rfl,Write.l1,if_neg (by simp)]
    rfl
  exact go x.Tunnels htn h5 R.tt
 obtain ⟨v,hv2,hv3⟩:=main
 refine ⟨mb,rb,ob,v,?_,q4',q5',q6',hv3⟩
 unfold L7 at hv2 ⊢
 unfold attr_Write.f
 rw [hr,Option.bind_some,show Write.l0 (k+20) x.Clusters (k+20) [] 0=_ from q1,show attr_pathBytes.f (k+20) x.Path=_ from e1,q4,q5,q6,e2]
 simp only [Bool.not_true,Bool.false_eq_true,if_false,Option.bind_some,List.nil_append,List.drop_zero,hd]
 rw [show Write.l1 (k+20) x.Tunnels (k+20) _ 0=_ from hv2,Option.bind_some]
def X0:S_api_Attrs:=av3 0 (-1) (-1)
theorem eqA_zero (a:List Int) (hl:a.length=16) (h:eqA 16 a (List.replicate 16 (0:Int))=true):a=List.replicate 16 0:=by
 rw [eqA_eq hl (by simp)] at h
 exact beq_iff_eq.1 h
theorem zeroA_eq {a:S_api_Addr} (h1:a.Size=0) (h2:a.B=List.replicate 16 0):a=zeroA:=by
 cases a
 simp only at h1 h2
 subst h1 h2
 rfl
theorem read_write (k:Nat) (x:S_api_Attrs) (R:RightY (k+20) x) (h5:∀ t∈x.Tunnels,t.Id.length≤1024) (hv:allv x.Exts) (hk:2000≤k) (mb rb ob v:List Int)
  (hmb:0≤x.Med→mb=putL x.Med 4) (hrb:0≤x.Pref→rb=putL x.Pref 4) (hob:routerB x.Originator=true→ob=rootL x.Originator) (hvv:∀ t,x.Tunnels=[t]→v=bytesT t)
  (hBo:x.Originator.B.length=16) (hBc:∀ a∈x.Clusters,a.B.length=16) (hBt:∀ t∈x.Tunnels,t.Root.B.length=16) :
  attr_Read.f (k+20) (outp (L7 x (x.Path.flatMap segB) mb rb ob (x.Clusters.flatMap rootL) x.Exts.flatten (decide ((x.Clusters.length:Int) > 0))) (decide ((x.Tunnels.length:Int) > 0)) 192 22 v)=some (x,[],0):=by
 have z0:St 0 X0 ⟨av3 0 (-1) (-1),0,[]⟩:=⟨rfl,rfl,fun _ _=>rfl⟩
 have z1:=fold_outp (k+20) [] true 0 1 64 [IntKind.u8.wrap x.Origin] X0 ⟨x.Origin,[],-1,-1,zeroA,[],[],[]⟩ _ ⟨_,rfl,z0⟩ (by omega)
  (fun _=>⟨.n x.Origin,says1 (by rw [u8wr _ (by have:=R.o0;have:=R.o1;omega)];exact said1_val k x.Origin R.o0 R.o1),rfl⟩) (fun h=>nomatch h) (by decide) rfl rfl
 have z2:=fold_outp (k+20) _ true 1 2 64 (x.Path.flatMap segB) _ ⟨x.Origin,x.Path,-1,-1,zeroA,[],[],[]⟩ _ z1 (by omega)
  (fun _=>⟨.p x.Path,says2 (said2_val k x.Path R.pn R.ps hk R.pr),rfl⟩) (fun h=>nomatch h) (by decide) rfl rfl
 have z3:=fold_outp (k+20) _ (decide (x.Med ≥ (0:Int))) 2 4 128 mb _ ⟨x.Origin,x.Path,x.Med,-1,zeroA,[],[],[]⟩ _ z2 (by omega)
  (fun h=>by
   have h0:0≤x.Med:=of_decide_eq_true h
   exact ⟨.n x.Med,says4 (by rw [hmb h0];exact said4_val k x.Med ⟨h0,R.m1⟩),rfl⟩)
  (fun h=>by
   have h0:x.Med=-1:=by have:=of_decide_eq_false h;have:=R.m0;omega
   rw [h0]) (by decide) rfl rfl
 have z4:=fold_outp (k+20) _ (decide (x.Pref ≥ (0:Int))) 4 5 64 rb _ ⟨x.Origin,x.Path,x.Med,x.Pref,zeroA,[],[],[]⟩ _ z3 (by omega)
  (fun h=>by
   have h0:0≤x.Pref:=of_decide_eq_true h
   exact ⟨.n x.Pref,says5 (by rw [hrb h0];exact said5_val k x.Pref ⟨h0,R.p1⟩),rfl⟩)
  (fun h=>by
   have h0:x.Pref=-1:=by have:=of_decide_eq_false h;have:=R.p0;omega
   rw [h0]) (by decide) rfl rfl
 have z5:=fold_outp (k+20) _ (decide (x.Originator.Size > (0:Int))) 5 9 128 ob _ ⟨x.Origin,x.Path,x.Med,x.Pref,x.Originator,[],[],[]⟩ _ z4 (by omega)
  (fun h=>by
   have h0:0 < x.Originator.Size:=of_decide_eq_true h
   have hr:routerB x.Originator=true:=R.og.elim (fun q=>by omega) id
   exact ⟨.a x.Originator,says9 (by rw [hob hr];exact said9_val x.Originator hr hBo),rfl⟩)
  (fun h=>by
   have h0:=of_decide_eq_false h
   have hz:x.Originator=zeroA:=by
    rcases R.og with ⟨q1,q2⟩ | q
    ·exact zeroA_eq q1 (eqA_zero _ hBo q2)
    ·have:=(router_facts q).1;omega
   rw [hz]) (by decide) rfl rfl
 have z6:=fold_outp (k+20) _ (decide ((x.Clusters.length:Int) > (0:Int))) 9 10 128 (x.Clusters.flatMap rootL) _ ⟨x.Origin,x.Path,x.Med,x.Pref,x.Originator,x.Clusters,[],[]⟩ _ z5 (by omega)
  (fun h=>by
   have h0:(x.Clusters.length:Int) > 0:=of_decide_eq_true h
   exact ⟨.c x.Clusters,says10 (said10_val (k+20) x.Clusters R.cn (fun e=>by rw [e] at h0;simp at h0) (fun a ha=>⟨R.cl a ha,hBc a ha⟩) (by omega)),rfl⟩)
  (fun h=>by
   have h0:x.Clusters=[]:=by have:=of_decide_eq_false h;exact List.length_eq_zero_iff.1 (by omega)
   rw [h0]) (by decide) rfl rfl
 have z7:=fold_outp (k+20) _ (decide ((x.Exts.length:Int) > (0:Int))) 10 16 192 x.Exts.flatten _ ⟨x.Origin,x.Path,x.Med,x.Pref,x.Originator,x.Clusters,x.Exts,[]⟩ _ z6 (by omega)
  (fun h=>by
   have h0:(x.Exts.length:Int) > 0:=of_decide_eq_true h
   exact ⟨.e x.Exts,says16 (said16_val (k+20) x.Exts R.en (fun e=>by rw [e] at h0;simp at h0) hv (by omega)),rfl⟩)
  (fun h=>by
   have h0:x.Exts=[]:=by have:=of_decide_eq_false h;exact List.length_eq_zero_iff.1 (by omega)
   rw [h0]) (by decide) rfl rfl
 have z8:=fold_outp (k+20) _ (decide ((x.Tunnels.length:Int) > (0:Int))) 16 22 192 v _ ⟨x.Origin,x.Path,x.Med,x.Pref,x.Originator,x.Clusters,x.Exts,x.Tunnels⟩ _ z7 (by omega)
  (fun h=>by
   have h0:(x.Tunnels.length:Int) > 0:=of_decide_eq_true h
   have htn:=R.tn
   obtain ⟨t,ht⟩:∃ t,x.Tunnels=[t]:=List.length_eq_one_iff.1 (by omega)
   have hm:t∈x.Tunnels:=by rw [ht];simp
   refine ⟨.t x.Tunnels,says22 ?_,rfl⟩
   rw [hvv t ht,ht]
   exact said22_val k t (R.tt t hm) (by have:=h5 t hm;omega) (hBt t hm))
  (fun h=>by
   have h0:x.Tunnels=[]:=by have:=of_decide_eq_false h;exact List.length_eq_zero_iff.1 (by omega)
   rw [h0]) (by decide) rfl rfl
 obtain ⟨s,hs,hst⟩:=z8
 have hl:(outp (L7 x (x.Path.flatMap segB) mb rb ob (x.Clusters.flatMap rootL) x.Exts.flatten (decide ((x.Clusters.length:Int) > 0))) (decide ((x.Tunnels.length:Int) > 0)) 192 22 v).length≤8:=Nat.le_trans (outp_len2 _ _ _ _ _) (Nat.succ_le_succ (L7_len _ _ _ _ _ _ _ _))
 have hs':foldT (k+20) (outp (L7 x (x.Path.flatMap segB) mb rb ob (x.Clusters.flatMap rootL) x.Exts.flatten (decide ((x.Clusters.length:Int) > 0))) (decide ((x.Tunnels.length:Int) > 0)) 192 22 v) ⟨av3 0 (-1) (-1),0,[]⟩=some s:=hs
 revert hl hs'
 generalize (outp (L7 x (x.Path.flatMap segB) mb rb ob (x.Clusters.flatMap rootL) x.Exts.flatten (decide ((x.Clusters.length:Int) > 0))) (decide ((x.Tunnels.length:Int) > 0)) 192 22 v)=W
 intro hl hs'
 have hf:=read_fold (k+20) W (by omega) s W (k+20) 0 ⟨av3 0 (-1) (-1),0,[]⟩ List.drop_zero (by omega) (by omega) hs'
 unfold attr_Read.f
 rw [show Read.l0 (k+20) W (k+20) ⟨av3 0 (-1) (-1),0,[]⟩ 0=some s from hf,Option.bind_some,if_pos (hst.had 14 (.inr rfl)),hst.x,hst.out]
theorem identL_isB (t:S_api_Tunnel) (hI:isB t.Id) (hR:isB t.Root.B) (hl:t.Root.B.length=16):isB (identL t):=by
 have hr:=rootL_isB t.Root hR hl
 have hf:famL t.Root=1∨famL t.Root=2:=by unfold famL;split<;>simp
 have hc:∀ c:Int,0≤c→c≤255→isB [c,0,famL t.Root,IntKind.u8.wrap t.Root.Size]:=by
  intro c h0 h1 y hy
  have:=IntKind.wrap_u8 t.Root.Size
  simp only [List.mem_cons,List.not_mem_nil,or_false] at hy
  rcases hy with rfl | rfl | rfl | rfl<;>omega
 have hp:isB (putL (t.Id.length:Int) 2):=by
  intro y hy
  simp only [putL,List.mem_cons,List.not_mem_nil,or_false] at hy
  rcases hy with rfl | rfl<;>omega
 unfold identL
 split
 ·refine isB.app (isB.app (isB.app (fun y hy=>hI y (List.mem_of_mem_take hy)) ?_) (fun y hy=>hI y (List.mem_of_mem_drop hy))) hr
  intro y hy
  simp only [List.mem_cons,List.not_mem_nil,or_false] at hy
  rcases hy with rfl | rfl<;>omega
 ·split
  ·exact isB.app (isB.app (isB.app (hc 7 (by omega) (by omega)) hr) hp) hI
  ·split
   ·exact isB.app (isB.app (isB.app (hc 6 (by omega) (by omega)) hr) hp) hI
   ·exact isB.app hr hI
theorem isB_putL (n:Int) (s:Nat):isB (putL n s):=by
 intro y hy
 unfold putL at hy
 split at hy<;>simp at hy<;>omega
theorem bytesT_isB' (t:S_api_Tunnel) (h1:isB t.Id) (h2:isB t.Root.B) (h3:t.Root.B.length=16):isB (bytesT t):=by
 unfold bytesT
 refine isB.app (isB.app ?_ (isB_putL _ _)) (identL_isB t h1 h2 h3)
 intro y hy
 have:=IntKind.wrap_u8 t.Kind
 simp only [List.mem_cons,List.not_mem_nil,or_false] at hy
 rcases hy with rfl | rfl
 ·unfold leafL;split<;>omega
 ·omega
theorem segB_isB (s:S_api_Segment) (h:GoodS s):isB (segB s):=by
 unfold segB
 refine isB.app ?_ ?_
 ·intro y hy
  have:=h.2.1
  simp only [List.mem_cons,List.not_mem_nil,or_false] at hy
  rcases hy with rfl | rfl
  ·unfold kindL;split<;>omega
  ·omega
 ·intro y hy
  obtain ⟨n,_,hy⟩:=List.mem_flatMap.1 hy
  exact isB_putL _ _ y hy
theorem eqA_refl (n:Nat) (x:List Int):eqA n x x=true:=(eqA_iff _ _ _).2 fun _ _=>rfl
theorem sameI_l0 (l:List Int) (hl:l.length≤1000):∀ (m kk i:Nat),i+m=l.length→m < kk→slices_Equal_int_int.l0 l l kk (i:Int)=some (.inr ())
 | 0,kk+1,i,h,_=>by rw [slices_Equal_int_int.l0,if_neg (by simp;omega)]
 | m+1,kk+1,i,h,hk=>by
  rw [slices_Equal_int_int.l0,if_pos (by simp;omega),if_pos ⟨by omega,by omega⟩,if_pos ⟨by omega,by omega⟩,inc64 i (by omega),if_neg (by simp)]
  exact sameI_l0 l hl m kk (i+1) (by omega) (by omega)
theorem sameI (k:Nat) (l:List Int) (hl:l.length≤1000) (hk:2000≤k):slices_Equal_int_int.f k l l=some true:=by
 unfold slices_Equal_int_int.f
 rw [if_neg (by simp),show slices_Equal_int_int.l0 l l k 0=_ from sameI_l0 l hl l.length k 0 (by omega) (by omega)]
 rfl
theorem sameSeg (k:Nat) (s:S_api_Segment) (hl:s.AS.length≤1000) (hk:2000≤k):attr_sameSegment.f k s s=some true:=by
 unfold attr_sameSegment.f
 rw [if_pos (by simp),sameI k s.AS hl hk]
 rfl
theorem sameP_l0 (k:Nat) (l:List S_api_Segment) (hl:l.length≤1000) (hs:∀ s∈l,s.AS.length≤1000) (hk2:2000≤k):∀ (m kk i:Nat),i+m=l.length→m < kk→api_Segment_attr_sameSegment.l0 k l l kk (i:Int)=some (.inr ())
 | 0,kk+1,i,h,_=>by rw [api_Segment_attr_sameSegment.l0,if_neg (by simp;omega)]
 | m+1,kk+1,i,h,hk=>by
  have hi:i < l.length:=by omega
  rw [api_Segment_attr_sameSegment.l0,if_pos (by simp;omega),if_pos ⟨by omega,by omega⟩,if_pos ⟨by omega,by omega⟩,inc64 i (by omega),rdx l i hi,sameSeg k _ (hs _ (List.getElem_mem hi)) hk2,Option.bind_some,if_neg (by simp)]
  exact sameP_l0 k l hl hs hk2 m kk (i+1) (by omega) (by omega)
theorem sameP (k:Nat) (l:List S_api_Segment) (hl:l.length≤1000) (hs:∀ s∈l,s.AS.length≤1000) (hk:2000≤k):api_Segment_attr_sameSegment.f k l l=some true:=by
 unfold api_Segment_attr_sameSegment.f
 rw [if_neg (by simp),show api_Segment_attr_sameSegment.l0 k l l k 0=_ from sameP_l0 k l hl hs hk l.length k 0 (by omega) (by omega)]
 rfl
theorem sameC_l0 (l:List S_api_Addr) (hl:l.length≤1000):∀ (m kk i:Nat),i+m=l.length→m < kk→api_Addr_81.l0 l l kk (i:Int)=some (.inr ())
 | 0,kk+1,i,h,_=>by rw [api_Addr_81.l0,if_neg (by simp;omega)]
 | m+1,kk+1,i,h,hk=>by
  rw [api_Addr_81.l0,if_pos (by simp;omega),if_pos ⟨by omega,by omega⟩,if_pos ⟨by omega,by omega⟩,inc64 i (by omega),eqA_refl,if_neg (by simp)]
  exact sameC_l0 l hl m kk (i+1) (by omega) (by omega)
theorem sameC (k:Nat) (l:List S_api_Addr) (hl:l.length≤1000) (hk:2000≤k):api_Addr_81.f k l l=some true:=by
 unfold api_Addr_81.f
 rw [if_neg (by simp),show api_Addr_81.l0 l l k 0=_ from sameC_l0 l hl l.length k 0 (by omega) (by omega)]
 rfl
theorem sameE_l0 (l:List (List Int)) (hl:l.length≤1000):∀ (m kk i:Nat),i+m=l.length→m < kk→api_Ext.l0 l l kk (i:Int)=some (.inr ())
 | 0,kk+1,i,h,_=>by rw [api_Ext.l0,if_neg (by simp;omega)]
 | m+1,kk+1,i,h,hk=>by
  rw [api_Ext.l0,if_pos (by simp;omega),if_pos ⟨by omega,by omega⟩,if_pos ⟨by omega,by omega⟩,inc64 i (by omega),eqA_refl,if_neg (by simp)]
  exact sameE_l0 l hl m kk (i+1) (by omega) (by omega)
theorem sameE (k:Nat) (l:List (List Int)) (hl:l.length≤1000) (hk:2000≤k):api_Ext.f k l l=some true:=by
 unfold api_Ext.f
 rw [if_neg (by simp),show api_Ext.l0 l l k 0=_ from sameE_l0 l hl l.length k 0 (by omega) (by omega)]
 rfl
theorem sameTn (t:S_api_Tunnel):attr_sameTunnel.f t t=some true:=by
 unfold attr_sameTunnel.f
 rw [same_ok,eqA_refl]
 simp
theorem sameT_l0 (l:List S_api_Tunnel) (hl:l.length≤1000):∀ (m kk i:Nat),i+m=l.length→m < kk→api_Tunnel_83_attr_sameTunnel.l0 l l kk (i:Int)=some (.inr ())
 | 0,kk+1,i,h,_=>by rw [api_Tunnel_83_attr_sameTunnel.l0,if_neg (by simp;omega)]
 | m+1,kk+1,i,h,hk=>by
  rw [api_Tunnel_83_attr_sameTunnel.l0,if_pos (by simp;omega),if_pos ⟨by omega,by omega⟩,if_pos ⟨by omega,by omega⟩,inc64 i (by omega),sameTn,Option.bind_some,if_neg (by simp)]
  exact sameT_l0 l hl m kk (i+1) (by omega) (by omega)
theorem sameT (k:Nat) (l:List S_api_Tunnel) (hl:l.length≤1000) (hk:2000≤k):api_Tunnel_83_attr_sameTunnel.f k l l=some true:=by
 unfold api_Tunnel_83_attr_sameTunnel.f
 rw [if_neg (by simp),show api_Tunnel_83_attr_sameTunnel.l0 l l k 0=_ from sameT_l0 l hl l.length k 0 (by omega) (by omega)]
 rfl
theorem sameA (k:Nat) (x:S_api_Attrs) (h1:x.Path.length≤1000) (h2:∀ s∈x.Path,s.AS.length≤1000) (h3:x.Clusters.length≤1000) (h4:x.Exts.length≤1000) (h5:x.Tunnels.length≤1000) (hk:2000≤k):attr_Same.f k x x=some true:=by
 unfold attr_Same.f
 rw [sameP k x.Path h1 h2 hk,sameC k x.Clusters h3 hk,sameE k x.Exts h4 hk,sameT k x.Tunnels h5 hk,eqA_refl]
 simp
theorem okF_outp {l:List S_api_Raw} {is:Bool} {f kd:Int} {v:List Int} (h:∀ x∈l,OkF x∧isB x.Value) (hf:OkF ⟨f,kd,v⟩) (hv:is=true→isB v):∀ x∈outp l is f kd v,OkF x∧isB x.Value:=by
 unfold outp
 split
 ·rename_i e
  intro x hx
  rcases List.mem_append.1 hx with hx | hx
  ·exact h x hx
  ·rw [List.mem_singleton] at hx
   subst hx
   exact ⟨hf,hv e⟩
 ·exact h
theorem okf (f kd:Int) (v:List Int) (h0:0≤f) (h1:f≤255) (hl:lg f=0) (k0:0≤kd) (k1:kd≤255):OkF ⟨f,kd,v⟩:=⟨h0,h1,hl,k0,k1⟩
theorem okl {α:Type} {c:Nat} {P:α→Prop} {l:List α} (h:okL (c+1) P l):l.length≤140737488351232:=by
 have:=h.1
 unfold reachBytes at this
 have:l.length*1≤l.length*(c+1):=Nat.mul_le_mul_left _ (Nat.succ_le_succ (Nat.zero_le c))
 omega
theorem row_ok (k:Nat) (x:S_api_Attrs) (hx:okS_api_Attrs x) (R:RightY k x) (mb rb ob v:List Int) (hv:allv x.Exts)
  (hmb:0≤x.Med→mb=putL x.Med 4) (hrb:0≤x.Pref→rb=putL x.Pref 4) (hob:routerB x.Originator=true→ob=rootL x.Originator) (hvv:∀ t,x.Tunnels=[t]→v=bytesT t) :
  ∀ y∈outp (L7 x (x.Path.flatMap segB) mb rb ob (x.Clusters.flatMap rootL) x.Exts.flatten (decide ((x.Clusters.length:Int) > 0))) (decide ((x.Tunnels.length:Int) > 0)) 192 22 v,OkF y∧isB y.Value:=by
 obtain ⟨_,_,_,_,xo,xc,xe,xt⟩:=hx
 have l64:lg 64=0:=by kernel_rfl
 have l128:lg 128=0:=by kernel_rfl
 have l192:lg 192=0:=by kernel_rfl
 unfold L7
 refine okF_outp (okF_outp (okF_outp (okF_outp (okF_outp (okF_outp (okF_outp (okF_outp (fun _ h=>nomatch h)
  (okf _ _ _ (by omega) (by omega) l64 (by omega) (by omega)) (fun _=>?_)) (okf _ _ _ (by omega) (by omega) l64 (by omega) (by omega)) (fun _=>?_)) (okf _ _ _ (by omega) (by omega) l128 (by omega) (by omega)) (fun h=>?_))
  (okf _ _ _ (by omega) (by omega) l64 (by omega) (by omega)) (fun h=>?_)) (okf _ _ _ (by omega) (by omega) l128 (by omega) (by omega)) (fun h=>?_)) (okf _ _ _ (by omega) (by omega) l128 (by omega) (by omega)) (fun _=>?_))
  (okf _ _ _ (by omega) (by omega) l192 (by omega) (by omega)) (fun _=>?_)) (okf _ _ _ (by omega) (by omega) l192 (by omega) (by omega)) (fun h=>?_)
 ·intro y hy
  have h0:=R.o0
  have h1:=R.o1
  rw [u8wr _ (by omega),List.mem_singleton] at hy
  omega
 ·intro y hy
  obtain ⟨s,hs,hy⟩:=List.mem_flatMap.1 hy
  exact segB_isB s (R.ps s hs) y hy
 ·rw [hmb (of_decide_eq_true h)];exact isB_putL _ _
 ·rw [hrb (of_decide_eq_true h)];exact isB_putL _ _
 ·have h0:0 < x.Originator.Size:=of_decide_eq_true h
  rw [hob (R.og.elim (fun q=>by omega) id)]
  exact rootL_isB _ (okA_isB xo.2) xo.2.1
 ·intro y hy
  obtain ⟨s,hs,hy⟩:=List.mem_flatMap.1 hy
  have:=(xc.2 s hs).2
  exact rootL_isB s (okA_isB this) this.1 y hy
 ·intro y hy
  obtain ⟨s,hs,hy⟩:=List.mem_flatten.1 hy
  exact (hv s hs).2 y hy
 ·have h0:(x.Tunnels.length:Int) > 0:=of_decide_eq_true h
  have htn:=R.tn
  obtain ⟨t,ht⟩:∃ t,x.Tunnels=[t]:=List.length_eq_one_iff.1 (by omega)
  have hm:=xt.2 t (by rw [ht];simp)
  rw [hvv t ht]
  exact bytesT_isB' t (okL_isB hm.2.2.2.2) (okA_isB hm.2.2.2.1.2) hm.2.2.2.1.2.1
theorem AttrBack.law (x:S_api_Attrs) (hx:okS_api_Attrs x):∃ k,vinerylaw09_AttrBack.f k x=some true:=by
 have l1:x.Path.length≤140737488351232:=okl hx.2.1
 have l2:x.Tunnels.length≤140737488351232:=okl hx.2.2.2.2.2.2.2
 refine ⟨(x.Path.length+x.Tunnels.length+3085)+20,?_⟩
 unfold vinerylaw09_AttrBack.f
 obtain ⟨b,hb,hb2⟩:=few_ok ((x.Path.length+x.Tunnels.length+3085)+20) x l1 l2 ⟨by omega,by omega⟩
 rw [small09,Option.bind_some,hb,Option.bind_some]
 cases b with
 | false=>rfl
 | true =>
  obtain ⟨c1,c2,c3,c4,c5,c6⟩:=hb2 rfl
  have p2:∀ s∈x.Path,s.AS.length≤1000:=fun s hs=>by have:=c2 s hs;omega
  rw [if_neg (by simp)]
  rcases write_ok (x.Path.length+x.Tunnels.length+3085) x (by omega) p2 (by omega) (by omega) c6 (by omega) with ⟨r,w⟩ | ⟨r,_⟩
  ·rw [w,r];rfl
  ·obtain ⟨ok,hok,hR⟩:=rightB2_ok (x.Path.length+x.Tunnels.length+3085) x (by omega) p2 (by omega) (by omega) (by omega)
   have R:=hR (by rw [hok] at r;exact Option.some.inj r)
   have hv:allv x.Exts:=fun e he=>by
    have:=hx.2.2.2.2.2.2.1.2 e he
    exact ⟨this.1,okA_isB this⟩
   obtain ⟨mb,rb,ob,v,w,hmb,hrb,hob,hvv⟩:=write_val (x.Path.length+x.Tunnels.length+3085) x R r c6 hv (by omega)
   have hok2:=row_ok _ x hx R mb rb ob v hv hmb hrb hob hvv
   have hrd:=read_write (x.Path.length+x.Tunnels.length+3085) x R c6 hv (by omega) mb rb ob v hmb hrb hob hvv hx.2.2.2.2.1.2.1 (fun a ha=>(hx.2.2.2.2.2.1.2 a ha).2.1) (fun t ht=>(hx.2.2.2.2.2.2.2.2 t ht).2.2.2.1.2.1)
   revert hrd hok2
   rw [w,Option.bind_some]
   generalize outp (L7 x (x.Path.flatMap segB) mb rb ob (x.Clusters.flatMap rootL) x.Exts.flatten (decide ((x.Clusters.length:Int) > 0))) (decide ((x.Tunnels.length:Int) > 0)) 192 22 v=W
   intro hok2 hrd
   rw [if_neg (by simp)]
   rcases join_any (x.Path.length+x.Tunnels.length+3000) W with ⟨j1,j2,j3⟩ | ⟨_,y,hy,hn⟩ | j1
   ·have hs:=splitf_enc (x.Path.length+x.Tunnels.length+3000) W (fun y hy=>⟨(hok2 y hy).1,(j3 y hy).2,(hok2 y hy).2⟩) j2
    have hsm:=same_f ((x.Path.length+x.Tunnels.length+3085)+20) W (by omega) (by omega)
    have hsa:=sameA ((x.Path.length+x.Tunnels.length+3085)+20) x (by omega) p2 (by omega) (by omega) (by omega) (by omega)
    rw [show attr_Join.f ((x.Path.length+x.Tunnels.length+3085)+20) W=_ from j1,Option.bind_some,if_neg (by simp)]
    rw [show attr_Split.f ((x.Path.length+x.Tunnels.length+3085)+20) (W.flatMap enc)=_ from hs,Option.bind_some,hrd,Option.bind_some]
    simp only [hsm,hsa,Option.bind_some,if_true]
    rfl
   ·exact absurd (hok2 y hy).1 hn
   ·rw [show attr_Join.f ((x.Path.length+x.Tunnels.length+3085)+20) W=_ from j1,Option.bind_some]
    rfl
end Go.E
