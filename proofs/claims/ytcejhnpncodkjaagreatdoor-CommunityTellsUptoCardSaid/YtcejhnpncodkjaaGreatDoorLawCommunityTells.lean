/- The plain law: what the walk computes is true, whatever the input. -/
import Derived.Test.YtcejhnpncodkjaaGreatDoorGenCommunityTells
import Derived.Test.YtcejhnpncodkjaaGreatDoorEngR
set_option linter.unusedVariables false
set_option linter.unusedSimpArgs false
namespace Go.E
theorem bstr_toList (l:List UInt8):(bstr l).toList=l:=by rw [ByteArray.toList_eq];simp [bstr]
/-! orders -/
structure IsCmp {α:Type} (c:α→α→Int):Prop where
 range:∀ a b,c a b=-1∨c a b=0∨c a b=1
 neg:∀ a b,c b a=- c a b
 trans:∀ a b d,c a b≤0→c b d≤0→c a d≤0∧(c a b < 0∨c b d < 0→c a d < 0)
theorem IsCmp.by {α β:Type} {c:β→β→Int} (h:IsCmp c) (f:α→β):IsCmp (fun a b=>c (f a) (f b)):=⟨fun _ _=>h.range _ _,fun _ _=>h.neg _ _,fun _ _ _=>h.trans _ _ _⟩
theorem clone_ok (l:List Int) (h:l.length≤140737488355328):bytes_Clone.f l=some l:=if_pos h
theorem next_bad (r:S_cursor_rest) (n:Int) (h:r.bad=true∨n < 0∨n > r.left.length):cursor_rest_next.f r n=some ([],⟨r.left,true⟩):=by
 unfold cursor_rest_next.f
 by_cases hb:r.bad=true
 ·simp [hb]
 ·by_cases h1:n < 0
  ·simp [hb,h1]
  ·have h2:(r.left.length:Int) < n:=by rcases h with h | h | h<;>first | exact absurd h hb | exact absurd h h1 | exact h
   simp [hb,h1,h2]
theorem next_ok (r:S_cursor_rest) (n:Int) (hb:r.bad=false) (h0:0≤n) (h1:n≤r.left.length):cursor_rest_next.f r n=some (r.left.take n.toNat,⟨r.left.drop n.toNat,false⟩):=by
 unfold cursor_rest_next.f
 have e0:¬ n < 0:=by omega
 have e1:¬ (r.left.length:Int) < n:=by omega
 simp [hb,e0,e1,h0,h1]
theorem take_ok (r:S_cursor_Reader) (n:Int) (hl:r.rest.left.length≤140737488355328) (hb:r.rest.bad=false) (h0:0≤n) (h1:n≤r.rest.left.length) :
  cursor_Reader_Take.f r n=some (r.rest.left.take n.toNat,⟨⟨r.rest.left.drop n.toNat,false⟩⟩):=by
 unfold cursor_Reader_Take.f
 rw [next_ok _ _ hb h0 h1,Option.bind_some,clone_ok _ (by simp;omega)]
 rfl
def numL:List Int→Int→Int
 | [],x=>x
 | c::l,x=>numL l (IntKind.i64.wrap (BitVec.ofInt IntKind.i64.bits (IntKind.i64.wrap (x*2^(min (8:Int).toNat IntKind.i64.bits))) ||| BitVec.ofInt IntKind.i64.bits (IntKind.i64.wrap c)).toNat)
theorem num_l0 (t:List Int×S_cursor_rest) (hl:t.1.length≤140737488355328):∀ (m k i:Nat) (x:Int),m+i=t.1.length→m < k→cursor_Reader_Num.l0 t k x (i:Int)=some (numL (t.1.drop i) x)
 | 0,k+1,i,x,h,_=>by
  unfold cursor_Reader_Num.l0
  rw [if_neg (by simp;omega),List.drop_of_length_le (by omega)]
  rfl
 | m+1,k+1,i,x,h,hk=>by
  unfold cursor_Reader_Num.l0
  have hi:i < t.1.length:=by omega
  have e:IntKind.i64.wrap ((i:Int)+1)=((i+1:Nat):Int):=by rw [IntKind.wrap_i64];omega
  rw [if_pos (by simpa using hi),if_pos (by omega),e,num_l0 t hl m k (i+1) _ (by omega) (by omega),List.drop_eq_getElem_cons hi]
  have er:rd t.1 (i:Int)=t.1[i]:=by simp [rd,List.getD,hi]
  rw [er]
  rfl
theorem num_bad (k:Nat) (r:S_cursor_Reader) (n:Int) (h:r.rest.bad=true∨n < 1∨n > 4∨n > r.rest.left.length):cursor_Reader_Num.f (k+1) r n=some (0,⟨⟨r.rest.left,true⟩⟩):=by
 unfold cursor_Reader_Num.f
 have hl:cursor_Reader_Num.l0 ([],⟨r.rest.left,true⟩) (k+1) 0 0=some 0:=by unfold cursor_Reader_Num.l0;simp
 by_cases hs:n < 1∨n > 4
 ·have:(if decide (n < 1)=true then true else decide (n > 4))=true:=by rcases hs with h | h<;>simp [h]
  rw [if_pos this,Option.bind_some,next_bad _ _ (by omega),Option.bind_some,hl]
  rfl
 ·have h1:¬ n < 1:=fun e=>hs (.inl e)
  have h2:¬ 4 < n:=fun e=>hs (.inr e)
  have:¬ (if decide (n < 1)=true then true else decide (n > 4))=true:=by simp [h1,h2]
  rw [if_neg this,Option.bind_some,next_bad _ _ (by rcases h with h | h | h | h<;>first | exact .inl h | exact absurd h h1 | exact absurd h h2 | exact .inr (.inr h)),Option.bind_some,hl]
  rfl
theorem num_ok (k:Nat) (r:S_cursor_Reader) (n:Int) (hb:r.rest.bad=false) (h1:1≤n) (h4:n≤4) (hn:n≤r.rest.left.length) :
  cursor_Reader_Num.f (k+5) r n=some (numL (r.rest.left.take n.toNat) 0,⟨⟨r.rest.left.drop n.toNat,false⟩⟩):=by
 unfold cursor_Reader_Num.f
 have e1:¬ n < 1:=by omega
 have e4:¬ 4 < n:=by omega
 rw [if_neg (by simp [e1,e4]),Option.bind_some,next_ok _ _ hb (by omega) hn,Option.bind_some]
 have hl:(r.rest.left.take n.toNat).length≤4:=by simp;omega
 have:=num_l0 (r.rest.left.take n.toNat,⟨r.rest.left.drop n.toNat,false⟩) (by show (r.rest.left.take n.toNat).length≤_;omega) (r.rest.left.take n.toNat).length (k+5) 0 0 rfl (by omega)
 simp only [Int.ofNat_zero,Int.natCast_zero,List.drop_zero] at this
 rw [this]
 rfl
theorem left_f (r:S_cursor_rest):cursor_rest_Left.f r=some (if r.bad=true then 0 else (r.left.length:Int)):=by
 unfold cursor_rest_Left.f
 split<;>rfl
theorem fdiv_pos (n:Int) (d:Nat) (hn:0≤n):Int.fdiv n (2^d)=n / (2^d):=Int.fdiv_eq_ediv_of_nonneg _ (Int.le_of_lt (Int.pow_pos (by decide)))
theorem put_step (n:Int) (hn:0≤n) (k:Nat) (x:List Int) (i:Nat) (hi:i≤32) (hx:x.length+1≤140737488355328) :
  cursor_Put.l0 n (k+1) x (i:Int)=cursor_Put.l0 n k (x++[(n / 2^i) % 256]) ((i:Int) - 8):=by
 rw [cursor_Put.l0]
 have h0:(0:Int)≤(i:Int):=by omega
 have e:IntKind.i64.wrap ((i:Int) - 8)=(i:Int) - 8:=by rw [IntKind.wrap_i64];omega
 have hm:min ((i:Int).toNat) IntKind.i64.bits=i:=by
  show min i 64=i
  omega
 rw [if_pos (by simp),if_pos h0,if_pos (by simp;omega),e,hm,fdiv_pos _ _ hn,IntKind.wrap_u8]
theorem put_end (n:Int) (k:Nat) (x:List Int) (i:Int) (hi:i < 0):cursor_Put.l0 n (k+1) x i=some x:=by
 rw [cursor_Put.l0,if_neg (by simp;omega)]
def putL (n:Int):Nat→List Int
 | 1=>[n % 256]
 | 2=>[n / 256 % 256,n % 256]
 | 3=>[n / 65536 % 256,n / 256 % 256,n % 256]
 | 4=>[n / 16777216 % 256,n / 65536 % 256,n / 256 % 256,n % 256]
 | _=>[]
theorem put_bad5 (k:Nat) (b:List Int) (n s:Int) (h1:1≤s) (h4:s≤4) (h:n < 0∨n ≥ 2^(8*s.toNat)):cursor_Put.f k b n s=some ([],5):=by
 unfold cursor_Put.f
 have:¬ (if decide (s < 1)=true then true else decide (s > 4))=true:=by simp;omega
 rw [if_neg this]
 have e:IntKind.i64.wrap ((8:Int)*s)=8*s:=by rw [IntKind.wrap_i64];omega
 rw [e]
 by_cases hn:n < 0
 ·simp [hn]
 ·have hge:n ≥ 2^(8*s.toNat):=h.resolve_left hn
  have hm:min ((8*s).toNat) IntKind.i64.bits=8*s.toNat:=by show min _ 64=_;omega
  have hne:(Int.fdiv n (2^(8*s.toNat)) != 0)=true:=by
   rw [fdiv_pos _ _ (by omega)]
   have hp:(0:Int) < 2^(8*s.toNat):=Int.pow_pos (by decide)
   have:1≤n / 2^(8*s.toNat):=(Int.le_ediv_iff_mul_le hp).2 (by omega)
   simp;omega
  rw [if_neg (by simpa using hn),if_pos (by omega),hm,hne]
  rfl
theorem put_ok (k:Nat) (b:List Int) (n:Int) (s:Nat) (hb:b.length≤140737488351232) (h1:1≤s) (h4:s≤4) (hn:0≤n) (hlt:n < 2^(8*s)):cursor_Put.f (k+5) b n (s:Int)=some (b++putL n s,0):=by
 unfold cursor_Put.f
 have:¬ (if decide ((s:Int) < 1)=true then true else decide ((s:Int) > 4))=true:=by simp;omega
 rw [if_neg this]
 have e:IntKind.i64.wrap ((8:Int)*(s:Int))=8*(s:Int):=by rw [IntKind.wrap_i64];omega
 have e2:IntKind.i64.wrap ((8:Int)*IntKind.i64.wrap ((s:Int) - 1))=8*((s:Int) - 1):=by rw [IntKind.wrap_i64,IntKind.wrap_i64];omega
 rw [e,e2]
 have hm:min ((8*(s:Int)).toNat) IntKind.i64.bits=8*s:=by show min _ 64=_;omega
 have hz:(Int.fdiv n (2^(8*s)) != 0)=false:=by
  rw [fdiv_pos _ _ hn,Int.ediv_eq_zero_of_lt hn hlt];rfl
 rw [if_neg (by simpa using hn),if_pos (by omega),hm,hz,Option.bind_some,if_neg (by simp),clone_ok _ (by omega),Option.bind_some]
 rcases (show s=1∨s=2∨s=3∨s=4 by omega) with rfl | rfl | rfl | rfl
 ·have:=put_step n hn (k+4) b 0 (by omega) (by omega)
  rw [show (8:Int)*((1:Nat) - 1)=((0:Nat):Int) from rfl,this,put_end _ _ _ _ (by omega)]
  simp [putL]
 ·have s1:=put_step n hn (k+4) b 8 (by omega) (by omega)
  have s2:=put_step n hn (k+3) (b++[n / 2^8 % 256]) 0 (by omega) (by simp;omega)
  rw [show (8:Int)*((2:Nat) - 1)=((8:Nat):Int) from rfl,s1,show ((8:Nat):Int) - 8=((0:Nat):Int) from rfl,s2,put_end _ _ _ _ (by omega)]
  simp [putL]
 ·have s1:=put_step n hn (k+4) b 16 (by omega) (by omega)
  have s2:=put_step n hn (k+3) (b++[n / 2^16 % 256]) 8 (by omega) (by simp;omega)
  have s3:=put_step n hn (k+2) (b++[n / 2^16 % 256]++[n / 2^8 % 256]) 0 (by omega) (by simp;omega)
  rw [show (8:Int)*((3:Nat) - 1)=((16:Nat):Int) from rfl,s1,show ((16:Nat):Int) - 8=((8:Nat):Int) from rfl,s2,show ((8:Nat):Int) - 8=((0:Nat):Int) from rfl,s3,put_end _ _ _ _ (by omega)]
  simp [putL]
 ·have s1:=put_step n hn (k+4) b 24 (by omega) (by omega)
  have s2:=put_step n hn (k+3) (b++[n / 2^24 % 256]) 16 (by omega) (by simp;omega)
  have s3:=put_step n hn (k+2) (b++[n / 2^24 % 256]++[n / 2^16 % 256]) 8 (by omega) (by simp;omega)
  have s4:=put_step n hn (k+1) (b++[n / 2^24 % 256]++[n / 2^16 % 256]++[n / 2^8 % 256]) 0 (by omega) (by simp;omega)
  rw [show (8:Int)*((4:Nat) - 1)=((24:Nat):Int) from rfl,s1,show ((24:Nat):Int) - 8=((16:Nat):Int) from rfl,s2,show ((16:Nat):Int) - 8=((8:Nat):Int) from rfl,s3,show ((8:Nat):Int) - 8=((0:Nat):Int) from rfl,s4,put_end _ _ _ _ (by omega)]
  simp [putL]
theorem or_step (x c:Int) (hx:0≤x) (hx2:x < 72057594037927936) (hc:0≤c) (hc2:c≤255) :
  IntKind.i64.wrap (BitVec.ofInt IntKind.i64.bits (IntKind.i64.wrap (x*2^(min (8:Int).toNat IntKind.i64.bits))) ||| BitVec.ofInt IntKind.i64.bits (IntKind.i64.wrap c)).toNat=IntKind.i64.wrap (x*256+c):=by
 obtain ⟨a,rfl⟩:=Int.eq_ofNat_of_zero_le hx
 obtain ⟨d,rfl⟩:=Int.eq_ofNat_of_zero_le hc
 congr 1
 have e1:(BitVec.ofInt IntKind.i64.bits (IntKind.i64.wrap ((a:Int)*2^(min (8:Int).toNat IntKind.i64.bits)))).toNat=2^8*a:=by
  have:((a:Int)*2^(min (8:Int).toNat IntKind.i64.bits))=(a:Int)*256:=rfl
  rw [this,IntKind.wrap_i64,BitVec.toNat_ofInt]
  show (_ % ((2^64:Nat):Int)).toNat=_
  omega
 have e2:(BitVec.ofInt IntKind.i64.bits (IntKind.i64.wrap (d:Int))).toNat=d:=by
  rw [IntKind.wrap_i64,BitVec.toNat_ofInt]
  show (_ % ((2^64:Nat):Int)).toNat=_
  omega
 rw [BitVec.toNat_or,e1,e2,← Nat.two_pow_add_eq_or_of_lt (by omega:d < 2^8)]
 omega
theorem numL_cons (c:Int) (l:List Int) (x:Int) (hx:0≤x) (hx2:x < 4294967296) (hc:0≤c) (hc2:c≤255):numL (c::l) x=numL l (x*256+c):=by
 rw [numL,or_step x c hx (by omega) hc hc2]
 congr 1
 rw [IntKind.wrap_i64];omega
theorem num_put (n:Int) (s:Nat) (h1:1≤s) (h4:s≤4) (hn:0≤n) (hlt:n < 2^(8*s)):numL (putL n s) 0=n:=by
 rcases (show s=1∨s=2∨s=3∨s=4 by omega) with rfl | rfl | rfl | rfl<;>simp only [putL]
 ·have:n < 256:=hlt
  rw [numL_cons _ _ _ (by omega) (by omega) (by omega) (by omega),numL];omega
 ·have:n < 65536:=hlt
  rw [numL_cons _ _ _ (by omega) (by omega) (by omega) (by omega),numL_cons _ _ _ (by omega) (by omega) (by omega) (by omega),numL];omega
 ·have:n < 16777216:=hlt
  rw [numL_cons _ _ _ (by omega) (by omega) (by omega) (by omega),numL_cons _ _ _ (by omega) (by omega) (by omega) (by omega),numL_cons _ _ _ (by omega) (by omega) (by omega) (by omega),numL];omega
 ·have:n < 4294967296:=hlt
  rw [numL_cons _ _ _ (by omega) (by omega) (by omega) (by omega),numL_cons _ _ _ (by omega) (by omega) (by omega) (by omega),numL_cons _ _ _ (by omega) (by omega) (by omega) (by omega),numL_cons _ _ _ (by omega) (by omega) (by omega) (by omega),numL];omega
theorem putL_length (n:Int) (s:Nat) (h1:1≤s) (h4:s≤4):(putL n s).length=s:=by
 rcases (show s=1∨s=2∨s=3∨s=4 by omega) with rfl | rfl | rfl | rfl<;>rfl
theorem put_num (l:List Int) (h1:1≤l.length) (h4:l.length≤4) (hl:∀ y∈l,0≤y∧y≤255):0≤numL l 0∧numL l 0 < 2^(8*l.length)∧putL (numL l 0) l.length=l:=by
 match l,h1,h4,hl with
 | [a],_,_,hl =>
  have ha:=hl a (by simp)
  rw [numL_cons _ _ _ (by omega) (by omega) ha.1 ha.2,numL]
  simp only [putL,List.length_cons,List.length_nil]
  exact ⟨by omega,by omega,by congr 1;omega⟩
 | [a,b],_,_,hl =>
  have ha:=hl a (by simp);have hb:=hl b (by simp)
  rw [numL_cons _ _ _ (by omega) (by omega) ha.1 ha.2,numL_cons _ _ _ (by omega) (by omega) hb.1 hb.2,numL]
  simp only [putL,List.length_cons,List.length_nil]
  exact ⟨by omega,by omega,by congr 1;omega;congr 1;omega⟩
 | [a,b,c],_,_,hl =>
  have ha:=hl a (by simp);have hb:=hl b (by simp);have hc:=hl c (by simp)
  rw [numL_cons _ _ _ (by omega) (by omega) ha.1 ha.2,numL_cons _ _ _ (by omega) (by omega) hb.1 hb.2,numL_cons _ _ _ (by omega) (by omega) hc.1 hc.2,numL]
  simp only [putL,List.length_cons,List.length_nil]
  exact ⟨by omega,by omega,by congr 1;omega;congr 1;omega;congr 1;omega⟩
 | [a,b,c,d],_,_,hl =>
  have ha:=hl a (by simp);have hb:=hl b (by simp);have hc:=hl c (by simp);have hd:=hl d (by simp)
  rw [numL_cons _ _ _ (by omega) (by omega) ha.1 ha.2,numL_cons _ _ _ (by omega) (by omega) hb.1 hb.2,numL_cons _ _ _ (by omega) (by omega) hc.1 hc.2,numL_cons _ _ _ (by omega) (by omega) hd.1 hd.2,numL]
  simp only [putL,List.length_cons,List.length_nil]
  exact ⟨by omega,by omega,by congr 1;omega;congr 1;omega;congr 1;omega;congr 1;omega⟩
theorem w64 (n:Int) (h:-9223372036854775808≤n∧n≤9223372036854775807):IntKind.i64.wrap n=n:=by rw [IntKind.wrap_i64];omega
def isB (l:List Int):Prop:=∀ y∈l,0≤y∧y≤255
theorem okA_isB {l:List Int} {n:Nat} (h:okA .u8 n l):isB l:=fun y hy=>by
 have:=h.2 y hy
 have e1:IntKind.u8.min=0:=rfl
 have e2:IntKind.u8.max=255:=rfl
 unfold okI at this
 omega
theorem rd_at (l:List Int) (i:Nat) (hi:i < l.length):rd l (i:Int)=l[i]:=by simp [rd,List.getD,hi]
theorem ar_at (l:List Int) (i:Nat) (hi:i < l.length):ar l i=l[i]:=by simp [ar,List.getD,hi]
theorem arL_self (l:List Int):arL l.length l=l:=by
 apply List.ext_getElem
 ·simp [arL]
 ·intro i h1 h2
  simp [arL,ar_at l i h2]
/-! trimming zeros -/
theorem tr_nil (k:Nat):bytes_trimRightByte.l0 0 (k+1) []=some []:=by unfold bytes_trimRightByte.l0;simp
theorem tr_snoc (k:Nat) (y:List Int) (c:Int) (h:y.length≤100):bytes_trimRightByte.l0 0 (k+1) (y++[c])=if c=0 then bytes_trimRightByte.l0 0 k y else some (y++[c]):=by
 rw [bytes_trimRightByte.l0]
 have hl:(y++[c]).length=y.length+1:=by simp
 have e:IntKind.i64.wrap (((y++[c]).length:Int) - 1)=(y.length:Int):=by rw [hl,IntKind.wrap_i64];omega
 have er:rd (y++[c]) (y.length:Int)=c:=by rw [rd_at _ _ (by simp)];simp
 rw [e,er,if_pos (by simp<;>omega),if_pos (by rw [hl];omega),Option.bind_some]
 by_cases hc:c=0
 ·rw [if_pos (by simpa using hc),if_pos (by rw [hl];simp<;>omega),if_pos hc]
  simp
 ·rw [if_neg (by simpa using hc),if_neg hc]
theorem tr_ok:∀ (n k:Nat) (x:List Int),x.length=n→n < k→n≤100→∃ r,bytes_trimRightByte.l0 0 k x=some r∧r.length≤x.length∧r.all (·==0)=x.all (·==0)
 | 0,k,x,h,hk,_=>by
  obtain ⟨k,rfl⟩:∃ k',k=k'+1:=⟨k - 1,by omega⟩
  obtain rfl:=List.eq_nil_of_length_eq_zero h
  exact ⟨[],tr_nil k,Nat.le_refl _,rfl⟩
 | n+1,k,x,h,hk,hn=>by
  obtain ⟨k,rfl⟩:∃ k',k=k'+1:=⟨k - 1,by omega⟩
  have hne:x≠[]:=by intro e;subst e;simp at h
  have hx:x=x.dropLast++[x.getLast hne]:=(List.dropLast_concat_getLast hne).symm
  have hd:x.dropLast.length=n:=by simp [h]
  generalize x.dropLast=y at hx hd
  generalize x.getLast hne=c at hx
  subst hx
  rw [tr_snoc k y c (by omega)]
  by_cases hc:c=0
  ·obtain ⟨r,h1,h2,h3⟩:=tr_ok n k y hd (by omega) (by omega)
   exact ⟨r,by rw [if_pos hc];exact h1,by simp;omega,by rw [h3];simp [hc]⟩
  ·exact ⟨_,if_neg hc,Nat.le_refl _,rfl⟩
theorem tl_nil (k:Nat):bytes_trimLeftByte.l0 0 (k+1) []=some []:=by unfold bytes_trimLeftByte.l0;simp
theorem tl_cons (k:Nat) (y:List Int) (c:Int):bytes_trimLeftByte.l0 0 (k+1) (c::y)=if c=0 then bytes_trimLeftByte.l0 0 k y else some (c::y):=by
 rw [bytes_trimLeftByte.l0]
 have er:rd (c::y) 0=c:=rfl
 rw [er,if_pos (by simp<;>omega),if_pos (by simp<;>omega),Option.bind_some]
 by_cases hc:c=0
 ·rw [if_pos (by simpa using hc),if_pos (by simp<;>omega),if_pos hc]
  simp
 ·rw [if_neg (by simpa using hc),if_neg hc]
theorem tl_ok:∀ (x:List Int) (k:Nat),x.length < k→∃ r,bytes_trimLeftByte.l0 0 k x=some r∧(((r.length:Int)==0)=x.all (·==0))
 | [],k,hk=>by
  obtain ⟨k,rfl⟩:∃ k',k=k'+1:=⟨k - 1,by omega⟩
  exact ⟨[],tl_nil k,rfl⟩
 | c::y,k,hk=>by
  obtain ⟨k,rfl⟩:∃ k',k=k'+1:=⟨k - 1,by omega⟩
  rw [tl_cons]
  by_cases hc:c=0
  ·obtain ⟨r,h1,h2⟩:=tl_ok y k (by simp at hk;omega)
   exact ⟨r,by rw [if_pos hc];exact h1,by rw [h2];simp [hc]⟩
  ·refine ⟨_,if_neg hc,?_⟩
   have:(c==0)=false:=by simpa using hc
   simp only [List.all_cons,this,Bool.false_and]
   simp
   omega
theorem trim_ok (k:Nat) (x:List Int) (hx:x.length≤16):∃ r,bytes_Trim.f (k+20) x [0]=some r∧(((r.length:Int)==0)=x.all (·==0)):=by
 by_cases h0:x.length=0
 ·obtain rfl:=List.eq_nil_of_length_eq_zero h0
  exact ⟨[],rfl,rfl⟩
 ·obtain ⟨r,h1,h2,h3⟩:=tr_ok x.length (k+20) x rfl (by omega) (by omega)
  obtain ⟨r',h4,h5⟩:=tl_ok r (k+20) (by omega)
  have e:bytes_Trim.f (k+20) x [0]=(bytes_trimRightByte.f (k+20) x 0).bind fun t21=>(bytes_trimLeftByte.f (k+20) t21 0).bind fun t24=>some t24:=by
   unfold bytes_Trim.f
   have hs:(((bstr ([0]:List UInt8)).size:Int)==(1:Int))=true:=rfl
   have ez:((([0]:List UInt8).getD (Int.toNat (0:Int)) 0).toNat:Int)=0:=rfl
   rw [if_neg (by simpa using h0),if_neg (by rw [bstr_toList,bstr_toList];decide),if_pos hs,ez,if_pos (by decide),Option.bind_some,if_pos (by decide),if_pos (by decide),if_pos (by decide)]
  rw [e]
  unfold bytes_trimRightByte.f bytes_trimLeftByte.f
  rw [h1,Option.bind_some,Option.bind_some,h4,Option.bind_some]
  by_cases hr:r'.length=0
  ·obtain rfl:=List.eq_nil_of_length_eq_zero hr
   exact ⟨[],rfl,by rw [← h3,← h5]⟩
  ·rw [if_neg (by simpa using hr)]
   exact ⟨r',rfl,by rw [h5,h3]⟩
/-! addresses -/
def isSz (n:Int):Bool:=n==0 || n==4 || n==16
def rightB (a:S_api_Addr):Bool:=isSz a.Size && ((arL 16 a.B).drop a.Size.toNat).all (·==0)
theorem isSz_or {n:Int} (h:isSz n=true):n=0∨n=4∨n=16:=by
 unfold isSz at h
 simp only [Bool.or_eq_true,beq_iff_eq] at h
 omega
theorem right_go (k:Nat) (a:S_api_Addr) (h:a.Size=0∨a.Size=4∨a.Size=16):addr_Right.f (k+20) a=some (((arL 16 a.B).drop a.Size.toNat).all (·==0)):=by
 have h16:(arL 16 a.B).length=16:=arL_length _ _
 have ht:(arL 16 a.B).take (Int.toNat 16)=arL 16 a.B:=by rw [List.take_of_length_le];rw [h16];exact Nat.le_refl _
 obtain ⟨r,h1,h2⟩:=trim_ok k ((arL 16 a.B).drop a.Size.toNat) (by rw [List.length_drop,h16];omega)
 have hc:(if (a.Size==(0:Int))=true then some (a.Size==(0:Int):Bool) else (if (a.Size==(4:Int))=true then some (a.Size==(4:Int):Bool) else some (a.Size==(16:Int):Bool)))=some true:=by
  rcases h with h | h | h<;>simp [h]
 unfold addr_Right.f
 rw [ht,hc,Option.bind_some,if_pos rfl,if_pos (by omega),h1,Option.bind_some,h2]
theorem right_ok (k:Nat) (a:S_api_Addr):addr_Right.f (k+20) a=some (rightB a):=by
 by_cases h:a.Size=0∨a.Size=4∨a.Size=16
 ·rw [right_go k a h]
  have:isSz a.Size=true:=by unfold isSz;simp;omega
  unfold rightB
  rw [this,Bool.true_and]
 ·have h0:¬ a.Size=0:=by omega
  have h4:¬ a.Size=4:=by omega
  have h16:¬ a.Size=16:=by omega
  unfold addr_Right.f rightB isSz
  simp [h0,h4,h16]
def zeros:List Int:=List.replicate 16 0
theorem of_ok (b:List Int):addr_Of.f b=some (if isSz b.length=true then (⟨b.length,arC 16 zeros b⟩,0) else (⟨0,zeros⟩,1)):=by
 have hc:∀ n:Int,(if (n==(0:Int))=true then some (n==(0:Int):Bool) else (if (n==(4:Int))=true then some (n==(4:Int):Bool) else some (n==(16:Int):Bool)))=some (isSz n):=by
  intro n
  unfold isSz
  cases h:(n==0)<;>cases h':(n==4)<;>simp
 unfold addr_Of.f
 rw [hc,Option.bind_some]
 cases isSz (b.length:Int)<;>rfl
def rootL (a:S_api_Addr):List Int:=(arL 16 a.B).take a.Size.toNat
theorem addrbytes_ok (k:Nat) (a:S_api_Addr) (h:rightB a=true):addr_Bytes.f (k+20) a=some (rootL a):=by
 unfold addr_Bytes.f
 have hs:a.Size=0∨a.Size=4∨a.Size=16:=isSz_or (by unfold rightB at h;simp only [Bool.and_eq_true] at h;exact h.1)
 rw [right_ok,h,Option.bind_some,if_neg (by simp),if_pos (by omega),clone_ok _ (by simp [arL_length];omega),Option.bind_some]
 rfl
theorem rootL_length (a:S_api_Addr) (h:rightB a=true):((rootL a).length:Int)=a.Size:=by
 have hs:a.Size=0∨a.Size=4∨a.Size=16:=isSz_or (by unfold rightB at h;simp only [Bool.and_eq_true] at h;exact h.1)
 unfold rootL
 rw [List.length_take,arL_length]
 omega
/-! tunnels -/
/-! route distinguishers -/
def z8:List Int:=[0,0,0,0,0,0,0,0]
def hiS (kind:Int):Nat:=if kind=0 then 2 else if kind=1∨kind=2 then 4 else 0
def loS (kind:Int):Nat:=6 - hiS kind
def rdL (kind h l:Int):List Int:=putL kind 2++putL h (hiS kind)++putL l (loS kind)
def fits (kind h l:Int):Bool:=decide (0≤h) && (decide (h < 2^(8*hiS kind)) && (decide (0≤l) && decide (l < 2^(8*loS kind))))
def makeR (kind h l:Int):List Int×Int:=if hiS kind=0 then (z8,1) else if fits kind h l=true then (rdL kind h l,0) else (z8,5)
theorem hiS_or (kind:Int):(kind=0∧hiS kind=2)∨((kind=1∨kind=2)∧hiS kind=4)∨(kind≠0∧kind≠1∧kind≠2∧hiS kind=0):=by
 unfold hiS
 by_cases h0:kind=0
 ·exact .inl ⟨h0,by rw [if_pos h0]⟩
 ·by_cases h1:kind=1∨kind=2
  ·exact .inr (.inl ⟨h1,by rw [if_neg h0,if_pos h1]⟩)
  ·exact .inr (.inr ⟨h0,fun e=>h1 (.inl e),fun e=>h1 (.inr e),by rw [if_neg h0,if_neg h1]⟩)
theorem high_ok (kind:Int):rd_highSize.f kind=some ((hiS kind:Int),decide (hiS kind≠0)):=by
 rcases hiS_or kind with ⟨rfl,h⟩ | ⟨rfl | rfl,h⟩ | ⟨h0,h1,h2,h⟩
 ·rfl
 ·rfl
 ·rfl
 ·unfold rd_highSize.f
  rw [h]
  simp [h0,h1,h2]
theorem rdL_length (kind h l:Int) (hk:hiS kind≠0):(rdL kind h l).length=8:=by
 unfold rdL loS
 rcases hiS_or kind with ⟨rfl,e⟩ | ⟨_,e⟩ | ⟨_,_,_,e⟩
 ·rw [e];rfl
 ·rw [e];rfl
 ·exact absurd e hk
theorem arC8 (b:List Int) (h:b.length=8):arC 8 (List.replicate 8 (0:Int)) b=b:=by
 unfold arC
 rw [List.take_of_length_le (by omega),List.drop_of_length_le (by rw [arL_length];omega),List.append_nil]
theorem put_any (k:Nat) (b:List Int) (n:Int) (s:Nat) (hb:b.length≤140737488351232) (h1:1≤s) (h4:s≤4):cursor_Put.f (k+5) b n (s:Int)=some (if decide (0≤n) && decide (n < 2^(8*s)) then (b++putL n s,0) else ([],5)):=by
 by_cases h:0≤n∧n < 2^(8*s)
 ·rw [put_ok k b n s hb h1 h4 h.1 h.2,if_pos (by simp [h.1,h.2])]
 ·rw [put_bad5 (k+5) b n s (by omega) (by omega) (by rw [Int.toNat_natCast];omega),if_neg (by simp;omega)]
theorem make_ok (k:Nat) (kind h l:Int):rd_Make.f (k+5) kind h l=some (makeR kind h l):=by
 unfold rd_Make.f makeR
 rw [high_ok,Option.bind_some]
 by_cases hk:hiS kind=0
 ·rw [if_pos hk,hk];rfl
 ·rw [if_neg hk]
  have hs:1≤hiS kind∧hiS kind≤4∧1≤loS kind∧loS kind≤4∧0≤kind∧kind < 65536∧(6:Int) - hiS kind=loS kind:=by
   unfold loS
   rcases hiS_or kind with ⟨rfl,e⟩ | ⟨rfl | rfl,e⟩ | ⟨_,_,_,e⟩<;>first | exact absurd e hk | (rw [e];decide)
  have p1:=put_any k [] kind 2 (by simp) (by decide) (by decide)
  rw [if_pos (by simp;omega)] at p1
  simp only [hk,ne_eq,not_false_eq_true,decide_true,Bool.not_true,Bool.false_eq_true,if_false]
  rw [show (2:Int)=((2:Nat):Int) from rfl,p1,Option.bind_some,put_any k _ h (hiS kind) (by simp [putL]) hs.1 hs.2.1,Option.bind_some]
  by_cases h1:(decide (0≤h) && decide (h < 2^(8*hiS kind)))=true
  ·rw [if_pos h1,w64 _ (by omega),hs.2.2.2.2.2.2]
   simp only [beq_self_eq_true,if_true]
   rw [put_any k _ l (loS kind) (by rw [List.length_append,putL_length h _ hs.1 hs.2.1];simp [putL];omega) hs.2.2.1 hs.2.2.2.1,Option.bind_some,Option.bind_some]
   by_cases h2:(decide (0≤l) && decide (l < 2^(8*loS kind)))=true
   ·have hf:fits kind h l=true:=by unfold fits;rw [← Bool.and_assoc,h1,h2];rfl
    rw [if_pos h2,hf]
    simp only [bne_self_eq_false,Bool.false_eq_true,if_false,if_true,List.nil_append]
    rw [arC8 _ (by have:=rdL_length kind h l hk;unfold rdL at this;exact this)]
    rfl
   ·have hf:fits kind h l=false:=by unfold fits;rw [← Bool.and_assoc,h1];simpa using h2
    rw [if_neg h2,hf]
    rfl
  ·have hf:fits kind h l=false:=by
    have h1':=Bool.eq_false_iff.2 h1
    unfold fits;rw [← Bool.and_assoc,h1'];rfl
   rw [if_neg h1,hf]
   rfl
theorem arL8 {x:List Int} (h:x.length=8):arL 8 x=x:=by have:=arL_self x;rwa [h] at this
theorem hs_of {kind:Int} (hk:hiS kind≠0):(hiS kind=2∨hiS kind=4)∧(loS kind=2∨loS kind=4)∧0≤kind∧kind < 65536:=by
 unfold loS
 rcases hiS_or kind with ⟨rfl,e⟩ | ⟨rfl | rfl,e⟩ | ⟨_,_,_,e⟩<;>first | exact absurd e hk | (rw [e];decide)
def partsR (d:List Int):Int×Int×Int×Bool :=
 if hiS (numL (d.take 2) 0)=0 then (0,0,0,false)
 else (numL (d.take 2) 0,numL ((d.drop 2).take (hiS (numL (d.take 2) 0))) 0,numL (d.drop (2+hiS (numL (d.take 2) 0))) 0,true)
theorem parts_ok (k:Nat) (d:List Int) (hd:d.length=8):rd_Parts.f (k+20) d=some (partsR d):=by
 unfold rd_Parts.f partsR cursor_Open.f
 rw [arL8 hd,clone_ok d (by omega),Option.bind_some,Option.bind_some]
 have n1:=num_ok (k+15) ⟨⟨d,false⟩⟩ 2 rfl (by decide) (by decide) (by simp;omega)
 simp only [show k+15+5=k+20 from rfl,show (Int.toNat (2:Int))=2 from rfl] at n1
 simp only [n1,Option.bind_some,high_ok]
 generalize hkd:numL (d.take 2) 0=kind
 by_cases hk:hiS kind=0
 ·rw [if_pos hk];simp [hk]
 ·have hs:=hs_of hk
  have e2:loS kind=6 - hiS kind:=rfl
  have n2:=num_ok (k+15) ⟨⟨d.drop 2,false⟩⟩ (hiS kind) rfl (by omega) (by omega) (by simp;omega)
  have n3:=num_ok (k+15) ⟨⟨(d.drop 2).drop (hiS kind),false⟩⟩ (loS kind) rfl (by omega) (by omega) (by simp;omega)
  have ln:(((d.drop 2).drop (hiS kind)).length:Int)=(loS kind:Int):=by simp;omega
  simp only [show k+15+5=k+20 from rfl,Int.toNat_natCast] at n2 n3
  rw [if_neg hk]
  simp only [hk,ne_eq,not_false_eq_true,decide_true,Bool.not_true,Bool.false_eq_true,if_false,n2,Option.bind_some,left_f,ln,n3]
  have e3:((d.drop 2).drop (hiS kind)).take (loS kind)=d.drop (2+hiS kind):=by
   rw [List.drop_drop,List.take_of_length_le (by simp;omega)]
  rw [e3]
/-! decimal numerals -/
theorem dec_digit:∀ (u:Nat),∀ c∈Lib.decDigits u,48≤c.toNat∧c.toNat≤57:=by
 intro u
 induction u using Nat.strongRecOn with
 | ind u ih =>
  intro c hc
  rw [Lib.decDigits] at hc
  split at hc
  ·simp only [List.mem_singleton] at hc
   subst hc
   rw [UInt8.toNat_ofNat'];omega
  ·rcases List.mem_append.1 hc with h | h
   ·exact ih (u / 10) (by omega) c h
   ·simp only [List.mem_singleton] at h
    subst h
    rw [UInt8.toNat_ofNat'];omega
theorem itoa_nat (n:Int) (h:0≤n):Lib.itoa n=Lib.decDigits n.toNat:=by unfold Lib.itoa;rw [if_neg (by omega)]
theorem itoa_free (n:Int) (h:0≤n) (c:UInt8) (hc:c.toNat < 48∨57 < c.toNat):c∉Lib.itoa n:=by
 rw [itoa_nat n h]
 intro hm
 have:=dec_digit _ c hm
 omega
theorem cut_at {c:UInt8}:∀ {a a' x x':List UInt8},c∉a→c∉a'→a++c::x=a'++c::x'→a=a'∧x=x'
 | [],[],_,_,_,_,h=>⟨rfl,(List.cons.inj h).2⟩
 | [],y::a',_,_,_,h',h=>by
  exfalso;exact h' (by rw [(List.cons.inj h).1];simp)
 | y::a,[],_,_,h',_,h=>by
  exfalso;exact h' (by rw [← (List.cons.inj h).1];simp)
 | y::a,z::a',x,x',h1,h2,h=>by
  obtain ⟨e1,e2⟩:=List.cons.inj h
  obtain ⟨e3,e4⟩:=cut_at (fun hh=>h1 (by simp [hh])) (fun hh=>h2 (by simp [hh])) e2
  exact ⟨by rw [e1,e3],e4⟩
theorem dec_len:∀ (u:Nat),(Lib.decDigits u).length≤u+1:=by
 intro u
 induction u using Nat.strongRecOn with
 | ind u ih =>
  rw [Lib.decDigits]
  split
  ·simp
  ·have:=ih (u / 10) (by omega)
   rw [List.length_append,List.length_singleton];omega
theorem ar_isB {x:List Int} (h:isB x) (i:Nat):0≤ar x i∧ar x i≤255:=by
 by_cases hj:i < x.length
 ·rw [ar_at x i hj];exact h _ (List.getElem_mem hj)
 ·have:ar x i=0:=by simp [ar,List.getD,List.getElem?_eq_none (Nat.not_lt.1 hj)]
  rw [this];decide
/-! an address of four bytes as a text -/
def nums4 (l:List Int):List (List UInt8):=[Lib.itoa (ar l 0),Lib.itoa (ar l 1),Lib.itoa (ar l 2),Lib.itoa (ar l 3)]
def txt4 (l:List Int):List UInt8:=Lib.join (nums4 l) [46]
theorem take4 (l:List Int):(((arL 16 l).take (Int.toNat (4:Int))).drop (Int.toNat (0:Int)))=[ar l 0,ar l 1,ar l 2,ar l 3]:=rfl
theorem itoa_f (n:Int) (h:0≤n∧n≤255):strconv_Itoa.f (IntKind.i64.wrap n)=some (Lib.itoa n):=by
 unfold strconv_Itoa.f
 rw [w64 _ (by omega),if_pos (by omega)]
theorem text4_go (a:S_api_Addr) (hB:isB a.B) (k:Nat):addr_Text.l0 a (k+5) [] 0=some (nums4 a.B):=by
 have h0:=ar_isB hB 0;have h1:=ar_isB hB 1;have h2:=ar_isB hB 2;have h3:=ar_isB hB 3
 have r0:rd [ar a.B 0,ar a.B 1,ar a.B 2,ar a.B 3] 0=ar a.B 0:=rfl
 have r1:rd [ar a.B 0,ar a.B 1,ar a.B 2,ar a.B 3] 1=ar a.B 1:=rfl
 have r2:rd [ar a.B 0,ar a.B 1,ar a.B 2,ar a.B 3] 2=ar a.B 2:=rfl
 have r3:rd [ar a.B 0,ar a.B 1,ar a.B 2,ar a.B 3] 3=ar a.B 3:=rfl
 have w1:IntKind.i64.wrap (0+1)=1:=by decide
 have w2:IntKind.i64.wrap (1+1)=2:=by decide
 have w3:IntKind.i64.wrap (2+1)=3:=by decide
 have w4:IntKind.i64.wrap (3+1)=4:=by decide
 rw [addr_Text.l0,take4,if_pos (by simp),if_pos (by simp),r0,itoa_f _ h0,Option.bind_some,if_pos (by simp),w1,
  addr_Text.l0,take4,if_pos (by simp),if_pos (by simp),r1,itoa_f _ h1,Option.bind_some,if_pos (by simp),w2,
  addr_Text.l0,take4,if_pos (by simp),if_pos (by simp),r2,itoa_f _ h2,Option.bind_some,if_pos (by simp),w3,
  addr_Text.l0,take4,if_pos (by simp),if_pos (by simp),r3,itoa_f _ h3,Option.bind_some,if_pos (by simp),w4,
  addr_Text.l0,take4,if_neg (by simp)]
 rfl
theorem txt4_eq (l:List Int):txt4 l=Lib.itoa (ar l 0)++46::(Lib.itoa (ar l 1)++46::(Lib.itoa (ar l 2)++46::Lib.itoa (ar l 3))):=by
 unfold txt4 nums4 Lib.join
 simp [List.intercalate,List.intersperse]
theorem text4_ok (k:Nat) (a:S_api_Addr) (hr:rightB a=true) (h4:a.Size=4) (hB:isB a.B):addr_Text.f (k+20) a=some (txt4 a.B):=by
 have len:∀ i,(Lib.itoa (ar a.B i)).length≤256:=fun i=>by
  have:=ar_isB hB i
  rw [itoa_nat _ this.1]
  have:=dec_len (ar a.B i).toNat
  omega
 have l0:=len 0;have l1:=len 1;have l2:=len 2;have l3:=len 3
 unfold addr_Text.f
 rw [right_ok,hr,Option.bind_some,if_neg (by simp),if_pos (by simp [h4]),if_pos (by decide),text4_go a hB (k+15),Option.bind_some]
 unfold strings_Join.f
 have e:=congrArg List.length (txt4_eq a.B)
 simp only [List.length_append,List.length_cons] at e
 have el:(Lib.join (nums4 a.B) [46]).length=(txt4 a.B).length:=rfl
 rw [if_pos ⟨by simp [nums4],by rw [el];omega⟩]
 rfl
theorem txt4_free (l:List Int) (hl:isB l):(58:UInt8)∉txt4 l:=by
 have fr:∀ i,(58:UInt8)∉Lib.itoa (ar l i):=fun i=>itoa_free _ (ar_isB hl i).1 _ (.inr (by decide))
 rw [txt4_eq]
 simp [fr]
/-! the text of what is made -/
def a4 (h:Int):S_api_Addr:=⟨4,arC 16 zeros (putL h 4)⟩
def nameR (kind h:Int):List UInt8:=if kind=1 then txt4 (a4 h).B else Lib.itoa h
def textR (kind h l:Int):List UInt8:=(((Lib.itoa kind++[58])++nameR kind h)++[58])++Lib.itoa l
theorem fits_range {kind h l:Int} (hf:fits kind h l=true):0≤h∧h < 2^(8*hiS kind)∧0≤l∧l < 2^(8*loS kind):=by
 unfold fits at hf
 simpa only [Bool.and_eq_true,decide_eq_true_eq] using hf
theorem fits_32 {kind h l:Int} (hk:hiS kind≠0) (hf:fits kind h l=true):0≤h∧h < 4294967296∧0≤l∧l < 4294967296:=by
 have r:=fits_range hf
 have hs:=hs_of hk
 refine ⟨r.1,?_,r.2.2.1,?_⟩
 ·rcases hs.1 with e | e<;>rw [e] at r
  ·have:h < 65536:=r.2.1
   omega
  ·exact r.2.1
 ·rcases hs.2.1 with e | e<;>rw [e] at r
  ·have:l < 65536:=r.2.2.2
   omega
  ·exact r.2.2.2
theorem parts_rdL {kind h l:Int} (hk:hiS kind≠0) (hf:fits kind h l=true):partsR (rdL kind h l)=(kind,h,l,true):=by
 have r:=fits_range hf
 have hs:=hs_of hk
 have l1:=putL_length kind 2 (by decide) (by decide)
 have l2:=putL_length h (hiS kind) (by omega) (by omega)
 have t1:(rdL kind h l).take 2=putL kind 2:=by
  unfold rdL;rw [List.append_assoc,List.take_left' l1]
 have d1:(rdL kind h l).drop 2=putL h (hiS kind)++putL l (loS kind):=by
  unfold rdL;rw [List.append_assoc,List.drop_left' l1]
 have n1:numL (putL kind 2) 0=kind:=num_put kind 2 (by decide) (by decide) hs.2.2.1 hs.2.2.2
 unfold partsR
 rw [t1,n1,if_neg hk,d1,List.take_left' l2,num_put h _ (by omega) (by omega) r.1 r.2.1,← List.drop_drop,d1,List.drop_left' l2,num_put l _ (by omega) (by omega) r.2.2.1 r.2.2.2]
theorem a4_right (h:Int):rightB (a4 h)=true:=by unfold a4 putL;kernel_rfl
theorem a4_isB (h:Int):isB (a4 h).B:=fun y hy=>by
 unfold a4 putL at hy
 have e:arC 16 zeros [h / 16777216 % 256,h / 65536 % 256,h / 256 % 256,h % 256]=[h / 16777216 % 256,h / 65536 % 256,h / 256 % 256,h % 256,0,0,0,0,0,0,0,0,0,0,0,0]:=by kernel_rfl
 simp only [e,List.mem_cons,List.not_mem_nil,or_false] at hy
 omega
theorem itoa_len (n:Int) (h:0≤n):(Lib.itoa n).length≤n.toNat+1:=by rw [itoa_nat n h];exact dec_len _
theorem itoa_f64 (n:Int) (h:0≤n) (h2:n < 4294967296):strconv_Itoa.f n=some (Lib.itoa n):=by
 unfold strconv_Itoa.f
 rw [if_pos (by omega)]
theorem name_len (kind h:Int) (h0:0≤h) (h1:h < 4294967296):(nameR kind h).length≤4294967296:=by
 unfold nameR
 split
 ·have e:=congrArg List.length (txt4_eq (a4 h).B)
  simp only [List.length_append,List.length_cons] at e
  have l:=fun i=>itoa_len (ar (a4 h).B i) (ar_isB (a4_isB h) i).1
  have r:=fun i=>(ar_isB (a4_isB h) i).2
  have a0:=l 0;have a1:=l 1;have a2:=l 2;have a3:=l 3
  have b0:=r 0;have b1:=r 1;have b2:=r 2;have b3:=r 3
  omega
 ·have:=itoa_len h h0
  omega
theorem text_ok (k:Nat) {kind h l:Int} (hk:hiS kind≠0) (hf:fits kind h l=true):rd_Text.f (k+20) (rdL kind h l)=some (textR kind h l):=by
 have r:=fits_32 hk hf
 have hs:=hs_of hk
 have ld:=rdL_length kind h l hk
 unfold rd_Text.f
 rw [parts_ok k _ ld,Option.bind_some,parts_rdL hk hf]
 simp only [Bool.not_true,Bool.false_eq_true,if_false]
 rw [itoa_f64 h r.1 r.2.1,Option.bind_some]
 have en:((if (kind==(1:Int))=true then (if 0≤(2:Int)∧(2:Int)≤(6:Int)∧(6:Int)≤(8:Int) then (addr_Of.f (((arL 8 (rdL kind h l)).take (Int.toNat (6:Int))).drop (Int.toNat (2:Int)))).bind fun t65=>(addr_Text.f (k+20) t65.1).bind fun t72=>some (t72:List UInt8) else none) else some (Lib.itoa h)))=some (nameR kind h):=by
  by_cases h1:kind=1
  ·subst h1
   have e:((arL 8 (rdL 1 h l)).take (Int.toNat (6:Int))).drop (Int.toNat (2:Int))=putL h 4:=by
    rw [arL8 ld]
    unfold rdL putL hiS loS
    rfl
   rw [if_pos (by simp),if_pos (by decide),e,of_ok,if_pos (show isSz ((putL h 4).length:Int)=true from rfl),Option.bind_some]
   have:=text4_ok k (a4 h) (a4_right h) rfl (a4_isB h)
   unfold nameR
   rw [if_pos rfl]
   rw [show (⟨((putL h 4).length:Int),arC 16 zeros (putL h 4)⟩:S_api_Addr)=a4 h from rfl,this]
   rfl
  ·rw [if_neg (by simpa using h1)]
   unfold nameR
   rw [if_neg h1]
 rw [en,Option.bind_some,itoa_f64 kind hs.2.2.1 (by omega),Option.bind_some,itoa_f64 l r.2.2.1 r.2.2.2]
 have e1:=itoa_len kind hs.2.2.1
 have e2:=name_len kind h r.1 r.2.1
 have e3:=itoa_len l r.2.2.1
 simp only [Option.bind_some]
 rw [if_pos (by simp;omega),if_pos (by simp;omega),if_pos (by simp;omega),if_pos (by simp;omega)]
 rfl
theorem name_free (kind h:Int) (h0:0≤h):(58:UInt8)∉nameR kind h:=by
 unfold nameR
 split
 ·exact txt4_free _ (a4_isB h)
 ·exact itoa_free _ h0 _ (.inr (by decide))
/-! numbers between signs, read -/
theorem dec_le (s:List UInt8) (p:Nat):(dec s p).1≤2147483647:=decode_le (bstr s) p
theorem dec_ascii (s:List UInt8) (p:Nat) (h:p < s.length) (ha:(s[p]).toNat < 128):dec s p=((s[p]).toNat,1):=decode_ascii (bstr s) p h ha
theorem dec_high (s:List UInt8) (p:Nat) (h:p < s.length) (ha:128≤(s[p]).toNat):128≤(dec s p).1∧1≤(dec s p).2:=decode_high (bstr s) p h ha
theorem dec_pos (s:List UInt8) (p:Nat) (h:p < s.length):1≤(dec s p).2:=by
 by_cases ha:(s[p]).toNat < 128
 ·rw [dec_ascii s p h ha];exact Nat.le_refl _
 ·exact (dec_high s p h (by omega)).2
def digV (c base:Nat):Option Nat :=
 if 48≤c∧c≤57 then (if c - 48 < base then some (c - 48) else none)
 else if 97≤c∧c≤102 then (if c - 87 < base then some (c - 87) else none) else none
theorem w32 (n:Int) (h:-2147483648≤n∧n≤2147483647):IntKind.i32.wrap n=n:=by rw [IntKind.wrap_i32];omega
theorem value_ok (c base:Nat) (hc:c≤2147483647) (hb:base≤16):addr_value.f (c:Int) (base:Int)=some (match digV c base with
  | some d=>((d:Int),true)
  | none=>(if 48≤c∧c≤57 then (c:Int) - 48 else if 97≤c∧c≤102 then (c:Int) - 87 else base,false)):=by
 unfold addr_value.f digV
 by_cases h1:48≤c∧c≤57
 ·rw [if_pos (by simp;omega),w32 _ (by omega),w64 _ (by omega),if_pos h1]
  by_cases h2:c - 48 < base
  ·rw [if_pos h2,decide_eq_true (by omega)];simp;omega
  ·rw [if_neg h2,decide_eq_false (by omega)];simp [h1]
 ·rw [if_neg (by simp;omega),if_neg h1]
  by_cases h3:97≤c∧c≤102
  ·rw [if_pos (by simp;omega),w32 _ (by omega),w64 ((c:Int) - 97) (by omega),w64 _ (by omega),if_pos h3]
   by_cases h2:c - 87 < base
   ·rw [if_pos h2,decide_eq_true (by omega)];simp;omega
   ·rw [if_neg h2,decide_eq_false (by omega)];simp [h1,h3];omega
  ·rw [if_neg (by simp;omega),if_neg h3]
   simp [h1,h3]
theorem last_rd (out:List Int) (v:Int):rd (out++[v]) ((out.length:Nat):Int)=v:=by
 rw [rd_at _ _ (by simp)];simp
theorem last_set (out:List Int) (v n:Int):(out++[v]).set out.length n=out++[n]:=by
 rw [List.set_append_right _ _ (Nat.le_refl _)];simp
def nextN (v:Int) (base d:Nat):Int:=(if v < 0 then 0 else v)*base+d
theorem parts_step (s:List UInt8) (sep base limit:Nat) (hb:base≤16) (hl:limit≤65536) (k:Nat) (out:List Int) (v:Int) (p:Nat) (hp:p < s.length) (ho:out.length≤140737488351232 - 1000) (hv:-1≤v∧v≤65536) (ho2:(out.length+2)*8≤140737488355328) :
  addr_parts.l0 s (sep:Int) (base:Int) (limit:Int) (k+1) (out++[v]) p =
   if (dec s p).1=sep then addr_parts.l0 s (sep:Int) (base:Int) (limit:Int) k ((out++[v])++[-1]) (p+(dec s p).2)
   else match digV (dec s p).1 base with
    | none=>some (.inl ([],false))
    | some d=>if (limit:Int)≤nextN v base d∨v=0 then some (.inl ([],false)) else addr_parts.l0 s (sep:Int) (base:Int) (limit:Int) k (out++[nextN v base d]) (p+(dec s p).2):=by
 have hc:=dec_le s p
 have e1:IntKind.i64.wrap (((out++[v]).length:Int) - 1)=((out.length:Nat):Int):=by
  rw [w64 _ (by simp;omega)];simp
 have e2:((out++[v]).length:Int)=(out.length:Int)+1:=by simp
 rw [addr_parts.l0,if_pos hp]
 by_cases h1:(dec s p).1=sep
 ·rw [if_pos (by simpa using congrArg Nat.cast h1),if_pos h1,if_pos (by simp;omega)]
 ·rw [if_neg (by simp;omega),if_neg h1,value_ok _ _ hc hb,Option.bind_some]
  simp only [e1,last_rd]
  rw [if_pos (by rw [e2];omega)]
  cases hd:digV (dec s p).1 base with
  | none=>simp
  | some d =>
   have hdb:d < base:=by
    unfold digV at hd
    (repeat' split at hd)<;>simp at hd<;>omega
   have hm:(if (0:Int) > v then (0:Int) else v)=(if v < 0 then 0 else v):=rfl
   have hn:0≤nextN v base d∧nextN v base d≤2000000:=by
    unfold nextN
    have hbz:(0:Int)≤base∧(base:Int)≤16:=by omega
    split
    ·omega
    ·have q1:0≤v*(base:Int):=Int.mul_nonneg (by omega) hbz.1
     have q2:v*(base:Int)≤v*16:=Int.mul_le_mul_of_nonneg_left hbz.2 (by omega)
     omega
   have hmm:0≤(if v < 0 then (0:Int) else v)*base∧(if v < 0 then (0:Int) else v)*base≤2000000:=by
    unfold nextN at hn
    have:(0:Int)≤(if v < 0 then (0:Int) else v)*base:=Int.mul_nonneg (by split<;>omega) (by omega)
    omega
   have ew:IntKind.i64.wrap (IntKind.i64.wrap ((if (0:Int) > v then (0:Int) else v)*(base:Int))+(d:Int))=nextN v base d:=by
    rw [hm,w64 ((if v < 0 then (0:Int) else v)*(base:Int)) (by omega),w64 _ (by unfold nextN at hn;omega)];rfl
   simp only [Bool.not_true,Bool.false_eq_true,if_false,ew]
   by_cases h2:(limit:Int)≤nextN v base d
   ·rw [if_pos (by simpa using h2),Option.bind_some,if_pos rfl,if_pos (.inl h2)]
   ·rw [if_neg (by simpa using h2),if_pos (by rw [e2];omega),Option.bind_some]
    by_cases h3:v=0
    ·rw [if_pos (by simpa using h3),if_pos (.inr h3)]
    ·rw [if_neg (by simpa using h3)]
     rw [if_pos (by rw [e2];omega),Int.toNat_natCast,last_set,if_neg (show ¬ ((limit:Int)≤nextN v base d∨v=0) from fun hh=>hh.elim h2 h3)]
def dgt (d:Nat):UInt8:=UInt8.ofNat (if d < 10 then 48+d else 87+d)
def numD (base u:Nat):List UInt8:=if h:u < base∨base < 2 then [dgt u] else numD base (u / base)++[dgt (u % base)]
termination_by u
decreasing_by exact Nat.div_lt_self (by omega) (by omega)
theorem numD_small {base u:Nat} (h:u < base):numD base u=[dgt u]:=by rw [numD,dif_pos (.inl h)]
theorem numD_big {base u:Nat} (h:base≤u) (hb:2≤base):numD base u=numD base (u / base)++[dgt (u % base)]:=by rw [numD,dif_neg (by omega)]
theorem numD_dec:∀ u:Nat,Lib.decDigits u=numD 10 u:=by
 intro u
 induction u using Nat.strongRecOn with
 | ind u ih =>
  rw [Lib.decDigits]
  split
  ·rename_i h
   rw [numD_small h];unfold dgt;rw [if_pos h]
  ·rename_i h
   rw [numD_big (by omega) (by decide),ih (u / 10) (by omega)]
   unfold dgt
   rw [if_pos (Nat.mod_lt _ (by decide))]
theorem dgt_toNat {d:Nat} (h:d < 16):(dgt d).toNat=if d < 10 then 48+d else 87+d:=by
 unfold dgt
 rw [UInt8.toNat_ofNat']
 split<;>omega
theorem digV_dgt {d base:Nat} (h:d < base) (hb:base≤16):digV (dgt d).toNat base=some d:=by
 rw [dgt_toNat (by omega)]
 unfold digV
 by_cases h1:d < 10
 ·rw [if_pos h1,if_pos (by omega),if_pos (by omega)];congr 1;omega
 ·rw [if_neg h1,if_neg (by omega),if_pos (by omega),if_pos (by omega)];congr 1;omega
theorem numD_len {base:Nat} (hb:2≤base):∀ u,1≤(numD base u).length:=by
 intro u
 rw [numD]
 split<;>simp
theorem parts_num (s:List UInt8) (sep base limit:Nat) (hb2:2≤base) (hb:base≤16) (hl:limit≤65536) (hsep:sep < 48∨sep=58∨102 < sep) (out:List Int) (ho:out.length≤1000000) :
  ∀ (u k p:Nat) (rest:List UInt8),s.drop p=numD base u++rest→u < limit →
   addr_parts.l0 s (sep:Int) (base:Int) (limit:Int) (k+(numD base u).length) (out++[-1]) p=addr_parts.l0 s (sep:Int) (base:Int) (limit:Int) k (out++[(u:Int)]) (p+(numD base u).length):=by
 have one:∀ (v:Int) (d k p:Nat) (rest:List UInt8),-1≤v→v≤65536→v≠0→d < base→s.drop p=dgt d::rest→nextN v base d < limit →
   addr_parts.l0 s (sep:Int) (base:Int) (limit:Int) (k+1) (out++[v]) p=addr_parts.l0 s (sep:Int) (base:Int) (limit:Int) k (out++[nextN v base d]) (p+1):=by
  intro v d k p rest h1 h2 h3 h4 h5 h6
  have hp:p < s.length:=by
   have:=congrArg List.length h5
   rw [List.length_drop,List.length_cons] at this
   omega
  have hc:s[p]=dgt d:=by
   have:=congrArg (fun l=>l[0]?) h5
   simp only [List.getElem?_drop,Nat.add_zero,List.getElem?_cons_zero] at this
   rw [List.getElem?_eq_getElem hp] at this
   exact Option.some.inj this
  have hdn:=dgt_toNat (d:=d) (by omega)
  have hdec:dec s p=((dgt d).toNat,1):=by
   rw [dec_ascii s p hp (by rw [hc,hdn];split<;>omega),hc]
  rw [parts_step s sep base limit hb hl k out v p hp (by omega) ⟨h1,h2⟩ (by omega),hdec,if_neg (by simp only;rw [hdn];split<;>omega)]
  simp only [digV_dgt h4 hb]
  rw [if_neg (by omega)]
 intro u
 induction u using Nat.strongRecOn with
 | ind u ih =>
  intro k p rest hs hu
  by_cases hsm:u < base
  ·rw [numD_small hsm] at hs ⊢
   have:=one (-1) u k p rest (by omega) (by omega) (by omega) hsm hs (by unfold nextN;simp;omega)
   rw [show nextN (-1) base u=(u:Int) by unfold nextN;simp] at this
   exact this
  ·have hq:u / base < u:=Nat.div_lt_self (by omega) (by omega)
   have hbig:=numD_big (base:=base) (u:=u) (by omega) hb2
   rw [hbig] at hs ⊢
   rw [List.append_assoc] at hs
   have i1:=ih (u / base) hq (k+1) p ([dgt (u % base)]++rest) hs (by omega)
   rw [List.length_append,List.length_singleton,show k+((numD base (u / base)).length+1)=(k+1)+(numD base (u / base)).length by omega,i1]
   have hmul:=Nat.div_add_mod u base
   have hpos:1≤u / base:=(Nat.one_le_div_iff (by omega)).2 (by omega)
   have en:nextN ((u / base:Nat):Int) base (u % base)=(u:Int):=by
    unfold nextN
    rw [if_neg (by omega)]
    have:u / base*base+u % base=u:=by rw [Nat.mul_comm];exact hmul
    exact_mod_cast this
   have:=one ((u / base:Nat):Int) (u % base) k (p+(numD base (u / base)).length) rest (by omega) (by omega) (by omega) (Nat.mod_lt _ (by omega)) (by
    have:=congrArg (List.drop (numD base (u / base)).length) hs
    rw [List.drop_drop,List.drop_left] at this
    exact this) (by rw [en];omega)
   rw [this,en,Nat.add_assoc]
def txtL (base:Nat) (sep:UInt8):List Nat→List UInt8
 | []=>[]
 | [u]=>numD base u
 | u::v::us=>numD base u++sep::txtL base sep (v::us)
theorem parts_list (s:List UInt8) (sep:UInt8) (base limit:Nat) (hb2:2≤base) (hb:base≤16) (hl:limit≤65536) (hsep:sep.toNat < 48∨sep.toNat=58) :
  ∀ (us:List Nat) (out:List Int) (k p:Nat),us≠[]→out.length+us.length≤1000000→s.drop p=txtL base sep us→(∀ u∈us,u < limit) →
   addr_parts.l0 s (sep.toNat:Int) (base:Int) (limit:Int) (k+(txtL base sep us).length+1) (out++[-1]) p=some (.inr (out++us.map (fun u:Nat=>(u:Int)),p+(txtL base sep us).length))
 | [],_,_,_,h,_,_,_=>absurd rfl h
 | [u],out,k,p,_,ho,hs,hlt=>by
  have h1:=parts_num s sep.toNat base limit hb2 hb hl (by omega) out (by simp at ho;omega) u (k+1) p [] (by rw [hs,List.append_nil];rfl) (hlt u (by simp))
  have hlen:p+(numD base u).length=s.length:=by
   have:=congrArg List.length hs
   have h2:=numD_len hb2 u
   rw [List.length_drop] at this
   simp only [txtL] at this
   omega
  simp only [txtL]
  rw [show k+(numD base u).length+1=(k+1)+(numD base u).length by omega,h1,addr_parts.l0,if_neg (by omega)]
  rfl
 | u::v::us,out,k,p,_,ho,hs,hlt=>by
  simp only [List.length_cons] at ho
  have e:txtL base sep (u::v::us)=numD base u++sep::txtL base sep (v::us):=rfl
  rw [e] at hs ⊢
  have h1:=parts_num s sep.toNat base limit hb2 hb hl (by omega) out (by omega) u (k+(txtL base sep (v::us)).length+1+1) p (sep::txtL base sep (v::us)) hs (hlt u (by simp))
  have hs2:s.drop (p+(numD base u).length)=sep::txtL base sep (v::us):=by
   have:=congrArg (List.drop (numD base u).length) hs
   rw [List.drop_drop,List.drop_left] at this
   exact this
  have hp:p+(numD base u).length < s.length:=by
   have:=congrArg List.length hs2
   rw [List.length_drop,List.length_cons] at this
   omega
  have hc:s[p+(numD base u).length]=sep:=by
   have:=congrArg (fun l=>l[0]?) hs2
   simp only [List.getElem?_drop,Nat.add_zero,List.getElem?_cons_zero] at this
   rw [List.getElem?_eq_getElem hp] at this
   exact Option.some.inj this
  have hdec:dec s (p+(numD base u).length)=(sep.toNat,1):=by
   rw [dec_ascii s _ hp (by rw [hc];omega),hc]
  have hu:=hlt u (by simp)
  have h2:=parts_step s sep.toNat base limit hb hl (k+(txtL base sep (v::us)).length+1) out (u:Int) _ hp (by omega) (by omega) (by omega)
  rw [hdec,if_pos rfl] at h2
  have h3:=parts_list s sep base limit hb2 hb hl hsep (v::us) (out++[(u:Int)]) k (p+(numD base u).length+1) (by simp) (by simp;omega) (by
   have:=congrArg (List.drop 1) hs2
   rw [List.drop_drop] at this
   exact this) (fun x hx=>hlt x (by simp at hx ⊢;right;exact hx))
  rw [List.length_append,List.length_cons,show k+((numD base u).length+((txtL base sep (v::us)).length+1))+1=(k+(txtL base sep (v::us)).length+1+1)+(numD base u).length by omega,h1,h2]
  simp only
  rw [h3]
  simp only [List.map_cons,List.append_assoc,List.cons_append,List.nil_append]
  rw [show p+(numD base u).length+1+(txtL base sep (v::us)).length=p+((numD base u).length+((txtL base sep (v::us)).length+1)) by omega]
theorem parts_f (k:Nat) (sep:UInt8) (base limit:Nat) (hb2:2≤base) (hb:base≤16) (hl:limit≤65536) (hsep:sep.toNat < 48∨sep.toNat=58) (us:List Nat) (hus:us≠[]) (hu:us.length≤1000000) (hlt:∀ u∈us,u < limit) (hk:(txtL base sep us).length < k) :
  addr_parts.f k (txtL base sep us) (sep.toNat:Int) (base:Int) (limit:Int)=some (us.map (fun u:Nat=>(u:Int)),true):=by
 unfold addr_parts.f
 have:=parts_list (txtL base sep us) sep base limit hb2 hb hl hsep us [] (k - (txtL base sep us).length - 1) 0 hus (by simp;exact hu) (by simp) hlt
 rw [show k - (txtL base sep us).length - 1+(txtL base sep us).length+1=k by omega] at this
 rw [show ([-1]:List Int)=[]++[-1] from rfl,this]
 rfl
theorem rightB_iff (a:S_api_Addr):rightB a=true↔isSz a.Size=true∧∀ j,a.Size.toNat≤j→j < 16→ar a.B j=0:=by
 unfold rightB
 rw [Bool.and_eq_true,List.all_eq_true]
 refine and_congr_right fun _=>⟨fun h j h1 h2=>?_,fun h x hx=>?_⟩
 ·have:=h (ar a.B j) (by
   rw [List.mem_iff_getElem]
   refine ⟨j - a.Size.toNat,by rw [List.length_drop,arL_length];omega,?_⟩
   rw [List.getElem_drop]
   simp only [arL,List.getElem_map,List.getElem_range]
   congr 1;omega)
  simpa using this
 ·obtain ⟨i,hi,rfl⟩:=List.mem_iff_getElem.1 hx
  rw [List.length_drop,arL_length] at hi
  rw [List.getElem_drop]
  simp only [arL,List.getElem_map,List.getElem_range,beq_iff_eq]
  exact h _ (by omega) (by omega)
theorem rightB_size {a:S_api_Addr} (h:rightB a=true):a.Size=0∨a.Size=4∨a.Size=16:=isSz_or (by unfold rightB at h;simp only [Bool.and_eq_true] at h;exact h.1)
theorem right4_B {a:S_api_Addr} (hr:rightB a=true) (h4:a.Size=4) (hl:a.B.length=16):a.B=[ar a.B 0,ar a.B 1,ar a.B 2,ar a.B 3,0,0,0,0,0,0,0,0,0,0,0,0]:=by
 have hz:=((rightB_iff a).1 hr).2
 rw [h4] at hz
 have z:∀ j,4≤j→j < 16→ar a.B j=0:=fun j h1 h2=>hz j (by simpa using h1) h2
 have e:arL 16 a.B=a.B:=by have:=arL_self a.B;rwa [hl] at this
 have e2:arL 16 a.B=[ar a.B 0,ar a.B 1,ar a.B 2,ar a.B 3,ar a.B 4,ar a.B 5,ar a.B 6,ar a.B 7,ar a.B 8,ar a.B 9,ar a.B 10,ar a.B 11,ar a.B 12,ar a.B 13,ar a.B 14,ar a.B 15]:=rfl
 rw [e] at e2
 conv=>lhs;rw [e2]
 rw [z 4 (by decide) (by decide),z 5 (by decide) (by decide),z 6 (by decide) (by decide),z 7 (by decide) (by decide),z 8 (by decide) (by decide),z 9 (by decide) (by decide),z 10 (by decide) (by decide),z 11 (by decide) (by decide),z 12 (by decide) (by decide),z 13 (by decide) (by decide),z 14 (by decide) (by decide),z 15 (by decide) (by decide)]
def ns4 (l:List Int):List Nat:=[(ar l 0).toNat,(ar l 1).toNat,(ar l 2).toNat,(ar l 3).toNat]
theorem txt4_txtL (l:List Int) (hB:isB l):txt4 l=txtL 10 46 (ns4 l):=by
 rw [txt4_eq,itoa_nat _ (ar_isB hB 0).1,itoa_nat _ (ar_isB hB 1).1,itoa_nat _ (ar_isB hB 2).1,itoa_nat _ (ar_isB hB 3).1,numD_dec,numD_dec,numD_dec,numD_dec]
 rfl
theorem txt4_len (l:List Int) (hB:isB l):(txt4 l).length≤1040:=by
 have len:∀ i,(Lib.itoa (ar l i)).length≤256:=fun i=>by
  have:=ar_isB hB i
  rw [itoa_nat _ this.1]
  have:=dec_len (ar l i).toNat
  omega
 have l0:=len 0;have l1:=len 1;have l2:=len 2;have l3:=len 3
 rw [txt4_eq]
 simp only [List.length_append,List.length_cons]
 omega
theorem u8w (n:Int) (h:0≤n∧n≤255):IntKind.u8.wrap n=n:=by rw [IntKind.wrap_u8];omega
theorem read4_go (x0 x1 x2 x3:Int) (h0:0≤x0∧x0≤255) (h1:0≤x1∧x1≤255) (h2:0≤x2∧x2≤255) (h3:0≤x3∧x3≤255) (k:Nat) :
  addr_read4.l0 ([x0,x1,x2,x3],true) (k+5) 0 (List.replicate 16 (0:Int))=some (.inr [x0,x1,x2,x3,0,0,0,0,0,0,0,0,0,0,0,0]):=by
 have r0:rd [x0,x1,x2,x3] 0=x0:=rfl
 have r1:rd [x0,x1,x2,x3] 1=x1:=rfl
 have r2:rd [x0,x1,x2,x3] 2=x2:=rfl
 have r3:rd [x0,x1,x2,x3] 3=x3:=rfl
 have w1:IntKind.i64.wrap (0+1)=1:=by decide
 have w2:IntKind.i64.wrap (1+1)=2:=by decide
 have w3:IntKind.i64.wrap (2+1)=3:=by decide
 have w4:IntKind.i64.wrap (3+1)=4:=by decide
 rw [addr_read4.l0,if_pos (by simp),if_pos (by simp),r0,if_neg (by simp;omega),if_pos (by decide),w1,u8w _ h0,
  addr_read4.l0,if_pos (by simp),if_pos (by simp),r1,if_neg (by simp;omega),if_pos (by decide),w2,u8w _ h1,
  addr_read4.l0,if_pos (by simp),if_pos (by simp),r2,if_neg (by simp;omega),if_pos (by decide),w3,u8w _ h2,
  addr_read4.l0,if_pos (by simp),if_pos (by simp),r3,if_neg (by simp;omega),if_pos (by decide),w4,u8w _ h3,
  addr_read4.l0,if_neg (by simp)]
 rfl
theorem read4_ok (k:Nat) (a:S_api_Addr) (hr:rightB a=true) (h4:a.Size=4) (hB:isB a.B) (hl:a.B.length=16):addr_read4.f (k+1100) (txt4 a.B)=some (a,true):=by
 have hlen:=txt4_len a.B hB
 have b0:=ar_isB hB 0;have b1:=ar_isB hB 1;have b2:=ar_isB hB 2;have b3:=ar_isB hB 3
 unfold addr_read4.f
 rw [txt4_txtL _ hB] at hlen ⊢
 have hp:=parts_f (k+1100) 46 10 256 (by decide) (by decide) (by decide) (by decide) (ns4 a.B) (by simp [ns4]) (by simp [ns4]) (by simp [ns4];omega) (by omega)
 have e46:(((46:UInt8).toNat:Nat):Int)=46:=rfl
 rw [e46] at hp
 have em:(ns4 a.B).map (fun u:Nat=>(u:Int))=[ar a.B 0,ar a.B 1,ar a.B 2,ar a.B 3]:=by
  simp [ns4];omega
 rw [em] at hp
 rw [show (10:Int)=((10:Nat):Int) from rfl,show (256:Int)=((256:Nat):Int) from rfl,hp,Option.bind_some,if_neg (by simp),show k+1100=(k+1095)+5 by omega,read4_go _ _ _ _ b0 b1 b2 b3,Option.bind_some]
 simp only
 rw [← right4_B hr h4 hl,← h4]
theorem txt4_ne (l:List Int) (hB:isB l):txt4 l≠[]:=by
 rw [txt4_eq]
 intro h
 have:=congrArg List.length h
 simp at this
/-! texts that are cut -/
def spl (c:UInt8):List UInt8→List (List UInt8)
 | []=>[[]]
 | x::s=>if x=c then []::spl c s else match spl c s with
  | []=>[[x]]
  | y::ys=>(x::y)::ys
theorem spl_free {c:UInt8}:∀ {a:List UInt8},c∉a→spl c a=[a]
 | [],_=>rfl
 | x::a,h=>by
  rw [spl,if_neg (fun e=>h (by simp [e])),spl_free (fun hh=>h (by simp [hh]))]
theorem spl_app {c:UInt8}:∀ {a:List UInt8} (s:List UInt8),c∉a→spl c (a++c::s)=a::spl c s
 | [],s,_=>by rw [List.nil_append,spl,if_pos rfl]
 | x::a,s,h=>by
  rw [List.cons_append,spl,if_neg (fun e=>h (by simp [e])),spl_app s (fun hh=>h (by simp [hh]))]
theorem spl_pos (c:UInt8) (s:List UInt8):∃ y ys,spl c s=y::ys:=by
 cases s with
 | nil=>exact ⟨_,_,rfl⟩
 | cons x s =>
  rw [spl]
  split
  ·exact ⟨_,_,rfl⟩
  ·split<;>exact ⟨_,_,rfl⟩
theorem index_free {c:UInt8}:∀ {a:List UInt8},c∉a→Lib.index a [c]=-1
 | [],_=>rfl
 | x::a,h=>by
  have h1:([c].isPrefixOf (x::a))=false:=by
   simp [List.isPrefixOf];exact fun e=>h (by simp [e])
  unfold Lib.index
  rw [h1,index_free (fun hh=>h (by simp [hh]))];rfl
theorem index_app {c:UInt8}:∀ {a:List UInt8} (s:List UInt8),c∉a→Lib.index (a++c::s) [c]=a.length
 | [],s,_=>by
  unfold Lib.index;simp [List.isPrefixOf]
 | x::a,s,h=>by
  have h1:([c].isPrefixOf (x::(a++c::s)))=false:=by
   simp [List.isPrefixOf];exact fun e=>h (by simp [e])
  rw [List.cons_append]
  unfold Lib.index
  rw [h1,index_app s (fun hh=>h (by simp [hh]))]
  have:(((a.length:Nat):Int)==-1)=false:=by rw [beq_eq_false_iff_ne];omega
  simp [this]
theorem cut_app {c:UInt8} {a:List UInt8} (s:List UInt8) (h:c∉a):Lib.cut (a++c::s) [c]=(a,s,true):=by
 unfold Lib.cut;rw [index_app s h,if_pos (by omega)]
 simp
theorem first_of (c:UInt8):∀ (s:List UInt8),c∉s∨∃ a b,s=a++c::b∧c∉a
 | []=>.inl (by simp)
 | x::s=>by
  by_cases e:x=c
  ·exact .inr ⟨[],s,by simp [e],by simp⟩
  ·rcases first_of c s with h | ⟨a,b,h1,h2⟩
   ·exact .inl (by simp [h];exact fun hh=>e hh.symm)
   ·exact .inr ⟨x::a,b,by simp [h1],by simp [h2];exact fun hh=>e hh.symm⟩
def noDbl:List UInt8→Bool
 | []=>true
 | [x]=>x != 58
 | x::y::r=>!(x==58 && y==58) && noDbl (y::r)
theorem dbl_index:∀ (a s:List UInt8),noDbl a=true→Lib.index (a++58::58::s) [58,58]=a.length
 | [],s,_=>by unfold Lib.index;simp [List.isPrefixOf]
 | [x],s,h=>by
  have hx:x≠58:=by simpa [noDbl] using h
  have h1:([58,58].isPrefixOf (x::58::58::s))=false:=by
   simp [List.isPrefixOf];exact fun e=>absurd e.symm hx
  have h2:=dbl_index [] s rfl
  rw [List.nil_append] at h2
  rw [List.cons_append,List.nil_append]
  unfold Lib.index
  rw [h1,h2];rfl
 | x::y::r,s,h=>by
  have hh:¬ (x=58∧y=58)∧noDbl (y::r)=true:=by
   rw [noDbl,Bool.and_eq_true] at h
   exact ⟨fun e=>by simp [e.1,e.2] at h,h.2⟩
  have h1:([58,58].isPrefixOf (x::y::(r++58::58::s)))=false:=by
   simp [List.isPrefixOf];exact fun e e2=>hh.1 ⟨e.symm,e2.symm⟩
  have h2:=dbl_index (y::r) s hh.2
  rw [List.cons_append] at h2
  rw [List.cons_append,List.cons_append]
  unfold Lib.index
  rw [h1,h2]
  have:((((y::r).length:Nat):Int)==-1)=false:=by rw [beq_eq_false_iff_ne];simp only [List.length_cons];omega
  simp only [this];rfl
theorem dbl_none:∀ (a:List UInt8),noDbl a=true→Lib.index a [58,58]=-1
 | [],_=>rfl
 | [x],h=>by
  unfold Lib.index;simp [List.isPrefixOf,Lib.index]
 | x::y::r,h=>by
  have hh:¬ (x=58∧y=58)∧noDbl (y::r)=true:=by
   rw [noDbl,Bool.and_eq_true] at h
   exact ⟨fun e=>by simp [e.1,e.2] at h,h.2⟩
  have h1:([58,58].isPrefixOf (x::y::r))=false:=by
   simp [List.isPrefixOf];exact fun e e2=>hh.1 ⟨e.symm,e2.symm⟩
  unfold Lib.index
  rw [h1,dbl_none (y::r) hh.2];rfl
theorem dbl_cut (a s:List UInt8) (h:noDbl a=true):Lib.cut (a++58::58::s) [58,58]=(a,s,true):=by
 unfold Lib.cut;rw [dbl_index a s h,if_pos (by omega)]
 simp
theorem dbl_cut_none (a:List UInt8) (h:noDbl a=true):Lib.cut a [58,58]=(a,[],false):=by
 unfold Lib.cut;rw [dbl_none a h,if_neg (by decide)]
theorem noDbl_free:∀ {a:List UInt8},(58:UInt8)∉a→noDbl a=true
 | [],_=>rfl
 | [x],h=>by simp [noDbl];exact fun e=>h (by simp [e])
 | x::y::r,h=>by
  have:=noDbl_free (a:=y::r) (fun hh=>h (by simp at hh ⊢;right;exact hh))
  have hx:x≠58:=fun e=>h (by simp [e])
  rw [noDbl,this];simp [hx]
theorem noDbl_app:∀ (a b:List UInt8),a≠[]→(58:UInt8)∉a→b≠[]→b.head? ≠ some 58→noDbl b=true→noDbl (a++58::b)=true
 | [],_,h,_,_,_,_=>absurd rfl h
 | [x],b,_,hx,hb,h0,h=>by
  obtain ⟨y,ys,rfl⟩:=List.exists_cons_of_ne_nil hb
  have h1:y≠58:=by simpa using h0
  have h2:x≠58:=fun e=>hx (by simp [e])
  simp [noDbl,h1,h2,h]
 | x::y::r,b,_,hx,hb,h0,h=>by
  have h2:x≠58:=fun e=>hx (by simp [e])
  have:=noDbl_app (y::r) b (by simp) (fun hh=>hx (by simp at hh ⊢;right;exact hh)) hb h0 h
  rw [List.cons_append] at this ⊢
  rw [List.cons_append]
  simp [noDbl,h2]
  simpa using this
/-! an address of sixteen bytes as a text -/
theorem or16 (x y:Int) (hx:0≤x∧x≤255) (hy:0≤y∧y≤255):IntKind.i64.wrap (BitVec.ofInt IntKind.i64.bits (IntKind.i64.wrap ((IntKind.i64.wrap x)*2^(min (8:Int).toNat IntKind.i64.bits))) ||| BitVec.ofInt IntKind.i64.bits (IntKind.i64.wrap y)).toNat=x*256+y:=by
 rw [w64 x (by omega),or_step x y hx.1 (by omega) hy.1 hy.2,w64 _ (by omega)]
def n16 (l:List Int) (i:Nat):Int:=ar l (2*i)*256+ar l (2*i+1)
def nums (l:List Int):List Int:=[n16 l 0,n16 l 1,n16 l 2,n16 l 3,n16 l 4,n16 l 5,n16 l 6,n16 l 7]
theorem n16_lt {l:List Int} (h:isB l) (i:Nat):0≤n16 l i∧n16 l i < 65536:=by
 have h1:=ar_isB h (2*i);have h2:=ar_isB h (2*i+1)
 unfold n16;omega
theorem numbers_step (a:S_api_Addr) (hB:isB a.B) (k i:Nat) (hi:i < 8) (x:List Int):addr_numbers.l0 a (k+1) (i:Int) x=addr_numbers.l0 a k ((i+1:Nat):Int) ((arL 8 x).set i (n16 a.B i)):=by
 have e1:IntKind.i64.wrap (2*(i:Int))=((2*i:Nat):Int):=by rw [w64 _ (by omega)];omega
 have e2:IntKind.i64.wrap (((2*i:Nat):Int)+1)=((2*i+1:Nat):Int):=by rw [w64 _ (by omega)];omega
 have e3:IntKind.i64.wrap ((i:Int)+1)=((i+1:Nat):Int):=by rw [w64 _ (by omega)];omega
 rw [addr_numbers.l0,if_pos (by simp;omega),e1,e2,e3,if_pos (by omega),if_pos (by omega),if_pos (by omega),Int.toNat_natCast,Int.toNat_natCast,Int.toNat_natCast,or16 _ _ (ar_isB hB _) (ar_isB hB _)]
 rfl
theorem numbers_ok (k:Nat) (a:S_api_Addr) (hB:isB a.B):addr_numbers.f (k+20) a=some (nums a.B):=by
 unfold addr_numbers.f
 have s:=fun k i hi x=>numbers_step a hB k i hi x
 have s0:=s (k+19) 0 (by decide)
 rw [show ((0:Nat):Int)=0 from rfl] at s0
 rw [s0,s (k+18) 1 (by decide),s (k+17) 2 (by decide),s (k+16) 3 (by decide),s (k+15) 4 (by decide),s (k+14) 5 (by decide),s (k+13) 6 (by decide),s (k+12) 7 (by decide),addr_numbers.l0,if_neg (by decide)]
 rfl
def zr (ns:List Int):Nat→Nat→Nat
 | 0,_=>0
 | m+1,p=>if ar ns p=0 then zr ns m (p+1)+1 else 0
theorem zr_le (ns:List Int):∀ m p,zr ns m p≤m
 | 0,_=>Nat.le_refl _
 | m+1,p=>by
  rw [zr];split
  ·have:=zr_le ns m (p+1);omega
  ·omega
theorem zr_zero (ns:List Int):∀ m p j,j < zr ns m p→ar ns (p+j)=0
 | 0,_,_,h=>absurd h (Nat.not_lt_zero _)
 | m+1,p,j,h=>by
  rw [zr] at h;split at h
  ·cases j with
   | zero=>assumption
   | succ j=>have:=zr_zero ns m (p+1) j (by omega);rwa [show p+1+j=p+(j+1) by omega] at this
  ·omega
theorem gap_l1 (ns:List Int) (i:Nat):∀ m n k,i+n+m=8→m < k→addr_gap.l1 ns (i:Int) k (n:Int)=some ((n+zr ns m (i+n):Nat):Int)
 | 0,n,k,h,hk=>by
  obtain ⟨k,rfl⟩:∃ k',k=k'+1:=⟨k - 1,by omega⟩
  have e1:IntKind.i64.wrap ((i:Int)+n)=8:=by rw [w64 _ (by omega)];omega
  rw [addr_gap.l1,e1,if_neg (by decide),Option.bind_some,if_neg (by decide)];rfl
 | m+1,n,k,h,hk=>by
  obtain ⟨k,rfl⟩:∃ k',k=k'+1:=⟨k - 1,by omega⟩
  have e1:IntKind.i64.wrap ((i:Int)+n)=((i+n:Nat):Int):=by rw [w64 _ (by omega)];omega
  have e3:IntKind.i64.wrap ((n:Int)+1)=((n+1:Nat):Int):=by rw [w64 _ (by omega)];omega
  rw [addr_gap.l1,e1,e3,if_pos (by simp;omega),if_pos (by omega),Option.bind_some,Int.toNat_natCast,zr]
  by_cases h0:ar ns (i+n)=0
  ·rw [if_pos (by simpa using h0),if_pos h0,gap_l1 ns i m (n+1) k (by omega) (by omega)]
   rw [show i+(n+1)=i+n+1 by omega]
   congr 1;omega
  ·rw [if_neg (by simpa using h0),if_neg h0];rfl
def gapGo (ns:List Int):Nat→Nat→Nat×Nat→Nat×Nat
 | 0,_,g=>g
 | m+1,i,g=>gapGo ns m (i+1) (if g.2 < zr ns (8 - i) i then (i,zr ns (8 - i) i) else g)
def gapOf (ns:List Int):Nat×Nat:=gapGo ns 8 0 (0,0)
theorem gap_l0 (K:Nat) (hK:9≤K) (ns:List Int):∀ (m i k:Nat) (g:Nat×Nat),i+m=8→m < k→addr_gap.l0 K ns k (g.1:Int) (g.2:Int) (i:Int)=some (((gapGo ns m i g).1:Int),((gapGo ns m i g).2:Int))
 | 0,i,k,g,h,hk=>by
  obtain ⟨k,rfl⟩:∃ k',k=k'+1:=⟨k - 1,by omega⟩
  rw [addr_gap.l0,if_neg (by simp;omega)];rfl
 | m+1,i,k,g,h,hk=>by
  obtain ⟨k,rfl⟩:∃ k',k=k'+1:=⟨k - 1,by omega⟩
  have e3:IntKind.i64.wrap ((i:Int)+1)=((i+1:Nat):Int):=by rw [w64 _ (by omega)];omega
  have h1:=gap_l1 ns i (8 - i) 0 K (by omega) (by omega)
  rw [Nat.add_zero,Nat.zero_add,show ((0:Nat):Int)=0 from rfl] at h1
  rw [addr_gap.l0,if_pos (by simp;omega),h1,Option.bind_some,e3,gapGo]
  by_cases hg:g.2 < zr ns (8 - i) i
  ·rw [if_pos (by simpa using hg),if_pos hg]
   exact gap_l0 K hK ns m (i+1) k (i,zr ns (8 - i) i) (by omega) (by omega)
  ·rw [if_neg (by simpa using hg),if_neg hg]
   exact gap_l0 K hK ns m (i+1) k g (by omega) (by omega)
theorem gap_ok (k:Nat) (ns:List Int):addr_gap.f (k+20) ns=some (((gapOf ns).1:Int),((gapOf ns).2:Int)):=by
 unfold addr_gap.f
 have:=gap_l0 (k+20) (by omega) ns 8 0 (k+20) (0,0) rfl (by omega)
 simp only [show ((0:Nat):Int)=0 from rfl] at this
 rw [this];rfl
theorem gapGo_ok (ns:List Int):∀ m i (g:Nat×Nat),i+m=8→(g.1+g.2≤8∧∀ j,j < g.2→ar ns (g.1+j)=0)→((gapGo ns m i g).1+(gapGo ns m i g).2≤8∧∀ j,j < (gapGo ns m i g).2→ar ns ((gapGo ns m i g).1+j)=0)
 | 0,_,_,_,h=>h
 | m+1,i,g,hi,h=>by
  rw [gapGo]
  refine gapGo_ok ns m (i+1) _ (by omega) ?_
  split
  ·have:=zr_le ns (8 - i) i
   exact ⟨by simp only;omega,zr_zero ns (8 - i) i⟩
  ·exact h
theorem gapOf_ok (ns:List Int):(gapOf ns).1+(gapOf ns).2≤8∧∀ j,j < (gapOf ns).2→ar ns ((gapOf ns).1+j)=0:=gapGo_ok ns 8 0 (0,0) rfl ⟨by decide,fun j h=>absurd h (Nat.not_lt_zero _)⟩
theorem digs:∀ d:Fin 16,([48,49,50,51,52,53,54,55,56,57,97,98,99,100,101,102,103,104,105,106,107,108,109,110,111,112,113,114,115,116,117,118,119,120,121,122]:List UInt8).getD d.val 0=dgt d.val:=by decide
theorem and15 (u:Nat) (hu:u < 65536):IntKind.u64.wrap (BitVec.ofInt IntKind.u64.bits (u:Int) &&& BitVec.ofInt IntKind.u64.bits (IntKind.u64.wrap ((IntKind.u64.wrap 16) - (1:Int)))).toNat=((u % 16:Nat):Int):=by
 rw [BitVec.toNat_and,BitVec.toNat_ofInt,BitVec.toNat_ofInt]
 have e:IntKind.u64.bits=64:=rfl
 have h1:((u:Int) % ((2^64:Nat):Int)).toNat=u:=by omega
 have h2:(IntKind.u64.wrap ((IntKind.u64.wrap 16) - (1:Int)) % ((2^64:Nat):Int)).toNat=2^4 - 1:=by decide
 rw [e,h1,h2,Nat.and_two_pow_sub_one_eq_mod,IntKind.wrap_u64]
 omega
theorem fb_stop (k u:Nat) (i:Int) (arr:List Int) (hu:u < 16):strconv_formatBits.l0 16 4 (k+1) (u:Int) i arr=some ((u:Int),i,arr):=by
 have e:IntKind.u64.wrap 16=16:=by decide
 rw [strconv_formatBits.l0,e,if_neg (by simp;omega)]
theorem fb_step (k u i:Nat) (arr:List Int) (hu:u < 65536) (h:16≤u) (hi:1≤i) (hi2:i≤65) :
  strconv_formatBits.l0 16 4 (k+1) (u:Int) (i:Int) arr=strconv_formatBits.l0 16 4 k ((u / 16:Nat):Int) ((i - 1:Nat):Int) ((arL 65 arr).set (i - 1) ((dgt (u % 16)).toNat:Int)):=by
 have e:IntKind.u64.wrap 16=16:=by decide
 have e4:IntKind.u64.wrap 4=4:=by decide
 have ei:IntKind.i64.wrap ((i:Int) - 1)=((i - 1:Nat):Int):=by rw [w64 _ (by omega)];omega
 have eu:Int.fdiv (u:Int) (2^(min (Int.toNat 4) IntKind.u64.bits))=((u / 16:Nat):Int):=by
  have:((2:Int)^(min (Int.toNat 4) IntKind.u64.bits))=16:=rfl
  rw [this,Int.fdiv_eq_ediv_of_nonneg _ (by omega)];omega
 have hd:=digs ⟨u % 16,Nat.mod_lt _ (by decide)⟩
 simp only at hd
 rw [strconv_formatBits.l0,and15 u hu,ei,e4,eu,e,if_pos (by simp;omega),if_pos (by simp;omega),if_pos (by omega),if_pos (by omega),Int.toNat_natCast,Int.toNat_natCast,hd]
theorem set_drop (l:List Int) (i:Nat) (c:Int) (h:i < l.length):(l.set i c).drop i=c::l.drop (i+1):=by
 rw [List.drop_eq_getElem_cons (by simpa using h)]
 simp [List.drop_set]
theorem arL65 {l:List Int} (h:l.length=65):arL 65 l=l:=by have:=arL_self l;rwa [h] at this
theorem ofDgt (d:Nat):UInt8.ofNat (((dgt d).toNat:Int)).toNat=dgt d:=by simp
theorem fb_all:∀ (u k i:Nat) (arr:List Int),u < 65536→arr.length=65→(numD 16 u).length≤i→i≤65→(numD 16 u).length≤k →
  ∃ (u' i':Nat) (arr':List Int),strconv_formatBits.l0 16 4 k (u:Int) (i:Int) arr=some ((u':Int),(i':Int),arr')∧u' < 16∧1≤i'∧i'≤65∧arr'.length=65∧dgt u'::b2s (arr'.drop i')=numD 16 u++b2s (arr.drop i):=by
 intro u
 induction u using Nat.strongRecOn with
 | ind u ih =>
  intro k i arr hu hl hi hi2 hk
  have h1:=numD_len (base:=16) (by decide) u
  obtain ⟨k,rfl⟩:∃ k',k=k'+1:=⟨k - 1,by omega⟩
  by_cases hs:u < 16
  ·exact ⟨u,i,arr,fb_stop k u i arr hs,hs,by omega,hi2,hl,by rw [numD_small hs];rfl⟩
  ·have hb:=numD_big (base:=16) (u:=u) (by omega) (by decide)
   have hbl:(numD 16 u).length=(numD 16 (u / 16)).length+1:=by rw [hb];simp
   rw [fb_step k u i arr hu (by omega) (by omega) hi2,arL65 hl]
   obtain ⟨u',i',arr',h2,h3,h4,h5,h6,h7⟩:=ih (u / 16) (by omega) k (i - 1) (arr.set (i - 1) ((dgt (u % 16)).toNat:Int)) (by omega) (by simpa using hl) (by omega) (by omega) (by omega)
   refine ⟨u',i',arr',h2,h3,h4,h5,h6,?_⟩
   rw [h7,set_drop _ _ _ (by omega),hb,show i - 1+1=i by omega]
   simp only [b2s,List.map_cons,ofDgt,List.append_assoc,List.singleton_append]
theorem numD16_len (u:Nat) (h:u < 65536):(numD 16 u).length≤4:=by
 have n1:∀ v,v < 16→(numD 16 v).length≤1:=fun v hv=>by rw [numD_small hv];simp
 have step:∀ v,(numD 16 v).length≤(numD 16 (v / 16)).length+1:=fun v=>by
  by_cases hv:v < 16
  ·have:=n1 v hv;omega
  ·rw [numD_big (base:=16) (u:=v) (by omega) (by decide)];simp
 have a:=step u;have b:=step (u / 16);have c:=step (u / 16 / 16);have d:=n1 (u / 16 / 16 / 16) (by omega)
 omega
theorem hex_ok (k u:Nat) (h:u < 65536):strconv_FormatInt_159.f (k+80) (u:Int) 16=some (numD 16 u):=by
 unfold strconv_FormatInt_159.f strconv_FormatInt.f strconv_formatBits.f
 have e0:IntKind.u64.wrap (u:Int)=(u:Int):=by rw [IntKind.wrap_u64];omega
 have p2:strconv_isPowerOfTwo.f 16=some true:=by kernel_rfl
 have tz:bits_TrailingZeros.f (IntKind.u64.wrap 16)=some 4:=by kernel_rfl
 have hl:=numD16_len u h
 obtain ⟨u',i',arr',h2,h3,h4,h5,h6,h7⟩:=fb_all u (k+80) 65 (List.replicate 65 (0:Int)) h (by simp) (by omega) (Nat.le_refl _) (by omega)
 have ei:IntKind.i64.wrap ((i':Int) - 1)=((i' - 1:Nat):Int):=by rw [w64 _ (by omega)];omega
 have hd:=digs ⟨u',h3⟩
 simp only at hd
 simp only [show ((65:Nat):Int)=65 from rfl] at h2
 rw [if_neg (by decide),e0,if_neg (by decide),decide_eq_false (by omega:¬ (u:Int) < 0),if_neg (by decide),Option.bind_some,p2,Option.bind_some,if_pos rfl,tz,Option.bind_some,h2,Option.bind_some]
 simp only [ei]
 rw [if_pos (by simp;omega),if_pos (by omega),Option.bind_some,if_neg (by decide),Option.bind_some,if_neg (by decide),Int.toNat_natCast,Int.toNat_natCast,hd]
 simp only [Int.toNat_natCast]
 rw [if_pos (by omega),Option.bind_some,Option.bind_some,arL65 h6,arL65 (by simpa using h6),List.take_of_length_le (by simp [h6]),set_drop _ _ _ (by omega),show i' - 1+1=i' by omega]
 simp only [b2s,List.map_cons,ofDgt] at h7 ⊢
 rw [h7]
 simp
/-! written with colons -/
def hexs (ns:List Int):List (List UInt8):=ns.map fun n=>numD 16 n.toNat
def is16 (ns:List Int):Prop:=∀ n∈ns,0≤n∧n < 65536
def wr (ns:List Int):List UInt8:=txtL 16 58 (ns.map Int.toNat)
theorem join_txtL (base:Nat) (sep:UInt8):∀ us:List Nat,Lib.join (us.map (numD base)) [sep]=txtL base sep us
 | []=>rfl
 | [u]=>by simp [Lib.join,List.intercalate,txtL]
 | u::v::us=>by
  have:=join_txtL base sep (v::us)
  simp only [Lib.join,List.intercalate,List.map_cons] at this ⊢
  rw [txtL,← this]
  simp [List.intersperse]
theorem join_wr (ns:List Int):Lib.join (hexs ns) [58]=wr ns:=by
 have:=join_txtL 16 58 (ns.map Int.toNat)
 rw [List.map_map] at this
 exact this
theorem txt_len (base:Nat) (sep:UInt8) (b:Nat):∀ us:List Nat,(∀ u∈us,(numD base u).length≤b)→(txtL base sep us).length≤us.length*(b+1)
 | [],_=>Nat.zero_le _
 | [u],h=>by have:=h u (by simp);simp only [txtL,List.length_singleton];omega
 | u::v::us,h=>by
  have h1:=h u (by simp)
  have h2:=txt_len base sep b (v::us) (fun x hx=>h x (by simp at hx ⊢;right;exact hx))
  simp only [txtL,List.length_append,List.length_cons] at h2 ⊢
  have:(us.length+1+1)*(b+1)=(us.length+1)*(b+1)+(b+1):=by rw [Nat.add_mul];omega
  omega
theorem wr_len (ns:List Int) (h:is16 ns):(wr ns).length≤ns.length*5:=by
 have:=txt_len 16 58 4 (ns.map Int.toNat) (fun u hu=>by
  obtain ⟨n,hn,rfl⟩:=List.mem_map.1 hu
  have:=h n hn
  exact numD16_len _ (by omega))
 simpa [wr] using this
theorem written_go (K:Nat) (ns:List Int) (h:is16 ns) (hl:ns.length≤100):∀ (m i k:Nat) (out:List (List UInt8)),i+m=ns.length→m < k→out.length≤i→addr_written.l0 (K+80) ns k out (i:Int)=some (out++hexs (ns.drop i))
 | 0,i,k,out,hi,hk,_=>by
  obtain ⟨k,rfl⟩:∃ k',k=k'+1:=⟨k - 1,by omega⟩
  rw [addr_written.l0,if_neg (by simp;omega),List.drop_of_length_le (by omega)]
  simp [hexs]
 | m+1,i,k,out,hi,hk,ho=>by
  obtain ⟨k,rfl⟩:∃ k',k=k'+1:=⟨k - 1,by omega⟩
  have e3:IntKind.i64.wrap ((i:Int)+1)=((i+1:Nat):Int):=by rw [w64 _ (by omega)];omega
  have hil:i < ns.length:=by omega
  have hx:=h ns[i] (List.getElem_mem hil)
  have hh:=hex_ok K ns[i].toNat (by omega)
  rw [show ((ns[i].toNat:Nat):Int)=ns[i] by omega] at hh
  rw [addr_written.l0,if_pos (by simp;omega),if_pos (by omega),rd_at _ _ hil,hh,Option.bind_some,if_pos (by simp;omega),e3,written_go K ns h hl m (i+1) k _ (by omega) (by omega) (by simp;omega),List.drop_eq_getElem_cons hil]
  simp only [hexs,List.map_cons,List.append_assoc,List.singleton_append]
theorem written_ok (k:Nat) (ns:List Int) (h:is16 ns) (hl:ns.length≤100):addr_written.f (k+120) ns=some (wr ns):=by
 unfold addr_written.f
 have:=written_go (k+40) ns h hl ns.length 0 (k+40+80) [] (by omega) (by omega) (Nat.zero_le _)
 rw [show k+40+80=k+120 by omega,show ((0:Nat):Int)=0 from rfl,List.nil_append,List.drop_zero] at this
 rw [this,Option.bind_some]
 unfold strings_Join.f
 have h2:=wr_len ns h
 rw [join_wr,if_pos ⟨by simp [hexs];omega,by omega⟩];rfl
def txt6 (l:List Int):List UInt8 :=
 let g:=gapOf (nums l)
 if g.2 < 2 then wr (nums l) else wr ((nums l).take g.1)++58::58::wr ((nums l).drop (g.1+g.2))
theorem nums16 {l:List Int} (h:isB l):is16 (nums l):=by
 intro n hn
 simp only [nums,List.mem_cons,List.not_mem_nil,or_false] at hn
 rcases hn with rfl | rfl | rfl | rfl | rfl | rfl | rfl | rfl<;>exact n16_lt h _
theorem is16.sub {x y:List Int} (h:is16 x) (hs:∀ n∈y,n∈x):is16 y:=fun n hn=>h n (hs n hn)
theorem nums_len (l:List Int):(nums l).length=8:=rfl
theorem arL8n (l:List Int):arL 8 (nums l)=nums l:=by have:=arL_self (nums l);rwa [nums_len] at this
theorem text6_ok (k:Nat) (a:S_api_Addr) (hB:isB a.B):addr_text6.f (k+120) a=some (txt6 a.B):=by
 unfold addr_text6.f
 have h1:=numbers_ok (k+100) a hB
 have h2:=gap_ok (k+100) (nums a.B)
 have h3:=gapOf_ok (nums a.B)
 have h16:=nums16 hB
 have ht:is16 ((nums a.B).take (gapOf (nums a.B)).1):=h16.sub fun n hn=>List.mem_of_mem_take hn
 have hd:is16 ((nums a.B).drop ((gapOf (nums a.B)).1+(gapOf (nums a.B)).2)):=h16.sub fun n hn=>List.mem_of_mem_drop hn
 have l1:=wr_len _ ht
 have l2:=wr_len _ hd
 simp only [List.length_take,List.length_drop,nums_len] at l1 l2
 have e1:IntKind.i64.wrap (((gapOf (nums a.B)).1:Int)+((gapOf (nums a.B)).2:Int))=(((gapOf (nums a.B)).1+(gapOf (nums a.B)).2:Nat):Int):=by rw [w64 _ (by omega)];omega
 rw [h1,Option.bind_some,h2,Option.bind_some,arL8n]
 simp only
 unfold txt6
 by_cases hg:(gapOf (nums a.B)).2 < 2
 ·rw [if_pos (by simp;omega),if_pos hg,written_ok k _ h16 (by rw [nums_len];decide)];rfl
 ·rw [if_neg (by simp;omega),if_neg hg,if_pos (by omega),Int.toNat_natCast,show Int.toNat 0=0 from rfl,List.drop_zero,written_ok k _ ht (by simp [nums_len];omega),Option.bind_some,if_pos (by simp;omega),e1,if_pos (by omega),Int.toNat_natCast,List.take_of_length_le (by rw [nums_len];decide),written_ok k _ hd (by simp [nums_len];omega),Option.bind_some,if_pos (by simp;omega)]
  simp
theorem txt6_len {l:List Int} (hB:isB l):(txt6 l).length≤100:=by
 have h16:=nums16 hB
 have h3:=gapOf_ok (nums l)
 have ht:is16 ((nums l).take (gapOf (nums l)).1):=h16.sub fun n hn=>List.mem_of_mem_take hn
 have hd:is16 ((nums l).drop ((gapOf (nums l)).1+(gapOf (nums l)).2)):=h16.sub fun n hn=>List.mem_of_mem_drop hn
 have l0:=wr_len _ h16
 have l1:=wr_len _ ht
 have l2:=wr_len _ hd
 simp only [List.length_take,List.length_drop,nums_len] at l0 l1 l2
 unfold txt6
 simp only
 by_cases hg:(gapOf (nums l)).2 < 2
 ·rw [if_pos hg];omega
 ·rw [if_neg hg];simp;omega
theorem numD_char {base:Nat} (hb:base≤16) (hb2:2≤base):∀ u,∀ c∈numD base u,(48≤c.toNat∧c.toNat≤57)∨(97≤c.toNat∧c.toNat≤102):=by
 have one:∀ d,d < 16→(48≤(dgt d).toNat∧(dgt d).toNat≤57)∨(97≤(dgt d).toNat∧(dgt d).toNat≤102):=fun d hd=>by
  rw [dgt_toNat hd];split<;>omega
 intro u
 induction u using Nat.strongRecOn with
 | ind u ih =>
  intro c hc
  by_cases hs:u < base
  ·rw [numD_small hs] at hc
   rw [List.mem_singleton.1 hc];exact one u (by omega)
  ·rw [numD_big (by omega) hb2] at hc
   rcases List.mem_append.1 hc with h | h
   ·exact ih (u / base) (Nat.div_lt_self (by omega) (by omega)) c h
   ·rw [List.mem_singleton.1 h];exact one _ (by have:=Nat.mod_lt u (show 0 < base by omega);omega)
theorem numD_free {base:Nat} (hb:base≤16) (hb2:2≤base) (u:Nat) (c:UInt8) (hc:c.toNat < 48∨c.toNat=58∨102 < c.toNat):c∉numD base u:=fun h=>by
 have:=numD_char hb hb2 u c h
 omega
theorem numD_ne {base:Nat} (hb2:2≤base) (u:Nat):numD base u≠[]:=fun e=>by
 have:=numD_len hb2 u
 rw [e] at this;simp at this
theorem txtL_head {base:Nat} (hb:base≤16) (hb2:2≤base) (sep:UInt8) (c:UInt8) (hc:c.toNat < 48∨c.toNat=58∨102 < c.toNat) (u:Nat) (us:List Nat):txtL base sep (u::us)≠[]∧(txtL base sep (u::us)).head? ≠ some c:=by
 have h1:=numD_ne hb2 u
 have h2:=numD_free hb hb2 u c hc
 have key:∀ r,(numD base u++r)≠[]∧(numD base u++r).head? ≠ some c:=fun r=>by
  obtain ⟨x,xs,e⟩:=List.exists_cons_of_ne_nil h1
  rw [e] at h2 ⊢
  exact ⟨by simp,by simp;exact fun e=>h2 (by simp [e])⟩
 cases us with
 | nil=>have:=key [];rwa [List.append_nil] at this
 | cons v us=>exact key _
theorem noDbl_wr:∀ us:List Nat,noDbl (txtL 16 58 us)=true
 | []=>rfl
 | [u]=>noDbl_free (numD_free (by decide) (by decide) u 58 (by decide))
 | u::v::us=>by
  have h:=txtL_head (base:=16) (by decide) (by decide) 58 58 (by decide) v us
  exact noDbl_app _ _ (numD_ne (by decide) u) (numD_free (by decide) (by decide) u 58 (by decide)) h.1 h.2 (noDbl_wr (v::us))
theorem txtL_free {base:Nat} (hb:base≤16) (hb2:2≤base) (sep:UInt8) (c:UInt8) (hc:c.toNat < 48∨c.toNat=58∨102 < c.toNat) (hs:c≠sep):∀ us:List Nat,c∉txtL base sep us
 | []=>by simp [txtL]
 | [u]=>numD_free hb hb2 u c hc
 | u::v::us=>by
  have h1:=numD_free hb hb2 u c hc
  have h2:=txtL_free hb hb2 sep c hc hs (v::us)
  rw [txtL]
  simp [h1,h2,hs]
/-! what parts says of any text -/
def curT (base:Nat) (v:Int):List UInt8:=if v < 0 then [] else numD base v.toNat
def isHex (c:UInt8):Prop:=(48≤c.toNat∧c.toNat≤57)∨(97≤c.toNat∧c.toNat≤102)
theorem digV_some {c base d:Nat} (h:digV c base=some d) (hb:base≤16):d < base∧c=(if d < 10 then 48+d else 87+d)∧c < 128∧((48≤c∧c≤57)∨(97≤c∧c≤102)):=by
 unfold digV at h
 by_cases h1:48≤c∧c≤57
 ·rw [if_pos h1] at h
  by_cases h2:c - 48 < base
  ·rw [if_pos h2] at h
   obtain rfl:=Option.some.inj h
   refine ⟨h2,?_,by omega,.inl h1⟩
   rw [if_pos (by omega)];omega
  ·rw [if_neg h2] at h;cases h
 ·rw [if_neg h1] at h
  by_cases h3:97≤c∧c≤102
  ·rw [if_pos h3] at h
   by_cases h2:c - 87 < base
   ·rw [if_pos h2] at h
    obtain rfl:=Option.some.inj h
    refine ⟨h2,?_,by omega,.inr h3⟩
    rw [if_neg (by omega)];omega
   ·rw [if_neg h2] at h;cases h
  ·rw [if_neg h3] at h;cases h
theorem dec_low (s:List UInt8) (p:Nat) (h:p < s.length) (hc:(dec s p).1 < 128):dec s p=((s[p]).toNat,1)∧(s[p]).toNat < 128:=by
 by_cases ha:(s[p]).toNat < 128
 ·exact ⟨dec_ascii s p h ha,ha⟩
 ·exact absurd (dec_high s p h (by omega)).1 (by omega)
theorem dgt_of {x:UInt8} {d:Nat} (hd:d < 16) (h:x.toNat=(if d < 10 then 48+d else 87+d)):x=dgt d:=UInt8.toNat_inj.1 (by rw [h,dgt_toNat hd])
theorem cur_next (base d:Nat) (v:Int) (hb2:2≤base) (hd:d < base) (hv:-1≤v) (h0:v≠0):curT base (nextN v base d)=curT base v++[dgt d]:=by
 unfold curT nextN
 by_cases h:v < 0
 ·rw [if_pos h,if_neg (by simp [h]),if_pos h,show ((0:Int)*base+d).toNat=d by omega,numD_small hd];rfl
 ·rw [if_neg h,if_neg h]
  obtain ⟨u,rfl⟩:=Int.eq_ofNat_of_zero_le (show 0≤v by omega)
  have e:((u:Int)*base+d)=((u*base+d:Nat):Int):=by push_cast;rfl
  have hu:1≤u:=by omega
  have hge:base≤u*base:=Nat.le_mul_of_pos_left base hu
  rw [e,if_neg (by omega),Int.toNat_natCast,Int.toNat_natCast,numD_big (by omega) hb2]
  have q1:(u*base+d) / base=u:=by rw [Nat.mul_comm,Nat.mul_add_div (by omega),Nat.div_eq_of_lt hd,Nat.add_zero]
  have q2:(u*base+d) % base=d:=by rw [Nat.mul_comm,Nat.mul_add_mod,Nat.mod_eq_of_lt hd]
  rw [q1,q2]
theorem drop_cons (s:List UInt8) (p:Nat) (h:p < s.length):s.drop p=s[p]::s.drop (p+1):=List.drop_eq_getElem_cons h
theorem parts_inv (s:List UInt8) (sep:UInt8) (base limit:Nat) (hsep:sep.toNat < 128) (hb2:2≤base) (hb:base≤16) (hl:limit≤65536) (hl0:1≤limit) :
  ∀ (n k:Nat) (out:List Int) (v:Int) (p:Nat),s.length - p≤n→n < k→out.length+(s.length - p)≤10000000→-1≤v→v < limit →
   ∃ r,addr_parts.l0 s (sep.toNat:Int) (base:Int) (limit:Int) k (out++[v]) p=some r ∧
    (r=.inl ([],false)∨∃ (d:List Int) (x:Int) (p':Nat),r=.inr (out++(d++[x]),p')∧d.length≤s.length - p∧(∀ y∈d++[x],-1≤y∧y < limit) ∧
     (d=[]→curT base x=curT base v++s.drop p)∧∀ c∈s.drop p,c=sep∨isHex c):=by
 intro n
 induction n with
 | zero =>
  intro k out v p hn hk ho hv hv2
  obtain ⟨k,rfl⟩:∃ k',k=k'+1:=⟨k - 1,by omega⟩
  have hd:s.drop p=[]:=List.drop_of_length_le (by omega)
  refine ⟨.inr (out++[v],p),by rw [addr_parts.l0,if_neg (by omega)],.inr ⟨[],v,p,by simp,by simp,by simpa using ⟨hv,hv2⟩,fun _=>by rw [hd,List.append_nil],fun c hc=>by rw [hd] at hc;cases hc⟩⟩
 | succ n ih =>
  intro k out v p hn hk ho hv hv2
  obtain ⟨k,rfl⟩:∃ k',k=k'+1:=⟨k - 1,by omega⟩
  by_cases hp:p < s.length
  ·rw [parts_step s sep.toNat base limit hb hl k out v p hp (by omega) ⟨hv,by omega⟩ (by omega)]
   by_cases h1:(dec s p).1=sep.toNat
   ·obtain ⟨q1,q2⟩:=dec_low s p hp (by omega)
    rw [if_pos h1,q1]
    have hs:s[p]=sep:=UInt8.toNat_inj.1 (by rw [q1] at h1;exact h1)
    obtain ⟨r,hr,hx⟩:=ih k (out++[v]) (-1) (p+1) (by omega) (by omega) (by simp;omega) (by omega) (by omega)
    refine ⟨r,hr,hx.imp id ?_⟩
    rintro ⟨d,x,p',e,hd,hy,_,hc⟩
    refine ⟨v::d,x,p',by rw [e];simp,by simp;omega,?_,fun h=>by simp at h,fun c hc'=>?_⟩
    ·intro y hy'
     rcases List.mem_cons.1 (by simpa using hy':y∈v::(d++[x])) with rfl | h
     ·exact ⟨hv,hv2⟩
     ·exact hy y h
    ·rw [drop_cons s p hp] at hc'
     rcases List.mem_cons.1 hc' with rfl | h
     ·exact .inl hs
     ·exact hc c h
   ·rw [if_neg h1]
    cases hdv:digV (dec s p).1 base with
    | none=>exact ⟨_,rfl,.inl rfl⟩
    | some d =>
     obtain ⟨g1,g2,g3,g4⟩:=digV_some hdv hb
     obtain ⟨q1,q2⟩:=dec_low s p hp g3
     simp only
     by_cases h2:(limit:Int)≤nextN v base d∨v=0
     ·rw [if_pos h2];exact ⟨_,rfl,.inl rfl⟩
     ·rw [if_neg h2,q1]
      rw [q1] at g2 g4
      simp only at g2 g4
      have hv0:v≠0:=fun e=>h2 (.inr e)
      have hlt:nextN v base d < limit:=by
       by_cases h3:(limit:Int)≤nextN v base d
       ·exact absurd (.inl h3) h2
       ·omega
      have hge:-1≤nextN v base d:=by
       have:0≤(if v < 0 then (0:Int) else v)*base:=Int.mul_nonneg (by split<;>omega) (by omega)
       unfold nextN;omega
      obtain ⟨r,hr,hx⟩:=ih k out (nextN v base d) (p+1) (by omega) (by omega) (by omega) hge hlt
      refine ⟨r,hr,hx.imp id ?_⟩
      rintro ⟨d',x,p',e,hd,hy,ht,hc⟩
      refine ⟨d',x,p',e,by omega,hy,fun h=>?_,fun c hc'=>?_⟩
      ·rw [ht h,cur_next base d v hb2 g1 hv hv0,drop_cons s p hp,dgt_of (by omega) g2]
       simp
      ·rw [drop_cons s p hp] at hc'
       rcases List.mem_cons.1 hc' with rfl | h
       ·exact .inr g4
       ·exact hc c h
  ·have hd:s.drop p=[]:=List.drop_of_length_le (by omega)
   refine ⟨.inr (out++[v],p),by rw [addr_parts.l0,if_neg hp],.inr ⟨[],v,p,by simp,by simp,by simpa using ⟨hv,hv2⟩,fun _=>by rw [hd,List.append_nil],fun c hc=>by rw [hd] at hc;cases hc⟩⟩
theorem parts_any (k:Nat) (s:List UInt8) (sep:UInt8) (base limit:Nat) (hsep:sep.toNat < 128) (hb2:2≤base) (hb:base≤16) (hl:limit≤65536) (hl0:1≤limit) (hs:s.length≤10000000) (hk:s.length < k) :
  addr_parts.f k s (sep.toNat:Int) (base:Int) (limit:Int)=some ([],false)∨∃ (d:List Int) (x:Int),addr_parts.f k s (sep.toNat:Int) (base:Int) (limit:Int)=some (d++[x],true)∧d.length≤s.length∧(∀ y∈d++[x],-1≤y∧y < limit)∧(d=[]→curT base x=s)∧∀ c∈s,c=sep∨isHex c:=by
 obtain ⟨r,hr,hx⟩:=parts_inv s sep base limit hsep hb2 hb hl hl0 s.length k [] (-1) 0 (Nat.sub_le _ _) hk (by simp;omega) (by omega) (by omega)
 unfold addr_parts.f
 rw [List.nil_append] at hr
 rw [hr,Option.bind_some]
 rcases hx with rfl | ⟨d,x,p',rfl,h1,h2,h3,h4⟩
 ·exact .inl rfl
 ·refine .inr ⟨d,x,by simp,by omega,h2,fun e=>?_,by simpa using h4⟩
  have:=h3 e
  simpa [curT] using this
/-! an address of sixteen bytes, read -/
theorem half_go (t:List Int×Bool) (hl:t.1.length≤1000):∀ (m i k:Nat),i+m=t.1.length→m < k→∃ r,addr_half.l0 t k (i:Int)=some r∧(r=.inl ([],false)∧(∃ y∈t.1.drop i,y < 0)∨r=.inr ()∧∀ y∈t.1.drop i,0≤y)
 | 0,i,k,hi,hk=>by
  obtain ⟨k,rfl⟩:∃ k',k=k'+1:=⟨k - 1,by omega⟩
  refine ⟨.inr (),by rw [addr_half.l0,if_neg (by simp;omega)],.inr ⟨rfl,fun y hy=>?_⟩⟩
  rw [List.drop_of_length_le (by omega)] at hy;cases hy
 | m+1,i,k,hi,hk=>by
  obtain ⟨k,rfl⟩:∃ k',k=k'+1:=⟨k - 1,by omega⟩
  have hil:i < t.1.length:=by omega
  have e3:IntKind.i64.wrap ((i:Int)+1)=((i+1:Nat):Int):=by rw [w64 _ (by omega)];omega
  rw [addr_half.l0,if_pos (by simp;omega),if_pos (by omega),rd_at _ _ hil,e3,List.drop_eq_getElem_cons hil]
  by_cases h0:t.1[i] < 0
  ·rw [if_pos (by simpa using h0)]
   exact ⟨_,rfl,.inl ⟨rfl,_,List.mem_cons_self,h0⟩⟩
  ·rw [if_neg (by simpa using h0)]
   obtain ⟨r,hr,hx⟩:=half_go t hl m (i+1) k (by omega) (by omega)
   refine ⟨r,hr,hx.imp (fun ⟨h1,y,hy,hy0⟩=>⟨h1,y,List.mem_cons_of_mem _ hy,hy0⟩) fun ⟨h1,h2⟩=>⟨h1,fun y hy=>?_⟩⟩
   rcases List.mem_cons.1 hy with rfl | h
   ·omega
   ·exact h2 y h
theorem half_any (k:Nat) (s:List UInt8) (hs:s.length≤10000000) (hk:s.length+1000 < k):∃ l ok,addr_half.f k s=some (l,ok)∧(ok=false∧l=[]∨ok=true∧l.length≤8∧is16 l):=by
 unfold addr_half.f
 rw [bstr_toList,bstr_toList]
 by_cases h0:s=[]
 ·rw [if_pos (by simpa using h0)];exact ⟨_,_,rfl,.inr ⟨rfl,by simp,fun n h=>nomatch h⟩⟩
 ·rw [if_neg (by simpa using h0)]
  rcases parts_any k s 58 16 65536 (by decide) (by decide) (by decide) (by decide) (by decide) hs (by omega) with h | ⟨d,x,h,h1,h2,_,_⟩
  ·rw [show (58:Int)=(((58:UInt8).toNat:Nat):Int) from rfl,show (16:Int)=((16:Nat):Int) from rfl,show (65536:Int)=((65536:Nat):Int) from rfl,h,Option.bind_some,if_pos (by simp)]
   exact ⟨_,_,rfl,.inl ⟨rfl,rfl⟩⟩
  ·rw [show (58:Int)=(((58:UInt8).toNat:Nat):Int) from rfl,show (16:Int)=((16:Nat):Int) from rfl,show (65536:Int)=((65536:Nat):Int) from rfl,h,Option.bind_some]
   by_cases hl:8 < (d++[x]).length
   ·rw [if_pos (by simp at hl ⊢;omega)]
    exact ⟨_,_,rfl,.inl ⟨rfl,rfl⟩⟩
   ·rw [if_neg (by simp at hl ⊢;omega)]
    obtain ⟨r,hr,hx⟩:=half_go (d++[x],true) (by simp at hl ⊢;omega) (d++[x]).length 0 k (by simp) (by simp at hl ⊢;omega)
    rw [show ((0:Nat):Int)=0 from rfl] at hr
    rw [hr,Option.bind_some]
    rcases hx with ⟨rfl,_⟩ | ⟨rfl,h3⟩
    ·exact ⟨_,_,rfl,.inl ⟨rfl,rfl⟩⟩
    ·refine ⟨d++[x],true,rfl,.inr ⟨rfl,by omega,fun n hn=>?_⟩⟩
     have:=h2 n hn;have:=h3 n (by simpa using hn)
     omega
theorem is16_nat {ns:List Int} (h:is16 ns):(ns.map Int.toNat).map (fun u:Nat=>(u:Int))=ns:=by
 rw [List.map_map]
 conv=>rhs;rw [← List.map_id ns]
 exact List.map_congr_left fun n hn=>by have:=h n hn;simp;omega
theorem half_ok (k:Nat) (ns:List Int) (h:is16 ns) (hl:ns.length≤8) (hk:1000≤k):addr_half.f k (wr ns)=some (ns,true):=by
 unfold addr_half.f
 rw [bstr_toList,bstr_toList]
 by_cases h0:ns=[]
 ·subst h0;rw [if_pos (by decide)]
 ·obtain ⟨x,xs,rfl⟩:=List.exists_cons_of_ne_nil h0
  have hne:=(txtL_head (base:=16) (by decide) (by decide) 58 58 (by decide) x.toNat (xs.map Int.toNat)).1
  have hne':wr (x::xs)≠[]:=hne
  rw [if_neg (by simpa using hne')]
  have hlen:=wr_len (x::xs) h
  have hp:=parts_f k 58 16 65536 (by decide) (by decide) (by decide) (by decide) ((x::xs).map Int.toNat) (by simp) (by simp at hl ⊢;omega) (fun u hu=>by
   obtain ⟨n,hn,rfl⟩:=List.mem_map.1 hu
   have:=h n hn;omega) (by unfold wr at hlen;omega)
  rw [is16_nat h] at hp
  rw [show (58:Int)=(((58:UInt8).toNat:Nat):Int) from rfl,show (16:Int)=((16:Nat):Int) from rfl,show (65536:Int)=((65536:Nat):Int) from rfl]
  unfold wr
  rw [hp,Option.bind_some,if_neg (by simp at hl ⊢;omega)]
  obtain ⟨r,hr,hx⟩:=half_go (x::xs,true) (by simp at hl ⊢;omega) (x::xs).length 0 k (by simp) (by simp at hl ⊢;omega)
  rw [show ((0:Nat):Int)=0 from rfl] at hr
  rw [hr,Option.bind_some]
  rcases hx with ⟨rfl,y,hy,hy0⟩ | ⟨rfl,h3⟩
  ·have:=h y (by simpa using hy);omega
  ·rfl
def putTo (b:List Int) (at_:Nat) (l:List Int) (i:Nat):List Int:=(List.range 16).map fun j=>if at_≤j / 2∧j / 2 < at_+i then (if j % 2=0 then l.getD (j / 2 - at_) 0 / 256 else l.getD (j / 2 - at_) 0 % 256) else ar b j
theorem putTo_len (b:List Int) (a:Nat) (l:List Int) (i:Nat):(putTo b a l i).length=16:=by simp [putTo]
theorem putTo_ar (b:List Int) (a:Nat) (l:List Int) (i j:Nat) (hj:j < 16):ar (putTo b a l i) j=if a≤j / 2∧j / 2 < a+i then (if j % 2=0 then l.getD (j / 2 - a) 0 / 256 else l.getD (j / 2 - a) 0 % 256) else ar b j:=by
 rw [ar_at _ _ (by rw [putTo_len];exact hj)]
 simp [putTo]
theorem ar_ext {x y:List Int} (hx:x.length=16) (hy:y.length=16) (h:∀ j,j < 16→ar x j=ar y j):x=y:=by
 apply List.ext_getElem
 ·omega
 ·intro j h1 h2
  have:=h j (by omega)
  rwa [ar_at _ _ h1,ar_at _ _ h2] at this
theorem arL16 {x:List Int} (hx:x.length=16):arL 16 x=x:=by have:=arL_self x;rwa [hx] at this
theorem ar_setD (x:List Int) (i j:Nat) (v:Int) (hi:i < x.length):ar (x.set i v) j=if j=i then v else ar x j:=by
 unfold ar
 simp only [List.getD_eq_getElem?_getD,List.getElem?_set]
 by_cases e:i=j
 ·subst e;simp [hi]
 ·simp [e];exact fun hh=>absurd hh.symm e
theorem u8_div (n:Int) (h:0≤n∧n < 65536):IntKind.u8.wrap (Int.fdiv n (2^(min (8:Int).toNat IntKind.i64.bits)))=n / 256∧IntKind.u8.wrap n=n % 256:=by
 have e:((2:Int)^(min (8:Int).toNat IntKind.i64.bits))=256:=rfl
 rw [e,Int.fdiv_eq_ediv_of_nonneg _ (by omega),IntKind.wrap_u8,IntKind.wrap_u8]
 omega
theorem put_go (b:List Int) (a:Nat) (l:List Int) (h:is16 l) (ha:a+l.length≤8):∀ (m i k:Nat) (x:List Int),i+m=l.length→m < k→x.length=16→x=putTo b a l i→addr_put6.l0 (a:Int) l k (i:Int) x=some (putTo b a l l.length)
 | 0,i,k,x,hi,hk,hx,e=>by
  obtain ⟨k,rfl⟩:∃ k',k=k'+1:=⟨k - 1,by omega⟩
  rw [addr_put6.l0,if_neg (by simp;omega),e,show i=l.length by omega]
 | m+1,i,k,x,hi,hk,hx,e=>by
  obtain ⟨k,rfl⟩:∃ k',k=k'+1:=⟨k - 1,by omega⟩
  have hil:i < l.length:=by omega
  have e0:IntKind.i64.wrap ((a:Int)+i)=((a+i:Nat):Int):=by rw [w64 _ (by omega)];omega
  have e1:IntKind.i64.wrap (2*((a+i:Nat):Int))=((2*(a+i):Nat):Int):=by rw [w64 _ (by omega)];omega
  have e2:IntKind.i64.wrap (((2*(a+i):Nat):Int)+1)=((2*(a+i)+1:Nat):Int):=by rw [w64 _ (by omega)];omega
  have e3:IntKind.i64.wrap ((i:Int)+1)=((i+1:Nat):Int):=by rw [w64 _ (by omega)];omega
  have hn:=h l[i] (List.getElem_mem hil)
  rw [addr_put6.l0,if_pos (by simp;omega),if_pos (by omega),e0,e1,e2,e3,if_pos (by omega),if_pos (by omega),rd_at _ _ hil,(u8_div _ hn).1,(u8_div _ hn).2,Int.toNat_natCast,Int.toNat_natCast,arL16 hx,arL16 (by simpa using hx)]
  refine put_go b a l h ha m (i+1) k _ (by omega) (by omega) (by simpa using hx) ?_
  refine ar_ext (by simpa using hx) (putTo_len _ _ _ _) fun j hj=>?_
  rw [ar_setD _ _ _ _ (by simp [hx];omega),ar_setD _ _ _ _ (by omega),e,putTo_ar _ _ _ _ _ hj,putTo_ar _ _ _ _ _ hj]
  by_cases h1:j=2*(a+i)+1
  ·rw [if_pos h1,if_pos (by omega),if_neg (by omega),show j / 2 - a=i by omega,List.getD_eq_getElem?_getD,List.getElem?_eq_getElem hil];rfl
  ·rw [if_neg h1]
   by_cases h2:j=2*(a+i)
   ·rw [if_pos h2,if_pos (by omega),if_pos (by omega),show j / 2 - a=i by omega,List.getD_eq_getElem?_getD,List.getElem?_eq_getElem hil];rfl
   ·rw [if_neg h2]
    by_cases h3:a≤j / 2∧j / 2 < a+i
    ·have h4:a≤j / 2∧j / 2 < a+(i+1):=by omega
     rw [if_pos h3,if_pos h4]
    ·have h4:¬ (a≤j / 2∧j / 2 < a+(i+1)):=by omega
     rw [if_neg h3,if_neg h4]
theorem put6_ok (k:Nat) (x:S_api_Addr) (hx:x.B.length=16) (a:Nat) (l:List Int) (h:is16 l) (ha:a+l.length≤8) (hk:20≤k):addr_put6.f k x (a:Int) l=some ⟨x.Size,putTo x.B a l l.length⟩:=by
 unfold addr_put6.f
 have:=put_go x.B a l h ha l.length 0 k x.B (by omega) (by omega) hx (ar_ext hx (putTo_len _ _ _ _) fun j hj=>by rw [putTo_ar _ _ _ _ _ hj,if_neg (by omega)])
 rw [show ((0:Nat):Int)=0 from rfl] at this
 rw [this];rfl
theorem putTo_isB {b:List Int} (hb:isB b) (a:Nat) (l:List Int) (h:is16 l):isB (putTo b a l l.length):=by
 intro y hy
 obtain ⟨j,hj,rfl⟩:=List.mem_iff_getElem.1 hy
 rw [putTo_len] at hj
 rw [← ar_at _ _ (by rw [putTo_len];exact hj),putTo_ar _ _ _ _ _ hj]
 split
 ·rename_i hh
  have hil:j / 2 - a < l.length:=by omega
  have hn:=h l[j / 2 - a] (List.getElem_mem hil)
  rw [List.getD_eq_getElem?_getD,List.getElem?_eq_getElem hil]
  simp only [Option.getD_some]
  split<;>omega
 ·exact ar_isB hb j
def join6 (l m:List Int):List Int:=putTo (putTo (List.replicate 16 0) 0 l l.length) (8 - m.length) m m.length
theorem zeros_isB:isB (List.replicate 16 (0:Int)):=fun y hy=>by rw [List.eq_of_mem_replicate hy];decide
theorem join6_isB (l m:List Int) (hl:is16 l) (hm:is16 m):isB (join6 l m)∧(join6 l m).length=16:=⟨putTo_isB (putTo_isB zeros_isB 0 l hl) _ m hm,putTo_len _ _ _ _⟩
theorem read6_cases (k:Nat) (s F G:List UInt8) (dbl:Bool) (l m:List Int) (o1 o2:Bool) (hs:s.length < 4294967281) (hc:Lib.cut s [58,58]=(F,G,dbl)) (h1:addr_half.f k F=some (l,o1)) (h2:addr_half.f k G=some (m,o2)) (hl:l.length≤8) (hm:m.length≤8) (il:is16 l) (im:is16 m) (hk:20≤k) :
  addr_read6.f k s=some (if o1=false∨o2=false∨8 < l.length+m.length∨dbl=false∧l.length≠8 then (⟨0,List.replicate 16 0⟩,false) else (⟨16,join6 l m⟩,true)):=by
 unfold addr_read6.f strings_Cut.f
 have e1:IntKind.i64.wrap ((l.length:Int)+(m.length:Int))=((l.length+m.length:Nat):Int):=by rw [w64 _ (by omega)];omega
 have e2:IntKind.i64.wrap ((8:Int) - (m.length:Int))=((8 - m.length:Nat):Int):=by rw [w64 _ (by omega)];omega
 rw [if_pos hs,hc,Option.bind_some]
 simp only [h1,h2,Option.bind_some,e1,e2]
 by_cases g:o1=false∨o2=false∨8 < l.length+m.length∨dbl=false∧l.length≠8
 ·rw [if_pos g,if_pos]
  rcases g with rfl | rfl | g | ⟨rfl,g⟩
  ·simp
  ·simp
  ·have:decide (((l.length+m.length:Nat):Int) > 8)=true:=by simp only [decide_eq_true_eq];omega
   rw [this];simp
  ·have:((l.length:Int) != 8)=true:=by simp;omega
   simp [this]
 ·rw [if_neg g,if_neg]
  ·have p1:=put6_ok k ⟨16,List.replicate 16 0⟩ (by simp) 0 l il (by omega) hk
   have p2:=put6_ok k ⟨16,putTo (List.replicate 16 0) 0 l l.length⟩ (putTo_len _ _ _ _) (8 - m.length) m im (by omega) hk
   rw [show ((0:Nat):Int)=0 from rfl] at p1
   rw [p1,Option.bind_some,p2];rfl
  ·have g1:o1=true:=by simpa using fun e=>g (.inl e)
   have g2:o2=true:=by simpa using fun e=>g (.inr (.inl e))
   have g3:¬ 8 < l.length+m.length:=fun e=>g (.inr (.inr (.inl e)))
   have g4:decide (((l.length+m.length:Nat):Int) > 8)=false:=by simp;omega
   rw [g1,g2,g4]
   cases hd:dbl with
   | true=>simp
   | false =>
    have:l.length=8:=Classical.not_not.1 fun e=>g (.inr (.inr (.inr ⟨hd,e⟩)))
    simp [this]
theorem cut_le (s c:List UInt8):(Lib.cut s c).1.length≤s.length∧(Lib.cut s c).2.1.length≤s.length:=by
 unfold Lib.cut
 split<;>simp<;>omega
theorem read6_any (k:Nat) (s:List UInt8) (hs:s.length≤10000000) (hk:s.length+1000 < k):∃ a ok,addr_read6.f k s=some (a,ok)∧isB a.B∧a.B.length=16:=by
 have hc:=cut_le s [58,58]
 obtain ⟨l,o1,h1,p1⟩:=half_any k (Lib.cut s [58,58]).1 (by omega) (by omega)
 obtain ⟨m,o2,h2,p2⟩:=half_any k (Lib.cut s [58,58]).2.1 (by omega) (by omega)
 have f1:l.length≤8∧is16 l:=by
  rcases p1 with ⟨_,rfl⟩ | ⟨_,h,h'⟩
  ·exact ⟨by simp,fun n h=>nomatch h⟩
  ·exact ⟨h,h'⟩
 have f2:m.length≤8∧is16 m:=by
  rcases p2 with ⟨_,rfl⟩ | ⟨_,h,h'⟩
  ·exact ⟨by simp,fun n h=>nomatch h⟩
  ·exact ⟨h,h'⟩
 have c:=read6_cases k s _ _ (Lib.cut s [58,58]).2.2 l m o1 o2 (by omega) rfl h1 h2 f1.1 f2.1 f1.2 f2.2 (by omega)
 by_cases g:o1=false∨o2=false∨8 < l.length+m.length∨(Lib.cut s [58,58]).2.2=false∧l.length≠8
 ·rw [if_pos g] at c;exact ⟨_,_,c,zeros_isB,by simp⟩
 ·rw [if_neg g] at c;exact ⟨_,_,c,join6_isB l m f1.2 f2.2⟩
theorem nums_getD (l:List Int) (i:Nat) (h:i < 8):(nums l).getD i 0=n16 l i:=by
 rcases (show i=0∨i=1∨i=2∨i=3∨i=4∨i=5∨i=6∨i=7 by omega) with rfl | rfl | rfl | rfl | rfl | rfl | rfl | rfl<;>rfl
theorem n16_back {l:List Int} (h:isB l) (j:Nat):(if j % 2=0 then n16 l (j / 2) / 256 else n16 l (j / 2) % 256)=ar l j:=by
 have h1:=ar_isB h (2*(j / 2));have h2:=ar_isB h (2*(j / 2)+1)
 unfold n16
 by_cases e:j % 2=0
 ·rw [if_pos e]
  have:ar l (2*(j / 2))=ar l j:=by rw [show 2*(j / 2)=j by omega]
  omega
 ·rw [if_neg e]
  have:ar l (2*(j / 2)+1)=ar l j:=by rw [show 2*(j / 2)+1=j by omega]
  omega
theorem join6_ok {l:List Int} (hB:isB l) (hl:l.length=16) (f t:Nat) (hf:f≤t) (ht:t≤8) (hz:∀ i,f≤i→i < t→n16 l i=0):join6 ((nums l).take f) ((nums l).drop t)=l:=by
 have l1:((nums l).take f).length=f:=by rw [List.length_take,nums_len];omega
 have l2:((nums l).drop t).length=8 - t:=by rw [List.length_drop,nums_len]
 unfold join6
 rw [l1,l2]
 refine ar_ext (putTo_len _ _ _ _) hl fun j hj=>?_
 rw [putTo_ar _ _ _ _ _ hj]
 by_cases h1:t≤j / 2
 ·rw [if_pos (by omega),show j / 2 - (8 - (8 - t))=j / 2 - t by omega,List.getD_eq_getElem?_getD,List.getElem?_drop,show t+(j / 2 - t)=j / 2 by omega,← List.getD_eq_getElem?_getD,nums_getD _ _ (by omega)]
  exact n16_back hB j
 ·rw [if_neg (by omega),putTo_ar _ _ _ _ _ hj]
  by_cases h2:j / 2 < f
  ·rw [if_pos (by omega),Nat.sub_zero,List.getD_eq_getElem?_getD,List.getElem?_take,if_pos h2,← List.getD_eq_getElem?_getD,nums_getD _ _ (by omega)]
   exact n16_back hB j
  ·rw [if_neg (by omega)]
   have h0:=hz (j / 2) (by omega) (by omega)
   have:=n16_back hB j
   rw [h0] at this
   rw [← this]
   have:ar (List.replicate 16 (0:Int)) j=0:=by rw [ar_at _ _ (by rw [List.length_replicate];exact hj)];exact List.getElem_replicate _
   rw [this];split<;>rfl
theorem ar_nums (l:List Int) (i:Nat) (h:i < 8):ar (nums l) i=n16 l i:=nums_getD l i h
theorem read6_ok (k:Nat) (l:List Int) (hB:isB l) (hl:l.length=16) (hk:1000≤k):addr_read6.f k (txt6 l)=some (⟨16,l⟩,true):=by
 have h16:=nums16 hB
 have h3:=gapOf_ok (nums l)
 have ht:is16 ((nums l).take (gapOf (nums l)).1):=h16.sub fun n hn=>List.mem_of_mem_take hn
 have hd:is16 ((nums l).drop ((gapOf (nums l)).1+(gapOf (nums l)).2)):=h16.sub fun n hn=>List.mem_of_mem_drop hn
 have hlen:=txt6_len hB
 by_cases hg:(gapOf (nums l)).2 < 2
 ·have e:txt6 l=wr (nums l):=by unfold txt6;simp only;rw [if_pos hg]
  rw [e] at hlen ⊢
  have c:=read6_cases k (wr (nums l)) (wr (nums l)) [] false (nums l) [] true true (by omega) (dbl_cut_none _ (noDbl_wr _)) (half_ok k _ h16 (by rw [nums_len];decide) hk) (half_ok k [] (fun n h=>nomatch h) (by simp) hk) (by rw [nums_len];decide) (by simp) h16 (fun n h=>nomatch h) (by omega)
  rw [c,if_neg (by rw [nums_len];decide)]
  have:=join6_ok hB hl 8 8 (by decide) (by decide) (fun i h1 h2=>by omega)
  rw [List.take_of_length_le (by rw [nums_len];decide),List.drop_of_length_le (by rw [nums_len];decide)] at this
  rw [this]
 ·have e:txt6 l=wr ((nums l).take (gapOf (nums l)).1)++58::58::wr ((nums l).drop ((gapOf (nums l)).1+(gapOf (nums l)).2)):=by unfold txt6;simp only;rw [if_neg hg]
  rw [e] at hlen ⊢
  have c:=read6_cases k (wr ((nums l).take (gapOf (nums l)).1)++58::58::wr ((nums l).drop ((gapOf (nums l)).1+(gapOf (nums l)).2))) (wr ((nums l).take (gapOf (nums l)).1)) (wr ((nums l).drop ((gapOf (nums l)).1+(gapOf (nums l)).2))) true ((nums l).take (gapOf (nums l)).1) ((nums l).drop ((gapOf (nums l)).1+(gapOf (nums l)).2)) true true (by omega) (dbl_cut _ _ (noDbl_wr _)) (half_ok k _ ht (by rw [List.length_take,nums_len];omega) hk) (half_ok k _ hd (by rw [List.length_drop,nums_len];omega) hk) (by rw [List.length_take,nums_len];omega) (by rw [List.length_drop,nums_len];omega) ht hd (by omega)
  have hlen2:¬ 8 < ((nums l).take (gapOf (nums l)).1).length+((nums l).drop ((gapOf (nums l)).1+(gapOf (nums l)).2)).length:=by rw [List.length_take,List.length_drop,nums_len];omega
  rw [c,if_neg (by simp only [Bool.true_eq_false,false_or,false_and,or_false];exact hlen2)]
  rw [join6_ok hB hl _ _ (by omega) h3.1 (fun i h1 h2=>by
   have:=h3.2 (i - (gapOf (nums l)).1) (by omega)
   rw [show (gapOf (nums l)).1+(i - (gapOf (nums l)).1)=i by omega,ar_nums _ _ (by omega)] at this
   exact this)]
/-! texts and addresses -/
def adrB (a:S_api_Addr):Prop:=isB a.B∧a.B.length=16
theorem read4_l0 (x0 x1 x2 x3:Int) (h0:-1≤x0∧x0 < 256) (h1:-1≤x1∧x1 < 256) (h2:-1≤x2∧x2 < 256) (h3:-1≤x3∧x3 < 256) (k:Nat) :
  addr_read4.l0 ([x0,x1,x2,x3],true) (k+5) 0 (List.replicate 16 (0:Int))=some (.inl (⟨0,List.replicate 16 0⟩,false))∨addr_read4.l0 ([x0,x1,x2,x3],true) (k+5) 0 (List.replicate 16 (0:Int))=some (.inr [x0,x1,x2,x3,0,0,0,0,0,0,0,0,0,0,0,0])∧isB [x0,x1,x2,x3,0,0,0,0,0,0,0,0,0,0,0,0]:=by
 have r0:rd [x0,x1,x2,x3] 0=x0:=rfl
 have r1:rd [x0,x1,x2,x3] 1=x1:=rfl
 have r2:rd [x0,x1,x2,x3] 2=x2:=rfl
 have r3:rd [x0,x1,x2,x3] 3=x3:=rfl
 have w1:IntKind.i64.wrap (0+1)=1:=by decide
 have w2:IntKind.i64.wrap (1+1)=2:=by decide
 have w3:IntKind.i64.wrap (2+1)=3:=by decide
 by_cases g0:x0 < 0
 ·left;rw [addr_read4.l0,if_pos (by simp),if_pos (by simp),r0,if_pos (by simpa using g0)]
 ·by_cases g1:x1 < 0
  ·left;rw [addr_read4.l0,if_pos (by simp),if_pos (by simp),r0,if_neg (by simp;omega),if_pos (by decide),w1,
    addr_read4.l0,if_pos (by simp),if_pos (by simp),r1,if_pos (by simpa using g1)]
  ·by_cases g2:x2 < 0
   ·left;rw [addr_read4.l0,if_pos (by simp),if_pos (by simp),r0,if_neg (by simp;omega),if_pos (by decide),w1,
     addr_read4.l0,if_pos (by simp),if_pos (by simp),r1,if_neg (by simp;omega),if_pos (by decide),w2,
     addr_read4.l0,if_pos (by simp),if_pos (by simp),r2,if_pos (by simpa using g2)]
   ·by_cases g3:x3 < 0
    ·left;rw [addr_read4.l0,if_pos (by simp),if_pos (by simp),r0,if_neg (by simp;omega),if_pos (by decide),w1,
      addr_read4.l0,if_pos (by simp),if_pos (by simp),r1,if_neg (by simp;omega),if_pos (by decide),w2,
      addr_read4.l0,if_pos (by simp),if_pos (by simp),r2,if_neg (by simp;omega),if_pos (by decide),w3,
      addr_read4.l0,if_pos (by simp),if_pos (by simp),r3,if_pos (by simpa using g3)]
    ·right
     refine ⟨read4_go x0 x1 x2 x3 (by omega) (by omega) (by omega) (by omega) k,fun y hy=>?_⟩
     simp only [List.mem_cons,List.not_mem_nil,or_false] at hy
     omega
theorem four_of {l:List Int} (h:l.length=4):∃ x0 x1 x2 x3,l=[x0,x1,x2,x3]:=by
 match l,h with
 | [x0,x1,x2,x3],_=>exact ⟨x0,x1,x2,x3,rfl⟩
theorem read4_any (k:Nat) (s:List UInt8) (hs:s.length≤10000000) (hk:s.length+1000 < k):∃ a ok,addr_read4.f k s=some (a,ok)∧adrB a∧((58:UInt8)∈s→ok=false):=by
 unfold addr_read4.f
 have hz:adrB ⟨0,List.replicate 16 0⟩:=⟨zeros_isB,by simp⟩
 rw [show (46:Int)=(((46:UInt8).toNat:Nat):Int) from rfl,show (10:Int)=((10:Nat):Int) from rfl,show (256:Int)=((256:Nat):Int) from rfl]
 rcases parts_any k s 46 10 256 (by decide) (by decide) (by decide) (by decide) (by decide) hs (by omega) with h | ⟨d,x,h,h1,h2,_,h4⟩
 ·rw [h,Option.bind_some,if_pos (by simp)]
  exact ⟨_,_,rfl,hz,fun _=>rfl⟩
 ·rw [h,Option.bind_some]
  have hno:(58:UInt8)∉s:=fun hm=>by
   rcases h4 58 hm with e | e | e
   ·exact absurd e (by decide)
   ·exact absurd e.2 (by decide)
   ·exact absurd e.1 (by decide)
  by_cases hl:(d++[x]).length=4
  ·rw [if_neg (by simp at hl;simp [hl])]
   obtain ⟨x0,x1,x2,x3,e⟩:=four_of hl
   rw [e] at h2 ⊢
   obtain ⟨k,rfl⟩:∃ k',k=k'+5:=⟨k - 5,by omega⟩
   rcases read4_l0 x0 x1 x2 x3 (h2 _ (by simp)) (h2 _ (by simp)) (h2 _ (by simp)) (h2 _ (by simp)) k with q | ⟨q,qb⟩
   ·rw [q,Option.bind_some];exact ⟨_,_,rfl,hz,fun hm=>absurd hm hno⟩
   ·rw [q,Option.bind_some];exact ⟨_,_,rfl,⟨qb,rfl⟩,fun hm=>absurd hm hno⟩
  ·rw [if_pos (by simp at hl;simp;omega)]
   exact ⟨_,_,rfl,hz,fun _=>rfl⟩
def textA (a:S_api_Addr):List UInt8:=if rightB a=true then (if a.Size=4 then txt4 a.B else if a.Size=16 then txt6 a.B else []) else []
theorem text_any (k:Nat) (a:S_api_Addr) (h:adrB a) (hk:200≤k):addr_Text.f k a=some (textA a):=by
 unfold textA
 by_cases hr:rightB a=true
 ·rw [if_pos hr]
  by_cases h4:a.Size=4
  ·rw [if_pos h4]
   obtain ⟨k,rfl⟩:∃ k',k=k'+20:=⟨k - 20,by omega⟩
   exact text4_ok k a hr h4 h.1
  ·rw [if_neg h4]
   unfold addr_Text.f
   obtain ⟨k,rfl⟩:∃ k',k=k'+120:=⟨k - 120,by omega⟩
   have r:=right_ok (k+100) a
   rw [show k+100+20=k+120 by omega] at r
   rw [r,hr,Option.bind_some,if_neg (by simp),if_neg (by simpa using h4)]
   by_cases h16:a.Size=16
   ·rw [if_pos (by simpa using h16),if_pos h16,text6_ok k a h.1];rfl
   ·rw [if_neg (by simpa using h16),if_neg h16]
 ·rw [if_neg hr]
  unfold addr_Text.f
  obtain ⟨k,rfl⟩:∃ k',k=k'+20:=⟨k - 20,by omega⟩
  have:rightB a=false:=by simpa using hr
  rw [right_ok,this,Option.bind_some,if_pos (by simp)]
theorem txt6_colon (l:List Int):(58:UInt8)∈txt6 l:=by
 unfold txt6
 simp only
 by_cases hg:(gapOf (nums l)).2 < 2
 ·rw [if_pos hg];unfold wr nums;simp [txtL]
 ·rw [if_neg hg];simp
theorem textA_len (a:S_api_Addr) (h:adrB a):(textA a).length≤1040:=by
 unfold textA
 split
 ·split
  ·exact txt4_len _ h.1
  ·split
   ·have:=txt6_len h.1;omega
   ·simp
 ·simp
theorem right0 {a:S_api_Addr} (h:adrB a) (hr:rightB a=true) (h0:a.Size=0):a=⟨0,List.replicate 16 0⟩:=by
 have hz:=((rightB_iff a).1 hr).2
 have:a.B=List.replicate 16 0:=ar_ext h.2 (by simp) fun j hj=>by
  rw [hz j (by rw [h0];exact Nat.zero_le _) hj,ar_at _ _ (by rw [List.length_replicate];exact hj)];exact (List.getElem_replicate _).symm
 cases a
 simp only at h0 this
 rw [h0,this]
theorem parse_text (k:Nat) (a:S_api_Addr) (h:adrB a) (hr:rightB a=true) (hk:3000≤k):addr_Parse.f k (textA a)=some (a,0):=by
 have ht:=text_any k a h (by omega)
 have hs:=rightB_size hr
 have hl:=textA_len a h
 unfold addr_Parse.f
 rw [bstr_toList,bstr_toList]
 rcases hs with h0 | h4 | h16
 ·have e:textA a=[]:=by unfold textA;rw [if_pos hr,if_neg (by omega),if_neg (by omega)]
  rw [e,if_pos (by decide)]
  rw [← right0 h hr h0]
 ·have e:textA a=txt4 a.B:=by unfold textA;rw [if_pos hr,if_pos h4]
  rw [e] at ht ⊢
  obtain ⟨k,rfl⟩:∃ k',k=k'+1100:=⟨k - 1100,by omega⟩
  rw [if_neg (by simpa using txt4_ne a.B h.1),read4_ok k a hr h4 h.1 h.2,Option.bind_some,if_neg (by simp),Option.bind_some]
  simp only
  rw [if_neg (by simp),ht,Option.bind_some,Option.bind_some,bstr_toList]
  simp
 ·have e:textA a=txt6 a.B:=by unfold textA;rw [if_pos hr,if_neg (by omega),if_pos h16]
  have hc:=txt6_colon a.B
  rw [e] at ht hl ⊢
  have hne:txt6 a.B≠[]:=fun e=>by rw [e] at hc;cases hc
  obtain ⟨b,ok,q1,_,q2⟩:=read4_any k (txt6 a.B) (by omega) (by omega)
  have q2:=q2 hc
  subst q2
  rw [if_neg (by simpa using hne),q1,Option.bind_some,if_pos (by simp),read6_ok k a.B h.1 h.2 (by omega),Option.bind_some,Option.bind_some]
  simp only
  rw [← h16] at *
  rw [if_neg (by simp),ht,Option.bind_some,Option.bind_some,bstr_toList]
  simp
theorem parse_any (k:Nat) (s:List UInt8) (hs:s.length≤10000000) (hk:s.length+3000 < k):∃ a e,addr_Parse.f k s=some (a,e)∧adrB a∧(e=0∧textA a=s∧rightB a=true∨e=4∧a=⟨0,List.replicate 16 0⟩∧s≠[]):=by
 have hz:adrB ⟨0,List.replicate 16 0⟩:=⟨zeros_isB,by simp⟩
 unfold addr_Parse.f
 rw [bstr_toList,bstr_toList]
 by_cases h0:s=[]
 ·subst h0
  rw [if_pos (by decide)]
  refine ⟨_,_,rfl,hz,.inl ⟨rfl,?_,?_⟩⟩
  ·unfold textA;rw [if_pos (by decide),if_neg (by decide),if_neg (by decide)]
  ·decide
 ·rw [if_neg (by simpa using h0)]
  obtain ⟨a,o1,q1,z1,_⟩:=read4_any k s hs (by omega)
  obtain ⟨b,o2,q2,z2⟩:=read6_any k s hs (by omega)
  rw [q1,Option.bind_some]
  have fin:∀ (c:S_api_Addr) (o:Bool),adrB c→∃ a e,((if (!o)=true then some (true:Bool) else (addr_Text.f k (⟨c.Size,c.B⟩:S_api_Addr)).bind fun t33=>some (!((bstr t33).toList==s):Bool))).bind (fun s24=>(if s24=true then some (((⟨(0:Int),(List.replicate 16 (0:Int))⟩:S_api_Addr):S_api_Addr),((4:Int):Int)) else some (((⟨c.Size,c.B⟩:S_api_Addr):S_api_Addr),((0:Int):Int))))=some (a,e)∧adrB a∧(e=0∧textA a=s∧rightB a=true∨e=4∧a=⟨0,List.replicate 16 0⟩∧s≠[]):=by
   intro c o hc
   cases o with
   | false=>rw [if_pos (by simp),Option.bind_some,if_pos rfl];exact ⟨_,_,rfl,hz,.inr ⟨rfl,rfl,h0⟩⟩
   | true =>
    rw [if_neg (by simp),text_any k c hc (by omega),Option.bind_some,Option.bind_some,bstr_toList]
    by_cases e:textA c=s
    ·rw [if_neg (by simpa using e)]
     refine ⟨_,_,rfl,hc,.inl ⟨rfl,e,?_⟩⟩
     by_cases hr:rightB c=true
     ·exact hr
     ·unfold textA at e;rw [if_neg hr] at e;exact absurd e.symm h0
    ·rw [if_pos (by simpa using e)];exact ⟨_,_,rfl,hz,.inr ⟨rfl,rfl,h0⟩⟩
  cases o1 with
  | false=>rw [if_pos (by simp),q2,Option.bind_some,Option.bind_some];exact fin b o2 z2
  | true=>rw [if_neg (by simp),Option.bind_some];exact fin a true z1
end Go.E
namespace Go.E
/-! distinguishers and their texts -/
theorem parts_back {d:List Int} (hd:d.length=8) (hB:isB d) (h:(partsR d).2.2.2=true) :
  hiS (partsR d).1≠0∧fits (partsR d).1 (partsR d).2.1 (partsR d).2.2.1=true∧rdL (partsR d).1 (partsR d).2.1 (partsR d).2.2.1=d:=by
 unfold partsR at h ⊢
 generalize hk:numL (d.take 2) 0=kind at *
 by_cases hz:hiS kind=0
 ·rw [if_pos hz] at h;exact absurd h (by simp)
 ·rw [if_neg hz]
  have hs:=hs_of hz
  have sub:∀ (x:List Int),(∀ y∈x,y∈d)→∀ y∈x,0≤y∧y≤255:=fun x hx y hy=>hB y (hx y hy)
  have lh:((d.drop 2).take (hiS kind)).length=hiS kind:=by rw [List.length_take,List.length_drop];omega
  have ll:(d.drop (2+hiS kind)).length=loS kind:=by rw [List.length_drop];unfold loS;omega
  have p1:=put_num (d.take 2) (by rw [List.length_take];omega) (by rw [List.length_take];omega) (sub _ fun y hy=>List.mem_of_mem_take hy)
  have p2:=put_num ((d.drop 2).take (hiS kind)) (by omega) (by omega) (sub _ fun y hy=>List.mem_of_mem_drop (List.mem_of_mem_take hy))
  have p3:=put_num (d.drop (2+hiS kind)) (by omega) (by omega) (sub _ fun y hy=>List.mem_of_mem_drop hy)
  rw [lh] at p2;rw [ll] at p3
  rw [show (d.take 2).length=2 by rw [List.length_take];omega,hk] at p1
  refine ⟨hz,?_,?_⟩
  ·unfold fits
   simp only [Bool.and_eq_true,decide_eq_true_eq]
   exact ⟨p2.1,p2.2.1,p3.1,p3.2.1⟩
  ·unfold rdL
   simp only
   rw [p1.2.2,p2.2.2,p3.2.2,← List.drop_drop,List.append_assoc,List.take_append_drop,List.take_append_drop]
def hex8:List Int→List UInt8
 | []=>[]
 | b::bs=>dgt (b.toNat / 16)::dgt (b.toNat % 16)::hex8 bs
def textD (d:List Int):List UInt8:=if (partsR d).2.2.2=true then textR (partsR d).1 (partsR d).2.1 (partsR d).2.2.1 else 63::58::hex8 d
theorem digs16:∀ d:Fin 16,([48,49,50,51,52,53,54,55,56,57,97,98,99,100,101,102]:List UInt8).getD d.val 0=dgt d.val:=by decide
theorem and_15 (x:Int) (hx:0≤x∧x≤255):IntKind.u8.wrap (BitVec.ofInt IntKind.u8.bits x &&& BitVec.ofInt IntKind.u8.bits (15:Int)).toNat=((x.toNat % 16:Nat):Int):=by
 rw [BitVec.toNat_and,BitVec.toNat_ofInt,BitVec.toNat_ofInt]
 have e:IntKind.u8.bits=8:=rfl
 have h1:(x % ((2^8:Nat):Int)).toNat=x.toNat:=by
  have:((2^8:Nat):Int)=256:=rfl
  omega
 have h2:((15:Int) % ((2^8:Nat):Int)).toNat=2^4 - 1:=by decide
 rw [e,h1,h2,Nat.and_two_pow_sub_one_eq_mod,IntKind.wrap_u8]
 omega
theorem text_l0 (d:List Int) (hd:d.length=8) (hB:isB d):∀ (m i k:Nat) (out:List Int),i+m=8→m < k→out.length≤2+2*i→∃ r,rd_Text.l0 d k out (i:Int)=some r∧b2s r=b2s out++hex8 (d.drop i)
 | 0,i,k,out,hi,hk,ho=>by
  obtain ⟨k,rfl⟩:∃ k',k=k'+1:=⟨k - 1,by omega⟩
  exact ⟨out,by rw [rd_Text.l0,if_neg (by simp;omega)],by rw [List.drop_of_length_le (by omega)];simp [hex8]⟩
 | m+1,i,k,out,hi,hk,ho=>by
  obtain ⟨k,rfl⟩:∃ k',k=k'+1:=⟨k - 1,by omega⟩
  have hb:=ar_isB hB i
  have hil:i < d.length:=by omega
  have e3:IntKind.i64.wrap ((i:Int)+1)=((i+1:Nat):Int):=by rw [w64 _ (by omega)];omega
  have es:Int.fdiv (ar d i) (2^(min (4:Int).toNat IntKind.u8.bits))=(((ar d i).toNat / 16:Nat):Int):=by
   have:((2:Int)^(min (4:Int).toNat IntKind.u8.bits))=16:=rfl
   rw [this,Int.fdiv_eq_ediv_of_nonneg _ (by omega)];omega
  have g1:=digs16 ⟨(ar d i).toNat / 16,by omega⟩
  have g2:=digs16 ⟨(ar d i).toNat % 16,by omega⟩
  simp only at g1 g2
  rw [rd_Text.l0,if_pos (by simp;omega),if_pos (by omega),Int.toNat_natCast,es,and_15 _ hb,e3,Int.toNat_natCast,Int.toNat_natCast,if_pos (by simp;omega),if_pos (by simp;omega),g1,g2,if_pos (by simp;omega)]
  obtain ⟨r,h1,h2⟩:=text_l0 d hd hB m (i+1) k (out++[((dgt ((ar d i).toNat / 16)).toNat:Int),((dgt ((ar d i).toNat % 16)).toNat:Int)]) (by omega) (by omega) (by simp;omega)
  refine ⟨r,h1,?_⟩
  rw [h2,List.drop_eq_getElem_cons hil,ar_at _ _ hil]
  simp [b2s,hex8,List.map_append]
theorem textd_ok (k:Nat) (d:List Int) (hd:d.length=8) (hB:isB d) (hk:20≤k):rd_Text.f k d=some (textD d):=by
 obtain ⟨k,rfl⟩:∃ k',k=k'+20:=⟨k - 20,by omega⟩
 unfold textD
 by_cases h:(partsR d).2.2.2=true
 ·rw [if_pos h]
  obtain ⟨h1,h2,h3⟩:=parts_back hd hB h
  have:=text_ok k h1 h2
  rwa [h3] at this
 ·rw [if_neg h]
  have h':(partsR d).2.2.2=false:=by simpa using h
  unfold rd_Text.f
  rw [parts_ok k d hd,Option.bind_some,h',if_pos (by simp)]
  obtain ⟨r,h1,h2⟩:=text_l0 d hd hB 8 0 (k+20) [63,58] rfl (by omega) (by simp)
  rw [show ((0:Nat):Int)=0 from rfl] at h1
  rw [h1,Option.bind_some,h2,List.drop_zero];rfl
/-! read back -/
def shl4 (x:Int) (c:Nat):Int:=IntKind.u8.wrap (BitVec.ofInt IntKind.u8.bits (IntKind.u8.wrap (x*2^(min (4:Int).toNat IntKind.u8.bits))) ||| BitVec.ofInt IntKind.u8.bits (IntKind.u8.wrap (c:Int))).toNat
theorem shl4_0:∀ c:Fin 16,shl4 0 c.val=c.val:=by decide
theorem shl4_d:∀ x:Fin 16,∀ c:Fin 16,shl4 (x.val:Int) c.val=((16*x.val+c.val:Nat):Int):=by decide
theorem arL8e {x:List Int} (h:x.length=8):arL 8 x=x:=by have:=arL_self x;rwa [h] at this
theorem tdiv2 (p:Nat) (h:p≤1000000000000):IntKind.i64.wrap (Int.tdiv (p:Int) 2)=((p / 2:Nat):Int):=by
 rw [show Int.tdiv (p:Int) 2=((p / 2:Nat):Int) from rfl,w64 _ (by omega)]
theorem ite_ind {α:Sort _} {c:Prop} [Decidable c] {a b:α} (P:α→Prop) (h1:P a) (h2:P b):P (if c then a else b):=by
 by_cases h:c
 ·rw [if_pos h];exact h1
 ·rw [if_neg h];exact h2
theorem isB_rep (n:Nat):isB (List.replicate n 0):=fun y hy=>by rw [List.eq_of_mem_replicate hy];decide
theorem strange_any (s:List UInt8) (hs:s.length≤10000000):∀ (n p k:Nat) (x:List Int),s.length - p≤n→n < k→x.length=8→isB x→∃ r,rd_strange.l0 s k x p=some r∧((∃ q,r=.inl q∧q.length=8∧isB q)∨∃ q p',r=.inr (q,p')∧q.length=8∧isB q):=by
 intro n
 induction n with
 | zero =>
  intro p k x hn hk hx hb
  obtain ⟨k,rfl⟩:∃ k',k=k'+1:=⟨k - 1,by omega⟩
  exact ⟨.inr (x,p),by rw [rd_strange.l0,if_neg (by omega)],.inr ⟨x,p,rfl,hx,hb⟩⟩
 | succ n ih =>
  intro p k x hn hk hx hb
  obtain ⟨k,rfl⟩:∃ k',k=k'+1:=⟨k - 1,by omega⟩
  by_cases hp:p < s.length
  ·have hz:isB [(0:Int),0,0,0,0,0,0,0]:=isB_rep 8
   have hpos:=dec_pos s p hp
   rw [rd_strange.l0,if_pos hp]
   obtain ⟨c,hc⟩:∃ c:Int,((if (decide (((dec s p).1:Int) ≥ (97:Int)))=true then some (IntKind.i32.wrap ((IntKind.i32.wrap (((dec s p).1:Int) - (97:Int)))+(10:Int)):Int) else some (IntKind.i32.wrap (((dec s p).1:Int) - (48:Int)):Int)))=some c:=ite_ind (P:=fun z=>∃ c:Int,z=some c) ⟨_,rfl⟩ ⟨_,rfl⟩
   rw [hc,Option.bind_some,tdiv2 p (by omega)]
   by_cases g:0≤c∧c≤15∧p < 16
   ·rw [decide_eq_false (by omega:¬ c < 0),decide_eq_false (by omega:¬ c > 15),decide_eq_false (by omega:¬ (p:Int) ≥ 16),if_neg (by simp),if_pos (by omega),if_pos (by omega),arL8e hx,Int.toNat_natCast]
    refine ih _ k _ (by omega) (by omega) (by simpa using hx) fun y hy=>?_
    rcases List.mem_or_eq_of_mem_set hy with hy | rfl
    ·exact hb y hy
    ·rw [IntKind.wrap_u8];omega
   ·rw [if_pos]
    ·exact ⟨_,rfl,.inl ⟨_,rfl,rfl,hz⟩⟩
    ·by_cases g1:c < 0
     ·simp [g1]
     ·by_cases g2:c > 15
      ·simp [g2]
      ·rw [decide_eq_true (show (p:Int) ≥ 16 by omega),ite_self]
  ·exact ⟨.inr (x,p),by rw [rd_strange.l0,if_neg hp],.inr ⟨x,p,rfl,hx,hb⟩⟩
theorem strangef_any (k:Nat) (s:List UInt8) (hs:s.length≤10000000) (hk:s.length < k):∃ d,rd_strange.f k s=some d∧d.length=8∧isB d:=by
 unfold rd_strange.f
 obtain ⟨r,hr,hx⟩:=strange_any s hs s.length 0 k (List.replicate 8 0) (by omega) hk (by simp) (isB_rep 8)
 rw [hr,Option.bind_some]
 rcases hx with ⟨q,rfl,h1,h2⟩ | ⟨q,p',rfl,h1,h2⟩
 ·exact ⟨q,rfl,h1,h2⟩
 ·exact ⟨q,rfl,h1,h2⟩
theorem strange_step (s:List UInt8) (p k:Nat) (x:List Int) (hx:x.length=8) (c:Nat) (hc:c < 16) (hp:p < 16) (rest:List UInt8) (h:s.drop p=dgt c::rest) :
  rd_strange.l0 s (k+1) x p=rd_strange.l0 s k (x.set (p / 2) (shl4 (ar x (p / 2)) c)) (p+1):=by
 have hpl:p < s.length:=by
  have:=congrArg List.length h
  rw [List.length_drop,List.length_cons] at this
  omega
 have hcc:s[p]=dgt c:=by
  have:=congrArg (fun l=>l[0]?) h
  simp only [List.getElem?_drop,Nat.add_zero,List.getElem?_cons_zero] at this
  rw [List.getElem?_eq_getElem hpl] at this
  exact Option.some.inj this
 have hdn:=dgt_toNat hc
 have hdec:dec s p=((dgt c).toNat,1):=by
  rw [dec_ascii s p hpl (by rw [hcc,hdn];split<;>omega),hcc]
 have ec:((if (decide (((dgt c).toNat:Int) ≥ (97:Int)))=true then some (IntKind.i32.wrap ((IntKind.i32.wrap (((dgt c).toNat:Int) - (97:Int)))+(10:Int)):Int) else some (IntKind.i32.wrap (((dgt c).toNat:Int) - (48:Int)):Int)))=some (c:Int):=by
  rw [hdn]
  by_cases h1:c < 10
  ·rw [if_pos h1,if_neg (by simp;omega),w32 _ (by omega)];congr 1;omega
  ·rw [if_neg h1,if_pos (by simp;omega),w32 (((87+c:Nat):Int) - 97) (by omega),w32 _ (by omega)];congr 1;omega
 rw [rd_strange.l0,if_pos hpl,hdec]
 simp only
 rw [ec,Option.bind_some,tdiv2 p (by omega),decide_eq_false (by omega:¬ (c:Int) < 0),decide_eq_false (by omega:¬ (c:Int) > 15),decide_eq_false (by omega:¬ (p:Int) ≥ 16),if_neg (by simp),if_pos (by omega),if_pos (by omega),arL8e hx,Int.toNat_natCast]
 rfl
theorem strange_two (s:List UInt8) (i k:Nat) (x:List Int) (hx:x.length=8) (b:Int) (hb:0≤b∧b≤255) (hi:i < 8) (h0:ar x i=0) (rest:List UInt8) (h:s.drop (2*i)=dgt (b.toNat / 16)::dgt (b.toNat % 16)::rest) :
  rd_strange.l0 s (k+2) x (2*i)=rd_strange.l0 s k (x.set i b) (2*i+2):=by
 have h2:s.drop (2*i+1)=dgt (b.toNat % 16)::rest:=by
  have:=congrArg (List.drop 1) h
  rw [List.drop_drop] at this
  exact this
 have q0:=shl4_0 ⟨b.toNat / 16,by omega⟩
 have q1:=shl4_d ⟨b.toNat / 16,by omega⟩ ⟨b.toNat % 16,by omega⟩
 simp only at q0 q1
 rw [strange_step s (2*i) (k+1) x hx (b.toNat / 16) (by omega) (by omega) _ h,show 2*i / 2=i by omega,h0,q0,
  strange_step s (2*i+1) k _ (by simpa using hx) (b.toNat % 16) (by omega) (by omega) _ h2,show (2*i+1) / 2=i by omega]
 have ea:ar (x.set i ((b.toNat / 16:Nat):Int)) i=((b.toNat / 16:Nat):Int):=by rw [ar_setD _ _ _ _ (by omega),if_pos rfl]
 rw [ea,q1,List.set_set,show ((16*(b.toNat / 16)+b.toNat % 16:Nat):Int)=b by omega]
theorem strange_go (s:List UInt8) (d:List Int) (hd:d.length=8) (hB:isB d):∀ (m i k:Nat),i+m=8→s.drop (2*i)=hex8 (d.drop i)→2*m < k→rd_strange.l0 s k (d.take i++List.replicate m 0) (2*i)=some (.inr (d,16))
 | 0,i,k,hi,hs,hk=>by
  obtain ⟨k,rfl⟩:∃ k',k=k'+1:=⟨k - 1,by omega⟩
  have hl:s.length≤2*i:=by
   rw [List.drop_of_length_le (show d.length≤i by omega)] at hs
   have:=congrArg List.length hs
   rw [List.length_drop] at this
   simp [hex8] at this
   omega
  rw [rd_strange.l0,if_neg (by omega),List.take_of_length_le (by omega),show 2*i=16 by omega]
  simp
 | m+1,i,k,hi,hs,hk=>by
  obtain ⟨k,rfl⟩:∃ k',k=k'+2:=⟨k - 2,by omega⟩
  have hil:i < d.length:=by omega
  have hb:=hB d[i] (List.getElem_mem hil)
  have lt:(d.take i).length=i:=by rw [List.length_take];omega
  rw [List.drop_eq_getElem_cons hil,hex8] at hs
  rw [strange_two s i k _ (by simp [lt];omega) d[i] hb (by omega) (by unfold ar;rw [List.getD_eq_getElem?_getD,List.getElem?_append_right (by omega),lt,Nat.sub_self];simp) _ hs]
  have e:(d.take i++List.replicate (m+1) (0:Int)).set i d[i]=d.take (i+1)++List.replicate m 0:=by
   rw [List.set_append_right _ _ (by omega),lt,Nat.sub_self,List.replicate_succ,List.set_cons_zero,List.take_add_one,List.getElem?_eq_getElem hil,List.append_assoc]
   rfl
  rw [e,show 2*i+2=2*(i+1) by omega]
  refine strange_go s d hd hB m (i+1) k (by omega) ?_ (by omega)
  have:=congrArg (List.drop 2) hs
  rw [List.drop_drop] at this
  exact this
theorem strange_ok (k:Nat) (d:List Int) (hd:d.length=8) (hB:isB d) (hk:20≤k):rd_strange.f k (hex8 d)=some d:=by
 unfold rd_strange.f
 have:=strange_go (hex8 d) d hd hB 8 0 k rfl (by simp) (by omega)
 simp only [List.take_zero,List.nil_append,Nat.mul_zero] at this
 rw [this];rfl
theorem number_any (k:Nat) (s:List UInt8) (hs:s.length≤10000000) (hk:s.length < k):∃ n b,rd_number.f k s=some (n,b):=by
 unfold rd_number.f
 have go:∀ (n p k:Nat) (x:Int),s.length - p≤n→n < k→∃ r,rd_number.l0 s k x p=some r:=by
  intro n
  induction n with
  | zero =>
   intro p k x hn hk
   obtain ⟨k,rfl⟩:∃ k',k=k'+1:=⟨k - 1,by omega⟩
   exact ⟨.inr (x,p),by rw [rd_number.l0,if_neg (by omega)]⟩
  | succ n ih =>
   intro p k x hn hk
   obtain ⟨k,rfl⟩:∃ k',k=k'+1:=⟨k - 1,by omega⟩
   by_cases hp:p < s.length
   ·have hpos:=dec_pos s p hp
    rw [rd_number.l0,if_pos hp]
    exact ite_ind (P:=fun z=>∃ r,z=some r) ⟨_,rfl⟩ (ih _ k _ (by omega) (by omega))
   ·exact ⟨.inr (x,p),by rw [rd_number.l0,if_neg hp]⟩
 obtain ⟨r,hr⟩:=go s.length 0 k 0 (by omega) hk
 rw [hr,Option.bind_some]
 rcases r with ⟨n,b⟩ | ⟨n,p⟩<;>exact ⟨_,_,rfl⟩
theorem number_go (s:List UInt8):∀ (u k p:Nat) (rest:List UInt8),s.drop p=numD 10 u++rest→u < 1000000000000→p+(numD 10 u).length≤10 →
  rd_number.l0 s (k+(numD 10 u).length) 0 p=rd_number.l0 s k (u:Int) (p+(numD 10 u).length):=by
 have one:∀ (x d p k:Nat) (rest:List UInt8),x < 1000000000000→d < 10→p < 10→s.drop p=dgt d::rest→rd_number.l0 s (k+1) (x:Int) p=rd_number.l0 s k ((x*10+d:Nat):Int) (p+1):=by
  intro x d p k rest hx hd hp h
  have hpl:p < s.length:=by
   have:=congrArg List.length h
   rw [List.length_drop,List.length_cons] at this
   omega
  have hcc:s[p]=dgt d:=by
   have:=congrArg (fun l=>l[0]?) h
   simp only [List.getElem?_drop,Nat.add_zero,List.getElem?_cons_zero] at this
   rw [List.getElem?_eq_getElem hpl] at this
   exact Option.some.inj this
  have hdn:=dgt_toNat (d:=d) (by omega)
  rw [if_pos hd] at hdn
  have hdec:dec s p=(48+d,1):=by
   rw [dec_ascii s p hpl (by rw [hcc,hdn];omega),hcc,hdn]
  rw [rd_number.l0,if_pos hpl,hdec]
  simp only
  rw [decide_eq_false (by omega:¬ ((48+d:Nat):Int) < 48),decide_eq_false (by omega:¬ ((48+d:Nat):Int) > 57),decide_eq_false (by omega:¬ (p:Int) ≥ 10),if_neg (by simp),w32 _ (by omega),w64 (((48+d:Nat):Int) - 48) (by omega),w64 ((10:Int)*x) (by omega),w64 _ (by omega)]
  congr 1;omega
 intro u
 induction u using Nat.strongRecOn with
 | ind u ih =>
  intro k p rest hsd hu hp
  by_cases hsm:u < 10
  ·rw [numD_small hsm] at hsd hp ⊢
   have:=one 0 u p k rest (by decide) hsm (by simp at hp;omega) hsd
   simpa using this
  ·have hbig:=numD_big (base:=10) (u:=u) (by omega) (by decide)
   rw [hbig] at hsd hp ⊢
   rw [List.append_assoc] at hsd
   rw [List.length_append,List.length_singleton] at hp
   have i1:=ih (u / 10) (by omega) (k+1) p ([dgt (u % 10)]++rest) hsd (by omega) (by omega)
   rw [List.length_append,List.length_singleton,show k+((numD 10 (u / 10)).length+1)=(k+1)+(numD 10 (u / 10)).length by omega,i1]
   have:=one (u / 10) (u % 10) (p+(numD 10 (u / 10)).length) k rest (by omega) (by omega) (by omega) (by
    have:=congrArg (List.drop (numD 10 (u / 10)).length) hsd
    rw [List.drop_drop,List.drop_left] at this
    exact this)
   rw [this,show u / 10*10+u % 10=u by omega,Nat.add_assoc]
theorem dec10 (u:Nat) (h:u < 10000000000):(numD 10 u).length≤10:=by
 have step:∀ v,(numD 10 v).length≤(numD 10 (v / 10)).length+1:=fun v=>by
  by_cases hv:v < 10
  ·rw [numD_small hv];simp
  ·rw [numD_big (base:=10) (u:=v) (by omega) (by decide)];simp
 have a0:=step u;have a1:=step (u / 10);have a2:=step (u / 10 / 10);have a3:=step (u / 10 / 10 / 10);have a4:=step (u / 10 / 10 / 10 / 10)
 have a5:=step (u / 10 / 10 / 10 / 10 / 10);have a6:=step (u / 10 / 10 / 10 / 10 / 10 / 10);have a7:=step (u / 10 / 10 / 10 / 10 / 10 / 10 / 10);have a8:=step (u / 10 / 10 / 10 / 10 / 10 / 10 / 10 / 10)
 have a9:(numD 10 (u / 10 / 10 / 10 / 10 / 10 / 10 / 10 / 10 / 10)).length≤1:=by rw [numD_small (by omega)];simp
 omega
theorem number_ok (k:Nat) (n:Int) (h:0≤n∧n < 4294967296) (hk:20≤k):rd_number.f k (Lib.itoa n)=some (n,true):=by
 rw [itoa_nat n h.1,numD_dec]
 have hl:=dec10 n.toNat (by omega)
 have h1:=numD_len (base:=10) (by decide) n.toNat
 have:=number_go (numD 10 n.toNat) n.toNat (k - (numD 10 n.toNat).length) 0 [] (by simp) (by omega) (by omega)
 rw [show k - (numD 10 n.toNat).length+(numD 10 n.toNat).length=k by omega,Nat.zero_add] at this
 unfold rd_number.f
 obtain ⟨k',e⟩:∃ k',k - (numD 10 n.toNat).length=k'+1:=⟨k - (numD 10 n.toNat).length - 1,by omega⟩
 rw [this,e,rd_number.l0,if_neg (by omega),Option.bind_some,bstr_toList,bstr_toList,show ((n.toNat:Nat):Int)=n by omega]
 have:(numD 10 n.toNat==([]:List UInt8))=false:=by
  rw [beq_eq_false_iff_ne];exact numD_ne (by decide) _
 rw [this];rfl
/-! cut at colons -/
theorem split_spl (c:UInt8):∀ (n:Nat) (s:List UInt8),s.length≤n→Lib.splitK [c] 0 (Lib.count s [c]) s=spl c s:=by
 intro n
 induction n with
 | zero =>
  intro s hs
  obtain rfl:=List.eq_nil_of_length_eq_zero (Nat.le_zero.1 hs)
  rw [Lib.count_miss rfl];rfl
 | succ n ih =>
  intro s hs
  rcases first_of c s with h | ⟨a,b,rfl,h⟩
  ·rw [Lib.count_miss (index_free h),spl_free h];rfl
  ·have hi:=index_app b h
   rw [Lib.count_hit (by simp) hi,Nat.add_comm 1,Lib.splitK,hi,if_neg (by rw [beq_iff_eq];omega),spl_app b h]
   have e:(a++c::b).drop (((a.length:Nat):Int).toNat+[c].length)=b:=by
    rw [Int.toNat_natCast,List.length_singleton,← List.drop_drop,List.drop_left];rfl
   have e2:(a++c::b).drop (a.length+[c].length)=b:=by
    rw [List.length_singleton,← List.drop_drop,List.drop_left];rfl
   rw [e,e2,ih b (by simp at hs;omega)]
   congr 1
   rw [Int.toNat_natCast,Nat.add_zero,List.take_left]
theorem count_spl (c:UInt8) (s:List UInt8):Lib.count s [c]≤s.length+1:=Lib.count_le s [c]
theorem splitf_ok (s:List UInt8) (hs:s.length≤10000000):strings_Split.f s [58]=some (spl 58 s):=by
 unfold strings_Split.f
 have h1:=count_spl 58 s
 have e:Lib.countB (bstr s) (bstr [58])=Lib.count s [58]:=rfl
 rw [if_pos ⟨by omega,by simp,by rw [e];omega⟩]
 have h2:=Lib.splitB_data (bstr [58]) 0 (Lib.countB (bstr s) (bstr [58])) (bstr s)
 rw [h2]
 exact congrArg some (split_spl 58 s.length s (Nat.le_refl _))
/-! which distinguishers texts are -/
theorem a4_adr (h:Int):adrB (a4 h):=⟨a4_isB h,by unfold a4;exact arC_length _ _ _⟩
theorem textA_a4 (h:Int):textA (a4 h)=txt4 (a4 h).B:=by unfold textA;rw [if_pos (a4_right h),if_pos (show (a4 h).Size=4 from rfl)]
theorem root_a4 (h:Int):rootL (a4 h)=putL h 4:=by unfold rootL a4 putL;kernel_rfl
theorem known_any (k:Nat) (x y z:List UInt8) (hx:x.length≤2000000) (hy:y.length≤2000000) (hz:z.length≤2000000) (hk:2005000≤k):∃ d b,rd_known.f k x y z=some (d,b)∧d.length=8∧isB d:=by
 unfold rd_known.f
 obtain ⟨n1,b1,e1⟩:=number_any k x (by omega) (by omega)
 obtain ⟨n2,b2,e2⟩:=number_any k z (by omega) (by omega)
 obtain ⟨n3,b3,e3⟩:=number_any k y (by omega) (by omega)
 rw [e1,Option.bind_some,e2,Option.bind_some,e3,Option.bind_some]
 have mid:∃ q:Int×Bool,((if (n1==(1:Int))=true then (addr_Parse.f k y).bind fun t28=>(addr_Bytes.f k t28.1).bind fun t36=>(cursor_Open.f t36).bind fun t38=>((cursor_Reader_Num.f k t38 (4:Int)).bind fun t47=>(if (t28.2==(0:Int))=true then some ((t28.1.Size==(4:Int):Bool),(t47.1:Int),(t47.2.rest.left:List Int),(t47.2.rest.bad:Bool)) else some ((false:Bool),(t47.1:Int),(t47.2.rest.left:List Int),(t47.2.rest.bad:Bool)))).bind fun s44=>some ((s44.2.1:Int),(s44.1:Bool)) else some ((n3:Int),(b3:Bool))))=some q:=by
  refine ite_ind (P:=fun w=>∃ q:Int×Bool,w=some q) ?_ ⟨_,rfl⟩
  obtain ⟨a,e,p1,z1,_⟩:=parse_any k y (by omega) (by omega)
  rw [p1,Option.bind_some]
  have hb:∃ b,addr_Bytes.f k a=some b∧b.length≤16:=by
   obtain ⟨k',rfl⟩:∃ k',k=k'+20:=⟨k - 20,by omega⟩
   by_cases h:rightB a=true
   ·refine ⟨_,addrbytes_ok k' a h,?_⟩
    have:=rootL_length a h
    have:=rightB_size h
    omega
   ·have h':rightB a=false:=by simpa using h
    refine ⟨[],?_,by simp⟩
    unfold addr_Bytes.f;rw [right_ok,h'];rfl
  obtain ⟨b,hb,hl⟩:=hb
  unfold cursor_Open.f
  rw [hb,Option.bind_some,clone_ok _ (by omega),Option.bind_some,Option.bind_some]
  have hn:∃ n r,cursor_Reader_Num.f k ⟨⟨b,false⟩⟩ 4=some (n,r):=by
   obtain ⟨k',rfl⟩:∃ k',k=k'+5:=⟨k - 5,by omega⟩
   by_cases h4:4≤b.length
   ·exact ⟨_,_,num_ok k' ⟨⟨b,false⟩⟩ 4 rfl (by decide) (by decide) (by simp;omega)⟩
   ·exact ⟨_,_,num_bad (k'+4) ⟨⟨b,false⟩⟩ 4 (.inr (.inr (.inr (by simp;omega))))⟩
  obtain ⟨n,r,hn⟩:=hn
  rw [hn,Option.bind_some]
  simp only
  refine ite_ind (P:=fun w:Option (Bool×Int×List Int×Bool)=>∃ q:Int×Bool,(w.bind fun s44=>some ((s44.2.1:Int),(s44.1:Bool)))=some q) ⟨_,rfl⟩ ⟨_,rfl⟩
 obtain ⟨q,hq⟩:=mid
 simp only
 rw [hq,Option.bind_some]
 obtain ⟨k',rfl⟩:∃ k',k=k'+5:=⟨k - 5,by omega⟩
 rw [make_ok,Option.bind_some]
 refine ⟨_,_,rfl,?_⟩
 unfold makeR
 by_cases h1:hiS n1=0
 ·rw [if_pos h1];exact ⟨rfl,isB_rep 8⟩
 ·rw [if_neg h1]
  by_cases h2:fits n1 q.1 n2=true
  ·rw [if_pos h2]
   refine ⟨rdL_length _ _ _ h1,fun y hy=>?_⟩
   have pb:∀ (n:Int) (s:Nat),∀ y∈putL n s,0≤y∧y≤255:=fun n s y hy=>by
    match s with
    | 0=>cases hy
    | 1=>simp only [putL,List.mem_cons,List.not_mem_nil,or_false] at hy;omega
    | 2=>simp only [putL,List.mem_cons,List.not_mem_nil,or_false] at hy;omega
    | 3=>simp only [putL,List.mem_cons,List.not_mem_nil,or_false] at hy;omega
    | 4=>simp only [putL,List.mem_cons,List.not_mem_nil,or_false] at hy;omega
    | s+5=>cases hy
   simp only [rdL,List.mem_append] at hy
   rcases hy with (h | h) | h<;>exact pb _ _ y h
  ·rw [if_neg h2];exact ⟨rfl,isB_rep 8⟩
theorem known_ok (k:Nat) {kind h l:Int} (hk:hiS kind≠0) (hf:fits kind h l=true) (hK:5000≤k):rd_known.f k (Lib.itoa kind) (nameR kind h) (Lib.itoa l)=some (rdL kind h l,true):=by
 have r:=fits_32 hk hf
 have hs:=hs_of hk
 unfold rd_known.f
 have n3:∃ n b,rd_number.f k (nameR kind h)=some (n,b)∧(kind≠1→n=h∧b=true):=by
  by_cases h1:kind=1
  ·have e:nameR kind h=txt4 (a4 h).B:=by unfold nameR;rw [if_pos h1]
   have hl:=txt4_len (a4 h).B (a4_isB h)
   rw [e]
   obtain ⟨n,b,e⟩:=number_any k (txt4 (a4 h).B) (by omega) (by omega)
   exact ⟨n,b,e,fun h2=>absurd h1 h2⟩
  ·have e:nameR kind h=Lib.itoa h:=by unfold nameR;rw [if_neg h1]
   rw [e]
   exact ⟨h,true,number_ok k h ⟨r.1,r.2.1⟩ (by omega),fun _=>⟨rfl,rfl⟩⟩
 obtain ⟨n,b,e3,c3⟩:=n3
 rw [number_ok k kind ⟨hs.2.2.1,by omega⟩ (by omega),Option.bind_some,number_ok k l ⟨r.2.2.1,r.2.2.2⟩ (by omega),Option.bind_some,e3,Option.bind_some]
 obtain ⟨k',rfl⟩:∃ k',k=k'+20:=⟨k - 20,by omega⟩
 have mk:rd_Make.f (k'+20) kind h l=some (rdL kind h l,0):=by
  have:=make_ok (k'+15) kind h l
  unfold makeR at this
  rwa [if_neg hk,if_pos hf] at this
 simp only
 by_cases h1:kind=1
 ·have e:nameR kind h=textA (a4 h):=by rw [textA_a4];unfold nameR;rw [if_pos h1]
  have p:=parse_text (k'+20) (a4 h) (a4_adr h) (a4_right h) (by omega)
  have nb:cursor_Reader_Num.f (k'+20) ⟨⟨putL h 4,false⟩⟩ 4=some (h,⟨⟨[],false⟩⟩):=by
   have hl:=putL_length h 4 (by decide) (by decide)
   have:=num_ok (k'+15) ⟨⟨putL h 4,false⟩⟩ 4 rfl (by decide) (by decide) (by simp [hl])
   rw [show (putL h 4).take (Int.toNat 4)=putL h 4 from List.take_of_length_le (by rw [hl];decide),show (putL h 4).drop (Int.toNat 4)=[] from List.drop_of_length_le (by rw [hl];decide)] at this
   rw [num_put h 4 (by decide) (by decide) r.1 (by have:=r.2.1;simpa using this)] at this
   exact this
  rw [if_pos (by simp [h1]),e,p,Option.bind_some,addrbytes_ok k' _ (a4_right h),Option.bind_some,root_a4]
  unfold cursor_Open.f
  rw [clone_ok _ (by rw [putL_length h 4 (by decide) (by decide)];decide),Option.bind_some,Option.bind_some,nb,Option.bind_some]
  simp only
  rw [if_pos (by decide),Option.bind_some,Option.bind_some]
  simp only
  rw [mk,Option.bind_some]
  rfl
 ·obtain ⟨rfl,rfl⟩:=c3 h1
  rw [if_neg (by simpa using h1),Option.bind_some]
  simp only
  rw [mk,Option.bind_some];rfl
theorem hex8_len:∀ d:List Int,(hex8 d).length=2*d.length
 | []=>rfl
 | b::bs=>by simp only [hex8,List.length_cons,hex8_len bs];omega
theorem hex8_free:∀ d:List Int,isB d→(58:UInt8)∉hex8 d
 | [],_=>by simp [hex8]
 | b::bs,h=>by
  have hb:=h b (by simp)
  have one:∀ x,x < 16→(58:UInt8)≠dgt x:=fun x hx e=>by
   have:=dgt_toNat hx
   rw [← e] at this
   have:(58:UInt8).toNat=58:=rfl
   split at*<;> omega
  have:=hex8_free bs (fun y hy=>h y (by simp [hy]))
  simp only [hex8,List.mem_cons,not_or]
  exact ⟨one _ (by omega),one _ (by omega),this⟩
theorem spl_textR (kind h l:Int) (h1:0≤kind) (h2:0≤h) (h3:0≤l):spl 58 (textR kind h l)=[Lib.itoa kind,nameR kind h,Lib.itoa l]:=by
 have e:textR kind h l=Lib.itoa kind++58::(nameR kind h++58::Lib.itoa l):=by unfold textR;simp
 rw [e,spl_app _ (itoa_free _ h1 58 (.inr (by decide))),spl_app _ (name_free kind h h2),spl_free (itoa_free _ h3 58 (.inr (by decide)))]
theorem itoa_10 (n:Int) (h:0≤n∧n < 4294967296):(Lib.itoa n).length≤10:=by
 rw [itoa_nat n h.1,numD_dec];exact dec10 _ (by omega)
theorem name_2000 (kind h:Int) (h0:0≤h∧h < 4294967296):(nameR kind h).length≤1100:=by
 unfold nameR
 split
 ·have:=txt4_len _ (a4_isB h);omega
 ·have:=itoa_10 h h0;omega
theorem textD_len (d:List Int) (hd:d.length=8) (hB:isB d):(textD d).length≤2000:=by
 unfold textD
 by_cases h:(partsR d).2.2.2=true
 ·rw [if_pos h]
  obtain ⟨h1,h2,h3⟩:=parts_back hd hB h
  have r:=fits_32 h1 h2
  have hs:=hs_of h1
  have a:=itoa_10 (partsR d).1 ⟨hs.2.2.1,by omega⟩
  have b:=name_2000 (partsR d).1 (partsR d).2.1 ⟨r.1,r.2.1⟩
  have c:=itoa_10 (partsR d).2.2.1 ⟨r.2.2.1,r.2.2.2⟩
  unfold textR;simp;omega
 ·rw [if_neg h];simp [hex8_len];omega
theorem rdparse_text (k:Nat) (d:List Int) (hd:d.length=8) (hB:isB d) (hk:5000≤k):rd_Parse.f k (textD d)=some (d,0):=by
 have ht:=textd_ok k d hd hB (by omega)
 have hl:=textD_len d hd hB
 unfold rd_Parse.f
 rw [splitf_ok _ (by omega),Option.bind_some]
 by_cases h:(partsR d).2.2.2=true
 ·obtain ⟨h1,h2,h3⟩:=parts_back hd hB h
  have r:=fits_32 h1 h2
  have hs:=hs_of h1
  have e:textD d=textR (partsR d).1 (partsR d).2.1 (partsR d).2.2.1:=by unfold textD;rw [if_pos h]
  have kn:=known_ok k h1 h2 hk
  rw [h3] at kn
  rw [e] at ht ⊢
  rw [spl_textR _ _ _ hs.2.2.1 r.1 r.2.2.1,if_neg (by simp),if_pos (by simp),if_pos (by simp),if_pos (by simp),if_pos (by simp)]
  have r0:rd [Lib.itoa (partsR d).1,nameR (partsR d).1 (partsR d).2.1,Lib.itoa (partsR d).2.2.1] 0=Lib.itoa (partsR d).1:=rfl
  have r1:rd [Lib.itoa (partsR d).1,nameR (partsR d).1 (partsR d).2.1,Lib.itoa (partsR d).2.2.1] 1=nameR (partsR d).1 (partsR d).2.1:=rfl
  have r2:rd [Lib.itoa (partsR d).1,nameR (partsR d).1 (partsR d).2.1,Lib.itoa (partsR d).2.2.1] 2=Lib.itoa (partsR d).2.2.1:=rfl
  rw [r0,r1,r2,kn,Option.bind_some]
  simp only
  rw [if_neg (by simp),ht,Option.bind_some,Option.bind_some,bstr_toList,if_neg (by simp)]
 ·have e:textD d=63::58::hex8 d:=by unfold textD;rw [if_neg h]
  have es:spl 58 (63::58::hex8 d)=[[63],hex8 d]:=by
   have:=spl_app (c:=58) (a:=[63]) (hex8 d) (by decide)
   rw [spl_free (hex8_free d hB)] at this
   exact this
  rw [e] at ht ⊢
  have r1:rd [[63],hex8 d] 1=hex8 d:=rfl
  rw [es,if_pos (by simp),if_pos (by simp),r1,strange_ok k d hd hB (by omega),Option.bind_some,ht,Option.bind_some,bstr_toList,if_neg (by simp)]
theorem spl_mem_len (c:UInt8):∀ (s:List UInt8),∀ x∈spl c s,x.length≤s.length
 | [],x,h=>by simp [spl] at h;simp [h]
 | y::s,x,h=>by
  rw [spl] at h
  by_cases e:y=c
  ·rw [if_pos e] at h
   rcases List.mem_cons.1 h with rfl | h
   ·simp
   ·have:=spl_mem_len c s x h;simp;omega
  ·rw [if_neg e] at h
   obtain ⟨z,zs,ez⟩:=spl_pos c s
   rw [ez] at h
   simp only at h
   rcases List.mem_cons.1 h with rfl | h
   ·have:=spl_mem_len c s z (by rw [ez];simp);simp;omega
   ·have:=spl_mem_len c s x (by rw [ez];simp [h]);simp;omega
theorem rd_mem (l:List (List UInt8)) (i:Nat) (h:i < l.length):rd l (i:Int)∈l:=by
 have:rd l (i:Int)=l[i]:=by unfold rd;rw [Int.toNat_natCast,List.getD_eq_getElem?_getD,List.getElem?_eq_getElem h];rfl
 rw [this];exact List.getElem_mem h
theorem rdparse_any (k:Nat) (s:List UInt8) (hs:s.length≤2000000) (hk:2005000≤k):∃ d e,rd_Parse.f k s=some (d,e)∧d.length=8∧isB d∧(e=0∧textD d=s∨e=4∧d=z8):=by
 have hz:(z8.length=8∧isB z8):=⟨rfl,isB_rep 8⟩
 have ml:∀ i:Nat,i < (spl 58 s).length→(rd (spl 58 s) (i:Int)).length≤2000000:=fun i hi=>by
  have:=spl_mem_len 58 s _ (rd_mem _ i hi);omega
 unfold rd_Parse.f
 rw [splitf_ok _ (by omega),Option.bind_some]
 by_cases h2:(spl 58 s).length=2
 ·have m1:=ml 1 (by omega)
  rw [show ((1:Nat):Int)=1 from rfl] at m1
  obtain ⟨d,e1,ld,bd⟩:=strangef_any k (rd (spl 58 s) 1) (by omega) (by omega)
  rw [if_pos (by simp [h2]),if_pos (by omega),e1,Option.bind_some,textd_ok k d ld bd (by omega),Option.bind_some,bstr_toList,bstr_toList]
  by_cases e:textD d=s
  ·rw [if_neg (by simpa using e)];exact ⟨_,_,rfl,ld,bd,.inl ⟨rfl,e⟩⟩
  ·rw [if_pos (by simpa using e)];exact ⟨_,_,rfl,hz.1,hz.2,.inr ⟨rfl,rfl⟩⟩
 ·rw [if_neg (by simp;omega)]
  by_cases h3:(spl 58 s).length=3
  ·have m0:=ml 0 (by omega);have m1:=ml 1 (by omega);have m2:=ml 2 (by omega)
   rw [show ((0:Nat):Int)=0 from rfl] at m0
   rw [show ((1:Nat):Int)=1 from rfl] at m1
   rw [show ((2:Nat):Int)=2 from rfl] at m2
   obtain ⟨d,b,e1,ld,bd⟩:=known_any k _ _ _ m0 m1 m2 hk
   rw [if_pos (by simp [h3]),if_pos (by omega),if_pos (by omega),if_pos (by omega),e1,Option.bind_some]
   cases b with
   | false=>rw [if_pos (by simp),Option.bind_some,if_pos rfl];exact ⟨_,_,rfl,hz.1,hz.2,.inr ⟨rfl,rfl⟩⟩
   | true =>
    simp only
    rw [if_neg (by simp),textd_ok k d ld bd (by omega),Option.bind_some,Option.bind_some,bstr_toList,bstr_toList]
    by_cases e:textD d=s
    ·rw [if_neg (by simpa using e)];exact ⟨_,_,rfl,ld,bd,.inl ⟨rfl,e⟩⟩
    ·rw [if_pos (by simpa using e)];exact ⟨_,_,rfl,hz.1,hz.2,.inr ⟨rfl,rfl⟩⟩
  ·rw [if_neg (by simp;omega)];exact ⟨_,_,rfl,hz.1,hz.2,.inr ⟨rfl,rfl⟩⟩
theorem le8_iff (x y:List Int):le8 x y=true↔b2s (arL 8 x)≤b2s (arL 8 y):=by
 simp only [le8,cmp8,Bool.not_eq_true',decide_eq_false_iff_not,sx_lt,List.not_lt]
theorem ms_eq {l m:List (List Int)} (hv:∀ x∈l,ok8b x=true) (hp:m.Perm l) (hs:m.Pairwise (fun x y=>le8 x y=true)):l.mergeSort le8=m:=by
 refine List.Perm.eq_of_pairwise (le:=fun x y=>le8 x y=true) ?_ ?_ hs ((List.mergeSort_perm l le8).trans hp.symm)
 ·intro a b ha hb h1 h2
  rw [le8_iff] at h1 h2
  exact ok8_inj (hv a ((List.mergeSort_perm l le8).mem_iff.1 ha)) (hv b (hp.mem_iff.1 hb)) (List.le_antisymm h1 h2)
 ·refine List.pairwise_mergeSort ?_ ?_ l
  ·intro a b c h1 h2
   rw [le8_iff] at *
   exact List.le_trans h1 h2
  ·intro a b
   rw [Bool.or_eq_true,le8_iff,le8_iff]
   exact List.le_total _ _
def smA:List Int:=[0,2,253,232,0,0,0,77]
def smB:List Int:=[1,11,10,0,0,1,0,3]
theorem small_set:community_Set.f [smB,smA,smB]=some [smA,smB]:=by
 have h:[smB,smA,smB].mergeSort le8=[smA,smB,smB]:=ms_eq (by decide) (by decide) (by decide)
 unfold community_Set.f
 rw [if_pos (by decide)]
 unfold setE
 rw [h]
 rfl
theorem small04 (k:Nat):vinerylaw04_small.f (k+60)=some true:=by
 have hT:community_Target.f (k+60) 0 65000 77=some (smA,0):=by kernel_rfl
 have hI:community_Import.f (k+60) ⟨4,[10,0,0,1,0,0,0,0,0,0,0,0,0,0,0,0]⟩ 3=some (smB,0):=by kernel_rfl
 have hC:community_Source.f (k+60) 65000=some ([2,9,0,0,253,232,0,0],0):=by kernel_rfl
 unfold vinerylaw04_small.f
 rw [hT,Option.bind_some,hI,Option.bind_some,hC,Option.bind_some]
 show (community_Set.f [smB,smA,smB]).bind _=_
 rw [small_set,Option.bind_some]
 kernel_rfl
def z8c:List Int:=[0,0,0,0,0,0,0,0]
theorem comm_of6 (a b:Int) (r:List Int) (hr:r.length=6):community_of.f a b r=some (a::b::r):=by
 match r,hr with
 | [_,_,_,_,_,_],_=>rfl
theorem comm_of4 (a b:Int) (r:List Int) (hr:r.length=4):community_of.f a b r=some (a::b::(r++[0,0])):=by
 match r,hr with
 | [_,_,_,_],_=>rfl
def targR (kind h l:Int):List Int×Int:=if (makeR kind h l).2=0 then (IntKind.u8.wrap kind::2::(makeR kind h l).1.drop 2,0) else (z8c,(makeR kind h l).2)
def impR (a:S_api_Addr) (n:Int):List Int×Int:=if rightB a=true∧a.Size=4 then (if 0≤n∧n < 65536 then (1::11::(rootL a++putL n 2),0) else (z8c,5)) else (z8c,1)
def srcR (n:Int):List Int×Int:=if 0≤n∧n < 4294967296 then (2::9::(putL n 4++[0,0]),0) else (z8c,5)
theorem makeR_len (kind h l:Int):(makeR kind h l).1.length=8:=by
 unfold makeR
 rcases hiS_or kind with ⟨_,e⟩ | ⟨_,e⟩ | ⟨_,_,_,e⟩
 ·split
  ·rfl
  ·split
   ·unfold rdL loS
    rw [e]
    simp [putL]
   ·rfl
 ·split
  ·rfl
  ·split
   ·unfold rdL loS
    rw [e]
    simp [putL]
   ·rfl
 ·rw [if_pos e];rfl
theorem targ_ok (k:Nat) (kind h l:Int):community_Target.f (k+20) kind h l=some (targR kind h l):=by
 unfold community_Target.f targR
 rw [make_ok (k+15),Option.bind_some]
 have hl:=makeR_len kind h l
 generalize makeR kind h l=m at hl ⊢
 by_cases h0:m.2=0
 ·rw [if_neg (by simp [h0]),if_pos (by decide),arL8 hl,comm_of6 _ _ _ (by simp;omega),Option.bind_some,if_pos h0]
  rw [show Int.toNat (8:Int)=8 from rfl,← hl,List.take_length];rfl
 ·rw [if_pos (by simp [h0]),if_neg h0];rfl
theorem no4 (a:S_api_Addr):(if (!rightB a)=true then some (true:Bool) else some (a.Size != (4:Int):Bool))=some (!(rightB a && a.Size==4)):=by
 cases rightB a<;>rfl
theorem imp_ok (k:Nat) (a:S_api_Addr) (n:Int):community_Import.f (k+20) a n=some (impR a n):=by
 unfold community_Import.f impR
 rw [right_ok,Option.bind_some,no4,Option.bind_some]
 by_cases hr:rightB a=true∧a.Size=4
 ·have hl:=rootL_length a hr.1
  have e:(!(rightB a && a.Size==4))=false:=by simp [hr.1,hr.2]
  rw [e,if_neg (by decide),addrbytes_ok k a hr.1,Option.bind_some,show (2:Int)=((2:Nat):Int) from rfl,put_any (k+15) _ _ 2 (by omega) (by omega) (by omega),Option.bind_some,if_pos hr]
  by_cases hn:0≤n∧n < 65536
  ·have e2:(decide (0≤n) && decide (n < 2^(8*2)))=true:=by simp;omega
   rw [e2,if_pos rfl,if_neg (by simp),comm_of6 _ _ _ (by simp [putL];omega),Option.bind_some,if_pos hn]
  ·have e2:(decide (0≤n) && decide (n < 2^(8*2)))=false:=by simp;omega
   rw [e2,if_neg (by decide:¬ (false=true)),if_neg hn];rfl
 ·have e:(!(rightB a && a.Size==4))=true:=by
   rw [Bool.not_eq_true',Bool.and_eq_false_iff]
   by_cases h1:rightB a=true
   ·exact .inr (by simpa using fun h=>hr ⟨h1,h⟩)
   ·exact .inl (by simpa using h1)
  rw [e,if_pos rfl,if_neg hr];rfl
theorem src_ok (k:Nat) (n:Int):community_Source.f (k+20) n=some (srcR n):=by
 unfold community_Source.f srcR
 rw [show (4:Int)=((4:Nat):Int) from rfl,put_any (k+15) _ _ 4 (by simp) (by omega) (by omega),Option.bind_some]
 by_cases hn:0≤n∧n < 4294967296
 ·have e2:(decide (0≤n) && decide (n < 2^(8*4)))=true:=by simp;omega
  rw [e2,if_pos rfl,if_neg (by simp),comm_of4 _ _ _ (by simp [putL]),Option.bind_some,if_pos hn];rfl
 ·have e2:(decide (0≤n) && decide (n < 2^(8*4)))=false:=by simp;omega
  rw [e2,if_neg (by decide:¬ (false=true)),if_neg hn];rfl
theorem es8 (z:List Int):eqA 8 z z=true:=(eqA_iff _ _ _).2 fun _ _=>rfl
def kindR (e:List Int):Int:=if ar e 1=2∧ar e 0≤2 then 1 else if ar e 1=11∧ar e 0=1 then 2 else if ar e 1=9∧ar e 0=2∧(IntKind.u8.wrap (BitVec.ofInt IntKind.u8.bits (ar e 6) ||| BitVec.ofInt IntKind.u8.bits (ar e 7)).toNat)=0 then 3 else 0
theorem and3 (p q:Prop) [Decidable p] [Decidable q] (x y:Bool) (hx:x=true↔p) (hy:y=true↔q):(if x=true then some (y:Bool) else some false)=some (decide (p∧q)):=by
 by_cases hp:p<;>by_cases hq:q<;>simp_all
theorem kind_ok (e:List Int):community_Kind.f e=some (kindR e):=by
 unfold community_Kind.f kindR
 have h1:=and3 (ar e 1=2) (ar e 0≤2) (ar e 1==2) (decide (ar e 0≤2)) (by simp) (by simp)
 have h2:=and3 (ar e 1=11) (ar e 0=1) (ar e 1==11) (ar e 0==1) (by simp) (by simp)
 have h3:(if (ar e 1==(9:Int))=true then (if (ar e 0==(2:Int))=true then some ((IntKind.u8.wrap (BitVec.ofInt IntKind.u8.bits (ar e 6) ||| BitVec.ofInt IntKind.u8.bits (ar e 7)).toNat)==(0:Int):Bool) else some (false:Bool)) else some (false:Bool))=some (decide (ar e 1=9∧ar e 0=2∧(IntKind.u8.wrap (BitVec.ofInt IntKind.u8.bits (ar e 6) ||| BitVec.ofInt IntKind.u8.bits (ar e 7)).toNat)=0)):=by
  generalize (IntKind.u8.wrap (BitVec.ofInt IntKind.u8.bits (ar e 6) ||| BitVec.ofInt IntKind.u8.bits (ar e 7)).toNat:Int)=q
  by_cases p1:ar e 1=9<;>by_cases p2:ar e 0=2<;>by_cases p3:q=0<;>simp_all
 rw [h1,Option.bind_some]
 by_cases c1:ar e 1=2∧ar e 0≤2
 ·rw [if_pos (decide_eq_true c1),if_pos c1]
 ·rw [if_neg (by simpa using c1),if_neg c1,h2,Option.bind_some]
  by_cases c2:ar e 1=11∧ar e 0=1
  ·rw [if_pos (decide_eq_true c2),if_pos c2]
  ·rw [if_neg (by simpa using c2),if_neg c2,h3,Option.bind_some]
   split
   ·rename_i c3;rw [if_pos (of_decide_eq_true c3)]
   ·rename_i c3;rw [if_neg (by simpa using c3)]
theorem rdx {α:Type} [Inhabited α] (l:List α) (i:Nat) (hi:i < l.length):rd l (i:Int)=l[i]:=by simp [rd,List.getD,hi]
theorem ctext_l0 (d:List Int) (hd:d.length=8) (hB:isB d):∀ (m i k:Nat) (out:List Int),i+m=8→m < k→out.length≤6+2*i→∃ r,community_Text.l0 d k out (i:Int)=some r∧b2s r=b2s out++hex8 (d.drop i)
 | 0,i,k,out,hi,hk,ho=>by
  obtain ⟨k,rfl⟩:∃ k',k=k'+1:=⟨k - 1,by omega⟩
  exact ⟨out,by rw [community_Text.l0,if_neg (by simp;omega)],by rw [List.drop_of_length_le (by omega)];simp [hex8]⟩
 | m+1,i,k,out,hi,hk,ho=>by
  obtain ⟨k,rfl⟩:∃ k',k=k'+1:=⟨k - 1,by omega⟩
  have hb:=ar_isB hB i
  have hil:i < d.length:=by omega
  have e3:IntKind.i64.wrap ((i:Int)+1)=((i+1:Nat):Int):=by rw [w64 _ (by omega)];omega
  have es:Int.fdiv (ar d i) (2^(min (4:Int).toNat IntKind.u8.bits))=(((ar d i).toNat / 16:Nat):Int):=by
   have:((2:Int)^(min (4:Int).toNat IntKind.u8.bits))=16:=rfl
   rw [this,Int.fdiv_eq_ediv_of_nonneg _ (by omega)];omega
  have g1:=digs16 ⟨(ar d i).toNat / 16,by omega⟩
  have g2:=digs16 ⟨(ar d i).toNat % 16,by omega⟩
  simp only at g1 g2
  rw [community_Text.l0,if_pos (by simp;omega),if_pos (by omega),Int.toNat_natCast,es,and_15 _ hb,e3,Int.toNat_natCast,Int.toNat_natCast,if_pos (by simp;omega),if_pos (by simp;omega),g1,g2,if_pos (by simp;omega)]
  obtain ⟨r,h1,h2⟩:=ctext_l0 d hd hB m (i+1) k (out++[((dgt ((ar d i).toNat / 16)).toNat:Int),((dgt ((ar d i).toNat % 16)).toNat:Int)]) (by omega) (by omega) (by simp;omega)
  refine ⟨r,h1,?_⟩
  rw [h2,List.drop_eq_getElem_cons hil,ar_at _ _ hil]
  simp [b2s,hex8,List.map_append]
theorem raw_any (s:List UInt8) (hs:s.length≤10000000):∀ (n p k:Nat) (x:List Int),s.length - p≤n→n < k→x.length=8→isB x→∃ r,community_raw.l0 s k x p=some r∧((∃ q,r=.inl q∧q.length=8∧isB q)∨∃ q p',r=.inr (q,p')∧q.length=8∧isB q):=by
 intro n
 induction n with
 | zero =>
  intro p k x hn hk hx hb
  obtain ⟨k,rfl⟩:∃ k',k=k'+1:=⟨k - 1,by omega⟩
  exact ⟨.inr (x,p),by rw [community_raw.l0,if_neg (by omega)],.inr ⟨x,p,rfl,hx,hb⟩⟩
 | succ n ih =>
  intro p k x hn hk hx hb
  obtain ⟨k,rfl⟩:∃ k',k=k'+1:=⟨k - 1,by omega⟩
  by_cases hp:p < s.length
  ·have hz:isB [(0:Int),0,0,0,0,0,0,0]:=isB_rep 8
   have hpos:=dec_pos s p hp
   rw [community_raw.l0,if_pos hp]
   obtain ⟨c,hc⟩:∃ c:Int,((if (decide (((dec s p).1:Int) ≥ (97:Int)))=true then some (IntKind.i32.wrap ((IntKind.i32.wrap (((dec s p).1:Int) - (97:Int)))+(10:Int)):Int) else some (IntKind.i32.wrap (((dec s p).1:Int) - (48:Int)):Int)))=some c:=ite_ind (P:=fun z=>∃ c:Int,z=some c) ⟨_,rfl⟩ ⟨_,rfl⟩
   rw [hc,Option.bind_some,tdiv2 p (by omega)]
   by_cases g:0≤c∧c≤15∧p < 16
   ·rw [decide_eq_false (by omega:¬ c < 0),decide_eq_false (by omega:¬ c > 15),decide_eq_false (by omega:¬ (p:Int) ≥ 16),if_neg (by simp),if_pos (by omega),if_pos (by omega),arL8e hx,Int.toNat_natCast]
    refine ih _ k _ (by omega) (by omega) (by simpa using hx) fun y hy=>?_
    rcases List.mem_or_eq_of_mem_set hy with hy | rfl
    ·exact hb y hy
    ·rw [IntKind.wrap_u8];omega
   ·rw [if_pos]
    ·exact ⟨_,rfl,.inl ⟨_,rfl,rfl,hz⟩⟩
    ·by_cases g1:c < 0
     ·simp [g1]
     ·by_cases g2:c > 15
      ·simp [g2]
      ·rw [decide_eq_true (show (p:Int) ≥ 16 by omega),ite_self]
  ·exact ⟨.inr (x,p),by rw [community_raw.l0,if_neg hp],.inr ⟨x,p,rfl,hx,hb⟩⟩
theorem rawf_any (k:Nat) (s:List UInt8) (hs:s.length≤10000000) (hk:s.length < k):∃ d,community_raw.f k s=some d∧d.length=8∧isB d:=by
 unfold community_raw.f
 obtain ⟨r,hr,hx⟩:=raw_any s hs s.length 0 k (List.replicate 8 0) (by omega) hk (by simp) (isB_rep 8)
 rw [hr,Option.bind_some]
 rcases hx with ⟨q,rfl,h1,h2⟩ | ⟨q,p',rfl,h1,h2⟩
 ·exact ⟨q,rfl,h1,h2⟩
 ·exact ⟨q,rfl,h1,h2⟩
theorem raw_step (s:List UInt8) (p k:Nat) (x:List Int) (hx:x.length=8) (c:Nat) (hc:c < 16) (hp:p < 16) (rest:List UInt8) (h:s.drop p=dgt c::rest) :
  community_raw.l0 s (k+1) x p=community_raw.l0 s k (x.set (p / 2) (shl4 (ar x (p / 2)) c)) (p+1):=by
 have hpl:p < s.length:=by
  have:=congrArg List.length h
  rw [List.length_drop,List.length_cons] at this
  omega
 have hcc:s[p]=dgt c:=by
  have:=congrArg (fun l=>l[0]?) h
  simp only [List.getElem?_drop,Nat.add_zero,List.getElem?_cons_zero] at this
  rw [List.getElem?_eq_getElem hpl] at this
  exact Option.some.inj this
 have hdn:=dgt_toNat hc
 have hdec:dec s p=((dgt c).toNat,1):=by
  rw [dec_ascii s p hpl (by rw [hcc,hdn];split<;>omega),hcc]
 have ec:((if (decide (((dgt c).toNat:Int) ≥ (97:Int)))=true then some (IntKind.i32.wrap ((IntKind.i32.wrap (((dgt c).toNat:Int) - (97:Int)))+(10:Int)):Int) else some (IntKind.i32.wrap (((dgt c).toNat:Int) - (48:Int)):Int)))=some (c:Int):=by
  rw [hdn]
  by_cases h1:c < 10
  ·rw [if_pos h1,if_neg (by simp;omega),w32 _ (by omega)];congr 1;omega
  ·rw [if_neg h1,if_pos (by simp;omega),w32 (((87+c:Nat):Int) - 97) (by omega),w32 _ (by omega)];congr 1;omega
 rw [community_raw.l0,if_pos hpl,hdec]
 simp only
 rw [ec,Option.bind_some,tdiv2 p (by omega),decide_eq_false (by omega:¬ (c:Int) < 0),decide_eq_false (by omega:¬ (c:Int) > 15),decide_eq_false (by omega:¬ (p:Int) ≥ 16),if_neg (by simp),if_pos (by omega),if_pos (by omega),arL8e hx,Int.toNat_natCast]
 rfl
theorem raw_two (s:List UInt8) (i k:Nat) (x:List Int) (hx:x.length=8) (b:Int) (hb:0≤b∧b≤255) (hi:i < 8) (h0:ar x i=0) (rest:List UInt8) (h:s.drop (2*i)=dgt (b.toNat / 16)::dgt (b.toNat % 16)::rest) :
  community_raw.l0 s (k+2) x (2*i)=community_raw.l0 s k (x.set i b) (2*i+2):=by
 have h2:s.drop (2*i+1)=dgt (b.toNat % 16)::rest:=by
  have:=congrArg (List.drop 1) h
  rw [List.drop_drop] at this
  exact this
 have q0:=shl4_0 ⟨b.toNat / 16,by omega⟩
 have q1:=shl4_d ⟨b.toNat / 16,by omega⟩ ⟨b.toNat % 16,by omega⟩
 simp only at q0 q1
 rw [raw_step s (2*i) (k+1) x hx (b.toNat / 16) (by omega) (by omega) _ h,show 2*i / 2=i by omega,h0,q0,
  raw_step s (2*i+1) k _ (by simpa using hx) (b.toNat % 16) (by omega) (by omega) _ h2,show (2*i+1) / 2=i by omega]
 have ea:ar (x.set i ((b.toNat / 16:Nat):Int)) i=((b.toNat / 16:Nat):Int):=by rw [ar_setD _ _ _ _ (by omega),if_pos rfl]
 rw [ea,q1,List.set_set,show ((16*(b.toNat / 16)+b.toNat % 16:Nat):Int)=b by omega]
theorem raw_go (s:List UInt8) (d:List Int) (hd:d.length=8) (hB:isB d):∀ (m i k:Nat),i+m=8→s.drop (2*i)=hex8 (d.drop i)→2*m < k→community_raw.l0 s k (d.take i++List.replicate m 0) (2*i)=some (.inr (d,16))
 | 0,i,k,hi,hs,hk=>by
  obtain ⟨k,rfl⟩:∃ k',k=k'+1:=⟨k - 1,by omega⟩
  have hl:s.length≤2*i:=by
   rw [List.drop_of_length_le (show d.length≤i by omega)] at hs
   have:=congrArg List.length hs
   rw [List.length_drop] at this
   simp [hex8] at this
   omega
  rw [community_raw.l0,if_neg (by omega),List.take_of_length_le (by omega),show 2*i=16 by omega]
  simp
 | m+1,i,k,hi,hs,hk=>by
  obtain ⟨k,rfl⟩:∃ k',k=k'+2:=⟨k - 2,by omega⟩
  have hil:i < d.length:=by omega
  have hb:=hB d[i] (List.getElem_mem hil)
  have lt:(d.take i).length=i:=by rw [List.length_take];omega
  rw [List.drop_eq_getElem_cons hil,hex8] at hs
  rw [raw_two s i k _ (by simp [lt];omega) d[i] hb (by omega) (by unfold ar;rw [List.getD_eq_getElem?_getD,List.getElem?_append_right (by omega),lt,Nat.sub_self];simp) _ hs]
  have e:(d.take i++List.replicate (m+1) (0:Int)).set i d[i]=d.take (i+1)++List.replicate m 0:=by
   rw [List.set_append_right _ _ (by omega),lt,Nat.sub_self,List.replicate_succ,List.set_cons_zero,List.take_add_one,List.getElem?_eq_getElem hil,List.append_assoc]
   rfl
  rw [e,show 2*i+2=2*(i+1) by omega]
  refine raw_go s d hd hB m (i+1) k (by omega) ?_ (by omega)
  have:=congrArg (List.drop 2) hs
  rw [List.drop_drop] at this
  exact this
theorem raw_ok (k:Nat) (d:List Int) (hd:d.length=8) (hB:isB d) (hk:20≤k):community_raw.f k (hex8 d)=some d:=by
 unfold community_raw.f
 have:=raw_go (hex8 d) d hd hB 8 0 k rfl (by simp) (by omega)
 simp only [List.take_zero,List.nil_append,Nat.mul_zero] at this
 rw [this];rfl
theorem cnumber_any (k:Nat) (s:List UInt8) (hs:s.length≤10000000) (hk:s.length < k):∃ n,community_number.f k s=some n:=by
 unfold community_number.f
 have go:∀ (n p k:Nat) (x:Int),s.length - p≤n→n < k→∃ r,community_number.l0 s k x p=some r:=by
  intro n
  induction n with
  | zero =>
   intro p k x hn hk
   obtain ⟨k,rfl⟩:∃ k',k=k'+1:=⟨k - 1,by omega⟩
   exact ⟨.inr (x,p),by rw [community_number.l0,if_neg (by omega)]⟩
  | succ n ih =>
   intro p k x hn hk
   obtain ⟨k,rfl⟩:∃ k',k=k'+1:=⟨k - 1,by omega⟩
   by_cases hp:p < s.length
   ·have hpos:=dec_pos s p hp
    rw [community_number.l0,if_pos hp]
    exact ite_ind (P:=fun z=>∃ r,z=some r) ⟨_,rfl⟩ (ih _ k _ (by omega) (by omega))
   ·exact ⟨.inr (x,p),by rw [community_number.l0,if_neg hp]⟩
 obtain ⟨r,hr⟩:=go s.length 0 k 0 (by omega) hk
 rw [hr,Option.bind_some]
 rcases r with n | ⟨n,p⟩<;>exact ⟨_,rfl⟩
theorem cnumber_go (s:List UInt8):∀ (u k p:Nat) (rest:List UInt8),s.drop p=numD 10 u++rest→u < 1000000000000→p+(numD 10 u).length≤10 →
  community_number.l0 s (k+(numD 10 u).length) 0 p=community_number.l0 s k (u:Int) (p+(numD 10 u).length):=by
 have one:∀ (x d p k:Nat) (rest:List UInt8),x < 1000000000000→d < 10→p < 10→s.drop p=dgt d::rest→community_number.l0 s (k+1) (x:Int) p=community_number.l0 s k ((x*10+d:Nat):Int) (p+1):=by
  intro x d p k rest hx hd hp h
  have hpl:p < s.length:=by
   have:=congrArg List.length h
   rw [List.length_drop,List.length_cons] at this
   omega
  have hcc:s[p]=dgt d:=by
   have:=congrArg (fun l=>l[0]?) h
   simp only [List.getElem?_drop,Nat.add_zero,List.getElem?_cons_zero] at this
   rw [List.getElem?_eq_getElem hpl] at this
   exact Option.some.inj this
  have hdn:=dgt_toNat (d:=d) (by omega)
  rw [if_pos hd] at hdn
  have hdec:dec s p=(48+d,1):=by
   rw [dec_ascii s p hpl (by rw [hcc,hdn];omega),hcc,hdn]
  rw [community_number.l0,if_pos hpl,hdec]
  simp only
  rw [decide_eq_false (by omega:¬ ((48+d:Nat):Int) < 48),decide_eq_false (by omega:¬ ((48+d:Nat):Int) > 57),decide_eq_false (by omega:¬ (p:Int) ≥ 10),if_neg (by simp),w32 _ (by omega),w64 (((48+d:Nat):Int) - 48) (by omega),w64 ((10:Int)*x) (by omega),w64 _ (by omega)]
  congr 1;omega
 intro u
 induction u using Nat.strongRecOn with
 | ind u ih =>
  intro k p rest hsd hu hp
  by_cases hsm:u < 10
  ·rw [numD_small hsm] at hsd hp ⊢
   have:=one 0 u p k rest (by decide) hsm (by simp at hp;omega) hsd
   simpa using this
  ·have hbig:=numD_big (base:=10) (u:=u) (by omega) (by decide)
   rw [hbig] at hsd hp ⊢
   rw [List.append_assoc] at hsd
   rw [List.length_append,List.length_singleton] at hp
   have i1:=ih (u / 10) (by omega) (k+1) p ([dgt (u % 10)]++rest) hsd (by omega) (by omega)
   rw [List.length_append,List.length_singleton,show k+((numD 10 (u / 10)).length+1)=(k+1)+(numD 10 (u / 10)).length by omega,i1]
   have:=one (u / 10) (u % 10) (p+(numD 10 (u / 10)).length) k rest (by omega) (by omega) (by omega) (by
    have:=congrArg (List.drop (numD 10 (u / 10)).length) hsd
    rw [List.drop_drop,List.drop_left] at this
    exact this)
   rw [this,show u / 10*10+u % 10=u by omega,Nat.add_assoc]
theorem cnumber_ok (k:Nat) (n:Int) (h:0≤n∧n < 4294967296) (hk:20≤k):community_number.f k (Lib.itoa n)=some n:=by
 rw [itoa_nat n h.1,numD_dec]
 have hl:=dec10 n.toNat (by omega)
 have h1:=numD_len (base:=10) (by decide) n.toNat
 have:=cnumber_go (numD 10 n.toNat) n.toNat (k - (numD 10 n.toNat).length) 0 [] (by simp) (by omega) (by omega)
 rw [show k - (numD 10 n.toNat).length+(numD 10 n.toNat).length=k by omega,Nat.zero_add] at this
 unfold community_number.f
 obtain ⟨k',e⟩:∃ k',k - (numD 10 n.toNat).length=k'+1:=⟨k - (numD 10 n.toNat).length - 1,by omega⟩
 rw [this,e,community_number.l0,if_neg (by omega),Option.bind_some,show ((n.toNat:Nat):Int)=n by omega]
theorem list8 (e:List Int) (h:e.length=8):∃ a b c d p q r s:Int,e=[a,b,c,d,p,q,r,s]:=by
 match e,h with
 | [a,b,c,d,p,q,r,s],_=>exact ⟨a,b,c,d,p,q,r,s,rfl⟩
def impA (e:List Int):S_api_Addr:=⟨4,arC 16 zeros ((e.take 6).drop 2)⟩
def importR (e:List Int):S_api_Addr×Int×Bool:=if kindR e=2 then (impA e,numL (e.drop 6) 0,true) else (⟨0,List.replicate 16 0⟩,0,false)
def asR (e:List Int):Int×Bool:=if kindR e=3 then (numL ((e.take 6).drop 2) 0,true) else (0,false)
theorem rest_ok (e:List Int) (h:e.length=8):community_rest.f e=some ⟨⟨e.drop 2,false⟩⟩:=by
 unfold community_rest.f cursor_Open.f
 rw [if_pos (by decide),arL8 h,show Int.toNat (8:Int)=8 from rfl,← h,List.take_length,clone_ok _ (by simp;omega)]
 rfl
theorem importer_ok (k:Nat) (e:List Int) (h:e.length=8):community_Importer.f (k+5) e=some (importR e):=by
 unfold community_Importer.f importR
 rw [kind_ok,Option.bind_some]
 by_cases hk:kindR e=2
 ·rw [if_neg (by simp [hk]),if_pos hk,rest_ok e h,Option.bind_some,take_ok ⟨⟨e.drop 2,false⟩⟩ 4 (by simp;omega) rfl (by decide) (by simp;omega),Option.bind_some,of_ok,Option.bind_some]
  have l4:((e.drop 2).take (Int.toNat (4:Int))).length=4:=by simp;omega
  rw [l4,if_pos (by decide)]
  have n2:=num_ok k ⟨⟨(e.drop 2).drop (Int.toNat (4:Int)),false⟩⟩ 2 rfl (by decide) (by decide) (by simp;omega)
  simp only [n2,Option.bind_some]
  have t1:(e.drop 2).take (Int.toNat (4:Int))=(e.take 6).drop 2:=by rw [List.drop_take];rfl
  have t2:((e.drop 2).drop (Int.toNat (4:Int))).take (Int.toNat (2:Int))=e.drop 6:=by rw [List.drop_drop,List.take_of_length_le (by simp;omega)];rfl
  rw [t2]
  unfold impA
  rw [t1];rfl
 ·rw [if_pos (by simpa using hk),if_neg hk]
theorem as_ok (k:Nat) (e:List Int) (h:e.length=8):community_AS.f (k+5) e=some (asR e):=by
 unfold community_AS.f asR
 rw [kind_ok,Option.bind_some]
 by_cases hk:kindR e=3
 ·rw [if_neg (by simp [hk]),if_pos hk,rest_ok e h,Option.bind_some]
  have n2:=num_ok k ⟨⟨e.drop 2,false⟩⟩ 4 rfl (by decide) (by decide) (by simp;omega)
  simp only [n2,Option.bind_some]
  rw [List.drop_take];rfl
 ·rw [if_pos (by simpa using hk),if_neg hk]
def rdC (e:List Int):List Int:=0::ar e 0::e.drop 2
def textC (e:List Int):List UInt8:=if kindR e=1 then [114,116,58]++textD (rdC e) else if kindR e=2 then (([105,109,112,111,114,116,58]++textA (impA e))++[58])++Lib.itoa (numL (e.drop 6) 0) else if kindR e=3 then [115,111,117,114,99,101,58]++Lib.itoa (numL ((e.take 6).drop 2) 0) else [111,116,104,101,114,58]++hex8 e
theorem rdC_ok (e:List Int) (h:e.length=8) (hB:isB e):(rdC e).length=8∧isB (rdC e):=by
 obtain ⟨a,b,c,d,p,q,r,s,rfl⟩:=list8 e h
 refine ⟨rfl,fun y hy=>?_⟩
 simp [rdC,ar] at hy
 rcases hy with rfl | rfl | rfl | rfl | rfl | rfl | rfl | rfl
 ·decide
 all_goals exact hB _ (by simp)
theorem impA_ok (e:List Int) (h:e.length=8) (hB:isB e):adrB (impA e)∧rightB (impA e)=true∧rootL (impA e)=(e.take 6).drop 2:=by
 obtain ⟨a,b,c,d,p,q,r,s,rfl⟩:=list8 e h
 refine ⟨⟨fun y hy=>?_,rfl⟩,by unfold impA;kernel_rfl,by unfold impA;kernel_rfl⟩
 have:(impA [a,b,c,d,p,q,r,s]).B=[c,d,p,q,0,0,0,0,0,0,0,0,0,0,0,0]:=rfl
 rw [this] at hy
 simp at hy
 rcases hy with rfl | rfl | rfl | rfl | rfl
 ·exact hB _ (by simp)
 ·exact hB _ (by simp)
 ·exact hB _ (by simp)
 ·exact hB _ (by simp)
 ·decide
theorem num2_range (e:List Int) (h:e.length=8) (hB:isB e):0≤numL (e.drop 6) 0∧numL (e.drop 6) 0 < 65536∧putL (numL (e.drop 6) 0) 2=e.drop 6:=by
 have hl:(e.drop 6).length=2:=by simp;omega
 have:=put_num (e.drop 6) (by omega) (by omega) (fun y hy=>hB y (List.mem_of_mem_drop hy))
 rw [hl] at this
 exact this
theorem num4_range (e:List Int) (h:e.length=8) (hB:isB e):0≤numL ((e.take 6).drop 2) 0∧numL ((e.take 6).drop 2) 0 < 4294967296∧putL (numL ((e.take 6).drop 2) 0) 4=(e.take 6).drop 2:=by
 have hl:((e.take 6).drop 2).length=4:=by simp;omega
 have:=put_num ((e.take 6).drop 2) (by omega) (by omega) (fun y hy=>hB y (List.mem_of_mem_take (List.mem_of_mem_drop hy)))
 rw [hl] at this
 exact this
theorem textC_ok (k:Nat) (e:List Int) (h:e.length=8) (hB:isB e) (hk:3000≤k):community_Text.f k e=some (textC e):=by
 obtain ⟨k',rfl⟩:∃ k',k=k'+5:=⟨k - 5,by omega⟩
 unfold community_Text.f textC
 rw [kind_ok,Option.bind_some]
 by_cases k1:kindR e=1
 ·have hd:=rdC_ok e h hB
  rw [if_pos (by simp [k1]),if_pos (by decide),if_pos k1]
  have er:((arL 8 ([(0:Int),ar e 0,(0:Int),(0:Int),(0:Int),(0:Int),(0:Int),(0:Int)]:List Int)).take 2++arC 6 ((arL 8 ([(0:Int),ar e 0,(0:Int),(0:Int),(0:Int),(0:Int),(0:Int),(0:Int)]:List Int)).drop 2) (((arL 8 e).take (Int.toNat (8:Int))).drop (Int.toNat (2:Int))))=rdC e:=by
   obtain ⟨a,b,c,d,p,q,r,s,rfl⟩:=list8 e h
   kernel_rfl
  rw [er,textd_ok _ _ hd.1 hd.2 (by omega),Option.bind_some,if_pos]
  have:=textD_len _ hd.1 hd.2
  simp only [List.length_append,List.length_cons,List.length_nil];omega
 ·rw [if_neg (by simpa using k1),if_neg k1]
  by_cases k2:kindR e=2
  ·have ha:=impA_ok e h hB
   have hn:=num2_range e h hB
   have hl:=textA_len _ ha.1
   have hi:=itoa_10 _ ⟨hn.1,by omega⟩
   have hI:importR e=(impA e,numL (e.drop 6) 0,true):=by unfold importR;rw [if_pos k2]
   rw [if_pos (by simp [k2]),if_pos k2,importer_ok k' e h,Option.bind_some,hI,text_any _ _ ha.1 (by omega),Option.bind_some,if_pos (by simp;omega),if_pos (by simp;omega),itoa_f64 _ hn.1 (by omega),Option.bind_some,if_pos (by simp;omega)]
  ·rw [if_neg (by simpa using k2),if_neg k2]
   by_cases k3:kindR e=3
   ·have hn:=num4_range e h hB
    have hi:=itoa_10 _ ⟨hn.1,hn.2.1⟩
    have hA:asR e=(numL ((e.take 6).drop 2) 0,true):=by unfold asR;rw [if_pos k3]
    rw [if_pos (by simp [k3]),if_pos k3,as_ok k' e h,Option.bind_some,hA,itoa_f64 _ hn.1 hn.2.1,Option.bind_some,if_pos (by simp;omega)]
   ·rw [if_neg (by simpa using k3),if_neg k3]
    obtain ⟨r,h1,h2⟩:=ctext_l0 e h hB 8 0 (k'+5) [111,116,104,101,114,58] rfl (by omega) (by simp)
    rw [show ((0:Nat):Int)=0 from rfl] at h1
    rw [h1,Option.bind_some,h2,List.drop_zero];rfl
def vE (e:List Int):Prop:=e.length=8∧isB e
def checkC (t:List Int×Int) (s:List UInt8):List Int×Int:=if t.2=0∧textC t.1=s then (t.1,0) else (z8c,4)
theorem fin_ok (k:Nat) (t:List Int×Int) (hv:vE t.1) (s:List UInt8) (hk:3000≤k):(((if (t.2 != (0:Int))=true then some (true:Bool) else (community_Text.f k t.1).bind fun t36=>some (!((bstr t36).toList==(bstr s).toList):Bool))).bind fun s27=>(if s27=true then some ((([(0:Int),(0:Int),(0:Int),(0:Int),(0:Int),(0:Int),(0:Int),(0:Int)]:List Int):List Int),((4:Int):Int)) else some ((t.1:List Int),((0:Int):Int))))=some (checkC t s):=by
 unfold checkC
 rw [textC_ok k t.1 hv.1 hv.2 hk,Option.bind_some,bstr_toList,bstr_toList]
 by_cases h0:t.2=0
 ·rw [if_neg (by simp [h0]),Option.bind_some]
  by_cases hs:textC t.1=s
  ·rw [if_neg (by simp [hs]),if_pos ⟨h0,hs⟩]
  ·rw [if_pos (by simpa using hs),if_neg (fun h=>hs h.2)];rfl
 ·rw [if_pos (by simpa using h0),Option.bind_some,if_pos rfl,if_neg (fun h=>h0 h.1)];rfl
theorem isB_putL (n:Int) (s:Nat):isB (putL n s):=by
 intro y hy
 unfold putL at hy
 split at hy<;>simp at hy<;>omega
theorem isB_cons {x:Int} {l:List Int} (h:0≤x∧x≤255) (hl:isB l):isB (x::l):=fun y hy=>by
 rcases List.mem_cons.1 hy with rfl | hy
 ·exact h
 ·exact hl y hy
theorem isB_app {l m:List Int} (hl:isB l) (hm:isB m):isB (l++m):=fun y hy=>(List.mem_append.1 hy).elim (hl y) (hm y)
theorem vz8:vE z8c:=⟨rfl,isB_rep 8⟩
theorem makeR_isB (a b c:Int):isB (makeR a b c).1:=by
 unfold makeR
 split
 ·exact isB_rep 8
 ·split
  ·exact isB_app (isB_app (isB_putL _ _) (isB_putL _ _)) (isB_putL _ _)
  ·exact isB_rep 8
theorem targ_v (a b c:Int):vE (targR a b c).1:=by
 unfold targR
 split
 ·refine ⟨by simp [makeR_len],isB_cons (by rw [IntKind.wrap_u8];omega) (isB_cons (by decide) fun y hy=>makeR_isB a b c y (List.mem_of_mem_drop hy))⟩
 ·exact vz8
theorem root_isB (a:S_api_Addr) (h:adrB a):isB (rootL a):=fun y hy=>by
 unfold rootL at hy
 have e:arL 16 a.B=a.B:=by have:=arL_self a.B;rwa [h.2] at this
 rw [e] at hy
 exact h.1 y (List.mem_of_mem_take hy)
theorem imp_v (a:S_api_Addr) (h:adrB a) (n:Int):vE (impR a n).1:=by
 unfold impR
 split
 ·rename_i hr
  split
  ·have:=rootL_length a hr.1
   exact ⟨by simp [putL];omega,isB_cons (by decide) (isB_cons (by decide) (isB_app (root_isB a h) (isB_putL _ _)))⟩
  ·exact vz8
 ·exact vz8
theorem src_v (n:Int):vE (srcR n).1:=by
 unfold srcR
 split
 ·exact ⟨by simp [putL],isB_cons (by decide) (isB_cons (by decide) (isB_app (isB_putL _ _) (isB_rep 2)))⟩
 ·exact vz8
theorem kind1 {e:List Int} (h:kindR e=1):ar e 1=2∧ar e 0≤2:=by
 unfold kindR at h
 split at h
 ·assumption
 ·split at h
  ·cases h
  ·split at h<;>cases h
theorem kind2 {e:List Int} (h:kindR e=2):ar e 1=11∧ar e 0=1:=by
 unfold kindR at h
 split at h
 ·cases h
 ·split at h
  ·assumption
  ·split at h<;>cases h
theorem or_0 (x y:Int) (hx:0≤x∧x≤255) (hy:0≤y∧y≤255):(IntKind.u8.wrap (BitVec.ofInt IntKind.u8.bits x ||| BitVec.ofInt IntKind.u8.bits y).toNat=0)↔x=0∧y=0:=by
 have h1:(x % ((2^8:Nat):Int)).toNat=x.toNat:=by
  have:((2^8:Nat):Int)=256:=rfl
  omega
 have h2:(y % ((2^8:Nat):Int)).toNat=y.toNat:=by
  have:((2^8:Nat):Int)=256:=rfl
  omega
 have hlt:x.toNat ||| y.toNat < 2^8:=Nat.or_lt_two_pow (by omega) (by omega)
 rw [BitVec.toNat_or,BitVec.toNat_ofInt,BitVec.toNat_ofInt,show IntKind.u8.bits=8 from rfl,h1,h2,IntKind.wrap_u8]
 constructor
 ·intro h
  have:x.toNat ||| y.toNat=0:=by omega
  rw [Nat.or_eq_zero_iff] at this
  omega
 ·rintro ⟨rfl,rfl⟩;rfl
theorem kind3 {e:List Int} (hB:isB e) (h:kindR e=3):ar e 1=9∧ar e 0=2∧ar e 6=0∧ar e 7=0:=by
 unfold kindR at h
 split at h
 ·cases h
 ·split at h
  ·cases h
  ·split at h
   ·rename_i h3
    exact ⟨h3.1,h3.2.1,(or_0 _ _ (ar_isB hB 6) (ar_isB hB 7)).1 h3.2.2⟩
   ·cases h
theorem targ_back (e:List Int) (hv:vE e) (h:kindR e=1):targR (partsR (rdC e)).1 (partsR (rdC e)).2.1 (partsR (rdC e)).2.2.1=(e,0):=by
 obtain ⟨h1,h0⟩:=kind1 h
 have hd:=rdC_ok e hv.1 hv.2
 have b0:=ar_isB hv.2 0
 have c0:ar e 0=0∨ar e 0=1∨ar e 0=2:=by omega
 have n1:numL ((rdC e).take 2) 0=ar e 0:=by
  show numL [0,ar e 0] 0=ar e 0
  rcases c0 with h | h | h<;>rw [h]<;>rfl
 have hs:hiS (ar e 0)≠0:=by rcases c0 with h | h | h<;>rw [h]<;>decide
 have hp:(partsR (rdC e)).2.2.2=true:=by unfold partsR;rw [n1,if_neg hs]
 have p1:(partsR (rdC e)).1=ar e 0:=by unfold partsR;rw [n1,if_neg hs]
 obtain ⟨q1,q2,q3⟩:=parts_back hd.1 hd.2 hp
 unfold targR makeR
 rw [if_neg q1,if_pos q2,if_pos rfl,q3,p1]
 obtain ⟨a,b,c,d,p,q,r,s,rfl⟩:=list8 e hv.1
 have h1:b=2:=h1
 have w:IntKind.u8.wrap (ar [a,b,c,d,p,q,r,s] 0)=a:=by
  show IntKind.u8.wrap a=a
  have b0:0≤a∧a≤255:=b0
  rw [IntKind.wrap_u8];omega
 rw [w,h1];rfl
theorem imp_back (e:List Int) (hv:vE e) (h:kindR e=2):impR (impA e) (numL (e.drop 6) 0)=(e,0):=by
 obtain ⟨h1,h0⟩:=kind2 h
 obtain ⟨ha,hr,hroot⟩:=impA_ok e hv.1 hv.2
 have hn:=num2_range e hv.1 hv.2
 unfold impR
 rw [if_pos ⟨hr,rfl⟩,if_pos ⟨hn.1,hn.2.1⟩,hroot,hn.2.2]
 obtain ⟨a,b,c,d,p,q,r,s,rfl⟩:=list8 e hv.1
 have h1:b=11:=h1
 have h0:a=1:=h0
 rw [h1,h0];rfl
theorem src_back (e:List Int) (hv:vE e) (h:kindR e=3):srcR (numL ((e.take 6).drop 2) 0)=(e,0):=by
 obtain ⟨h1,h0,h6,h7⟩:=kind3 hv.2 h
 have hn:=num4_range e hv.1 hv.2
 unfold srcR
 rw [if_pos ⟨hn.1,hn.2.1⟩,hn.2.2]
 obtain ⟨a,b,c,d,p,q,r,s,rfl⟩:=list8 e hv.1
 have h1:b=9:=h1
 have h0:a=2:=h0
 have h6:r=0:=h6
 have h7:s=0:=h7
 rw [h1,h0,h6,h7];rfl
def sRt:List UInt8:=[114,116]
def sImp:List UInt8:=[105,109,112,111,114,116]
def sSrc:List UInt8:=[115,111,117,114,99,101]
def sOth:List UInt8:=[111,116,104,101,114]
theorem cutC (e:List Int):(kindR e=1∧Lib.cut (textC e) [58]=(sRt,textD (rdC e),true))∨(kindR e=2∧Lib.cut (textC e) [58]=(sImp,textA (impA e)++58::Lib.itoa (numL (e.drop 6) 0),true))∨(kindR e=3∧Lib.cut (textC e) [58]=(sSrc,Lib.itoa (numL ((e.take 6).drop 2) 0),true))∨((kindR e≠1∧kindR e≠2∧kindR e≠3)∧Lib.cut (textC e) [58]=(sOth,hex8 e,true)):=by
 unfold textC
 by_cases k1:kindR e=1
 ·refine .inl ⟨k1,?_⟩
  rw [if_pos k1]
  exact cut_app (a:=sRt) _ (by decide)
 ·rw [if_neg k1]
  by_cases k2:kindR e=2
  ·refine .inr (.inl ⟨k2,?_⟩)
   rw [if_pos k2,List.append_assoc,List.append_assoc]
   exact cut_app (a:=sImp) _ (by decide)
  ·rw [if_neg k2]
   by_cases k3:kindR e=3
   ·refine .inr (.inr (.inl ⟨k3,?_⟩))
    rw [if_pos k3]
    exact cut_app (a:=sSrc) _ (by decide)
   ·refine .inr (.inr (.inr ⟨⟨k1,k2,k3⟩,?_⟩))
    rw [if_neg k3]
    exact cut_app (a:=sOth) _ (by decide)
theorem cutf (s:List UInt8) (hs:s.length≤1048576):strings_Cut.f s [58]=some (Lib.cut s [58]):=if_pos (by omega)
theorem cparse_any (k:Nat) (s:List UInt8) (hs:s.length≤1048576) (hk:2005000≤k):∃ t:List Int×Int,vE t.1∧community_Parse.f k s=some (checkC t s)∧∀ e,vE e→textC e=s→t=(e,0):=by
 have hc:=cut_le s [58]
 unfold community_Parse.f
 rw [cutf s hs,Option.bind_some,bstr_toList (Lib.cut s [58]).1,bstr_toList [114,116],bstr_toList [105,109,112,111,114,116],bstr_toList [115,111,117,114,99,101]]
 by_cases w1:(Lib.cut s [58]).1=sRt
 ·rw [if_pos (by rw [w1];decide)]
  obtain ⟨d,err,q1,ld,bd,_⟩:=rdparse_any k (Lib.cut s [58]).2.1 (by omega) (by omega)
  rw [q1,Option.bind_some]
  have q2:=parts_ok (k - 20) d ld
  have q3:=targ_ok (k - 20) (partsR d).1 (partsR d).2.1 (partsR d).2.2.1
  rw [show k - 20+20=k by omega] at q2 q3
  simp only [q2,Option.bind_some,q3]
  refine ⟨_,targ_v _ _ _,fin_ok k _ (targ_v _ _ _) s (by omega),fun e hv he=>?_⟩
  subst he
  rcases cutC e with ⟨k1,hc⟩ | ⟨_,hc⟩ | ⟨_,hc⟩ | ⟨_,hc⟩
  ·rw [hc] at q1
   have hd:=rdC_ok e hv.1 hv.2
   rw [rdparse_text k _ hd.1 hd.2 (by omega)] at q1
   obtain rfl:=(Prod.mk.inj (Option.some.inj q1)).1
   exact targ_back e hv k1
  ·rw [hc] at w1;exact absurd (show sImp=sRt from w1) (by decide)
  ·rw [hc] at w1;exact absurd (show sSrc=sRt from w1) (by decide)
  ·rw [hc] at w1;exact absurd (show sOth=sRt from w1) (by decide)
 rw [if_neg (show ¬ ((Lib.cut s [58]).1==([114,116]:List UInt8))=true by simpa [sRt] using w1)]
 by_cases w2:(Lib.cut s [58]).1=sImp
 ·rw [if_pos (by rw [w2];decide)]
  have hc2:=cut_le (Lib.cut s [58]).2.1 [58]
  rw [cutf _ (by omega),Option.bind_some]
  obtain ⟨a,err,q1,ha,_⟩:=parse_any k (Lib.cut (Lib.cut s [58]).2.1 [58]).1 (by omega) (by omega)
  obtain ⟨n,q2⟩:=cnumber_any k (Lib.cut (Lib.cut s [58]).2.1 [58]).2.1 (by omega) (by omega)
  have q3:=imp_ok (k - 20) a n
  rw [show k - 20+20=k by omega] at q3
  simp only [q1,q2,Option.bind_some,q3]
  refine ⟨_,imp_v _ ha _,fin_ok k _ (imp_v _ ha _) s (by omega),fun e hv he=>?_⟩
  subst he
  rcases cutC e with ⟨_,hc⟩ | ⟨k2,hc⟩ | ⟨_,hc⟩ | ⟨_,hc⟩
  ·rw [hc] at w2;exact absurd (show sRt=sImp from w2) (by decide)
  ·obtain ⟨ia,ir,_⟩:=impA_ok e hv.1 hv.2
   have hn:=num2_range e hv.1 hv.2
   have hf:(58:UInt8)∉textA (impA e):=by
    unfold textA
    rw [if_pos ir,if_pos (show (impA e).Size=4 from rfl)]
    exact txt4_free _ ia.1
   have e1:(Lib.cut (textC e) [58]).2.1=textA (impA e)++58::Lib.itoa (numL (e.drop 6) 0):=by rw [hc]
   rw [e1,cut_app _ hf] at q1 q2
   simp only at q1 q2
   rw [parse_text k _ ia ir (by omega)] at q1
   rw [cnumber_ok k _ ⟨hn.1,by omega⟩ (by omega)] at q2
   obtain rfl:=(Prod.mk.inj (Option.some.inj q1)).1
   obtain rfl:=Option.some.inj q2
   exact imp_back e hv k2
  ·rw [hc] at w2;exact absurd (show sSrc=sImp from w2) (by decide)
  ·rw [hc] at w2;exact absurd (show sOth=sImp from w2) (by decide)
 rw [if_neg (show ¬ ((Lib.cut s [58]).1==([105,109,112,111,114,116]:List UInt8))=true by simpa [sImp] using w2)]
 by_cases w3:(Lib.cut s [58]).1=sSrc
 ·rw [if_pos (by rw [w3];decide)]
  obtain ⟨n,q2⟩:=cnumber_any k (Lib.cut s [58]).2.1 (by omega) (by omega)
  have q3:=src_ok (k - 20) n
  rw [show k - 20+20=k by omega] at q3
  simp only [q2,Option.bind_some,q3]
  refine ⟨_,src_v _,fin_ok k _ (src_v _) s (by omega),fun e hv he=>?_⟩
  subst he
  rcases cutC e with ⟨_,hc⟩ | ⟨_,hc⟩ | ⟨k3,hc⟩ | ⟨_,hc⟩
  ·rw [hc] at w3;exact absurd (show sRt=sSrc from w3) (by decide)
  ·rw [hc] at w3;exact absurd (show sImp=sSrc from w3) (by decide)
  ·have hn:=num4_range e hv.1 hv.2
   rw [hc] at q2
   simp only at q2
   rw [cnumber_ok k _ ⟨hn.1,hn.2.1⟩ (by omega)] at q2
   obtain rfl:=Option.some.inj q2
   exact src_back e hv k3
  ·rw [hc] at w3;exact absurd (show sOth=sSrc from w3) (by decide)
 rw [if_neg (show ¬ ((Lib.cut s [58]).1==([115,111,117,114,99,101]:List UInt8))=true by simpa [sSrc] using w3)]
 obtain ⟨d,q1,ld,bd⟩:=rawf_any k (Lib.cut s [58]).2.1 (by omega) (by omega)
 rw [q1,Option.bind_some]
 refine ⟨(d,0),⟨ld,bd⟩,fin_ok k (d,0) ⟨ld,bd⟩ s (by omega),fun e hv he=>?_⟩
 subst he
 rcases cutC e with ⟨_,hc⟩ | ⟨_,hc⟩ | ⟨_,hc⟩ | ⟨_,hc⟩
 ·rw [hc] at w1;exact absurd rfl w1
 ·rw [hc] at w2;exact absurd rfl w2
 ·rw [hc] at w3;exact absurd rfl w3
 ·rw [hc] at q1
  simp only at q1
  rw [raw_ok k e hv.1 hv.2 (by omega)] at q1
  obtain rfl:=Option.some.inj q1
  rfl
theorem refbytes_step (n:Int) (hn:0≤n) (k:Nat) (x:List Int) (i:Nat) (hi:i≤4) (hx:x.length+1≤140737488355328) :
  vineryref01_Bytes.l0 n (k+1) x (i:Int)=vineryref01_Bytes.l0 n k (x++[(n / 2^(8*i)) % 256]) ((i:Int) - 1):=by
 rw [vineryref01_Bytes.l0]
 have e:IntKind.i64.wrap ((i:Int) - 1)=(i:Int) - 1:=by rw [IntKind.wrap_i64];omega
 have e2:IntKind.i64.wrap ((8:Int)*(i:Int))=((8*i:Nat):Int):=by rw [IntKind.wrap_i64];omega
 have hm:min (Int.toNat ((8*i:Nat):Int)) IntKind.i64.bits=8*i:=by
  show min (8*i) 64=_
  omega
 rw [if_pos (by simp),e2,if_pos (by omega),if_pos (by simp;omega),e,hm,fdiv_pos _ _ hn,IntKind.wrap_u8]
theorem refbytes_end (n:Int) (k:Nat) (x:List Int) (i:Int) (hi:i < 0):vineryref01_Bytes.l0 n (k+1) x i=some x:=by
 rw [vineryref01_Bytes.l0,if_neg (by simp;omega)]
theorem refbytes_ok (k:Nat) (n:Int) (s:Nat) (h1:1≤s) (h4:s≤4) (hn:0≤n):vineryref01_Bytes.f (k+5) n (s:Int)=some (putL n s):=by
 unfold vineryref01_Bytes.f
 have e2:IntKind.i64.wrap ((s:Int) - 1)=((s - 1:Nat):Int):=by rw [IntKind.wrap_i64];omega
 rw [e2]
 rcases (show s=1∨s=2∨s=3∨s=4 by omega) with rfl | rfl | rfl | rfl
 ·rw [refbytes_step n hn _ _ 0 (by omega) (by simp),refbytes_end _ _ _ _ (by omega)]
  simp [putL]
 ·rw [refbytes_step n hn _ _ 1 (by omega) (by simp),show ((1:Nat):Int) - 1=((0:Nat):Int) from rfl,refbytes_step n hn _ _ 0 (by omega) (by simp),refbytes_end _ _ _ _ (by omega)]
  simp [putL]
 ·rw [refbytes_step n hn _ _ 2 (by omega) (by simp),show ((2:Nat):Int) - 1=((1:Nat):Int) from rfl,refbytes_step n hn _ _ 1 (by omega) (by simp),show ((1:Nat):Int) - 1=((0:Nat):Int) from rfl,refbytes_step n hn _ _ 0 (by omega) (by simp),refbytes_end _ _ _ _ (by omega)]
  simp [putL]
 ·rw [refbytes_step n hn _ _ 3 (by omega) (by simp),show ((3:Nat):Int) - 1=((2:Nat):Int) from rfl,refbytes_step n hn _ _ 2 (by omega) (by simp),show ((2:Nat):Int) - 1=((1:Nat):Int) from rfl,refbytes_step n hn _ _ 1 (by omega) (by simp),show ((1:Nat):Int) - 1=((0:Nat):Int) from rfl,refbytes_step n hn _ _ 0 (by omega) (by simp),refbytes_end _ _ _ _ (by omega)]
  simp [putL]
/-! the document's answers -/
theorem rwidths_ok (kind:Int):vineryref03_widths.f kind=some ((hiS kind:Int),if hiS kind=0 then 0 else (loS kind:Int)):=by
 unfold loS
 rcases hiS_or kind with ⟨rfl,h⟩ | ⟨rfl | rfl,h⟩ | ⟨h0,h1,h2,h⟩
 ·rfl
 ·rfl
 ·rfl
 ·unfold vineryref03_widths.f
  rw [h]
  simp [h0,h1,h2]
theorem rofd_step (b:List Int) (hb:b.length=8) (i:Nat) (hi:i < 8):(arL 8 (arC 8 (List.replicate 8 (0:Int)) (b.take i))).set i (rd b (i:Int))=arC 8 (List.replicate 8 (0:Int)) (b.take (i+1)):=by
 have hla:(arC 8 (List.replicate 8 (0:Int)) (b.take i)).length=8:=arC_length _ _ _
 have hlb:(arC 8 (List.replicate 8 (0:Int)) (b.take (i+1))).length=8:=arC_length _ _ _
 have e:=arL_self (arC 8 (List.replicate 8 (0:Int)) (b.take i))
 rw [hla] at e
 rw [e]
 apply List.ext_getElem
 ·rw [List.length_set,hla,hlb]
 ·intro j h1 h2
  rw [List.length_set,hla] at h1
  rw [List.getElem_set]
  have g1:=ar_at (arC 8 (List.replicate 8 (0:Int)) (b.take i)) j (by omega)
  have g2:=ar_at (arC 8 (List.replicate 8 (0:Int)) (b.take (i+1))) j (by omega)
  rw [← g2,ar_arC _ _ _ _ h1]
  by_cases hij:i=j
  ·subst hij
   rw [if_pos rfl,if_pos (by rw [List.length_take];omega),rd_at b i (by omega),ar_at _ _ (by rw [List.length_take];omega),List.getElem_take]
  ·rw [if_neg hij,← g1,ar_arC _ _ _ _ h1]
   by_cases hlt:j < i
   ·rw [if_pos (by rw [List.length_take];omega),if_pos (by rw [List.length_take];omega),ar_at _ _ (by rw [List.length_take];omega),ar_at _ _ (by rw [List.length_take];omega),List.getElem_take,List.getElem_take]
   ·rw [if_neg (by rw [List.length_take];omega),if_neg (by rw [List.length_take];omega)]
theorem rofd_go (b:List Int) (hb:b.length=8):∀ (m k i:Nat),i+m=8→m < k→vineryref03_Of.l0 b k (i:Int) (arC 8 (List.replicate 8 (0:Int)) (b.take i))=some b
 | 0,k+1,i,hi,_=>by
  obtain rfl:i=8:=by omega
  rw [vineryref03_Of.l0,if_neg (by simp),List.take_of_length_le (by omega),arC8 b hb]
 | m+1,k+1,i,hi,hk=>by
  have e:IntKind.i64.wrap ((i:Int)+1)=((i+1:Nat):Int):=by rw [w64 _ (by omega)];omega
  rw [vineryref03_Of.l0,if_pos (by simp;omega),if_pos (by omega),if_pos (by omega),Int.toNat_natCast,e,rofd_step b hb i (by omega)]
  exact rofd_go b hb m k (i+1) (by omega) (by omega)
theorem rofd_ok (k:Nat) (b:List Int) (hb:b.length=8):vineryref03_Of.f (k+20) b=some b:=by
 unfold vineryref03_Of.f
 have:=rofd_go b hb 8 (k+20) 0 (by omega) (by omega)
 rw [show vineryref03_Of.l0 b (k+20) (0:Int) (List.replicate 8 (0:Int))=some b from this];rfl
theorem pow8 (s:Nat) (h:s=2∨s=4):IntKind.i64.wrap ((1:Int)*2^(min (Int.toNat (IntKind.i64.wrap ((8:Int)*(s:Int)))) IntKind.i64.bits))=2^(8*s):=by
 rcases h with rfl | rfl<;>decide
theorem rmake_ok (k:Nat) (kind h l:Int):vineryref03_Make.f (k+20) kind h l=some (makeR kind h l):=by
 unfold vineryref03_Make.f makeR
 rw [rwidths_ok,Option.bind_some]
 by_cases hk:hiS kind=0
 ·rw [if_pos hk,hk];rfl
 ·have hs:=hs_of hk
  rw [if_neg hk,if_neg hk]
  simp only [pow8 _ hs.1,pow8 _ hs.2.1]
  rw [if_neg (by simp;omega)]
  have q1:(0:Int)≤IntKind.i64.wrap (8*(hiS kind:Int)):=by rw [w64 _ (by omega)];omega
  have q2:(0:Int)≤IntKind.i64.wrap (8*(loS kind:Int)):=by rw [w64 _ (by omega)];omega
  simp only [if_pos q1,if_pos q2]
  have ef:(((if decide (h < 0)=true then some true else if decide (l < 0)=true then some true else if decide (h ≥ 2^(8*hiS kind))=true then some true else some (decide (l ≥ 2^(8*loS kind))):Option Bool)))=some (!fits kind h l):=by
   unfold fits
   by_cases a1:h < 0
   ·rw [if_pos (by simpa using a1),decide_eq_false (by omega)];rfl
   ·rw [if_neg (by simpa using a1),decide_eq_true (show 0≤h by omega)]
    by_cases a2:l < 0
    ·rw [if_pos (by simpa using a2),decide_eq_false (show ¬ 0≤l by omega)];simp
    ·rw [if_neg (by simpa using a2),decide_eq_true (show 0≤l by omega)]
     by_cases a3:h ≥ 2^(8*hiS kind)
     ·rw [if_pos (by simpa using a3),decide_eq_false (show ¬ h < 2^(8*hiS kind) by omega)];rfl
     ·rw [if_neg (by simpa using a3),decide_eq_true (show h < 2^(8*hiS kind) by omega)]
      by_cases a4:l ≥ 2^(8*loS kind)
      ·rw [decide_eq_true a4,decide_eq_false (show ¬ l < 2^(8*loS kind) by omega)];rfl
      ·rw [decide_eq_false a4,decide_eq_true (show l < 2^(8*loS kind) by omega)];rfl
  rw [ef,Option.bind_some]
  cases hf:fits kind h l with
  | false=>rfl
  | true =>
   unfold fits at hf
   simp only [Bool.and_eq_true,decide_eq_true_eq] at hf
   have b1:=refbytes_ok (k+15) kind 2 (by decide) (by decide) hs.2.2.1
   have b2:=refbytes_ok (k+15) h (hiS kind) (by omega) (by omega) hf.1
   have b3:=refbytes_ok (k+15) l (loS kind) (by omega) (by omega) hf.2.2.1
   simp only [show k+15+5=k+20 from rfl] at b1 b2 b3
   simp only [Bool.not_true,Bool.false_eq_true,if_false,if_true]
   rw [show (2:Int)=((2:Nat):Int) from rfl,b1,Option.bind_some,b2,Option.bind_some]
   have l1:=putL_length kind 2 (by decide) (by decide)
   have l2:=putL_length h (hiS kind) (by omega) (by omega)
   have l3:=putL_length l (loS kind) (by omega) (by omega)
   rw [if_pos (by omega),b3,Option.bind_some,if_pos (by rw [List.length_append];omega)]
   have:=rofd_ok k (rdL kind h l) (rdL_length kind h l hk)
   unfold rdL at this
   rw [this]
   rfl
theorem big_go (l:List Int) (hl:∀ y∈l,0≤y∧y≤255) (h4:l.length≤4):∀ (m k i:Nat) (x:Int),i+m=l.length→m < k→0≤x→x < 256^i→vineryref01_Big.l0 l k x (i:Int)=some (numL (l.drop i) x)
 | 0,k+1,i,x,hi,_,_,_=>by
  rw [vineryref01_Big.l0,if_neg (by simp;omega),List.drop_of_length_le (by omega)];rfl
 | m+1,k+1,i,x,hi,hk,h0,hx=>by
  have hlt:i < l.length:=by omega
  have hx3:x < 16777216:=by
   rcases (show i=0∨i=1∨i=2∨i=3 by omega) with e | e | e | e<;>rw [e] at hx
   ·have:x < 1:=hx
    omega
   ·have:x < 256:=hx
    omega
   ·have:x < 65536:=hx
    omega
   ·exact hx
  have hc:=hl l[i] (List.getElem_mem hlt)
  have e:IntKind.i64.wrap ((i:Int)+1)=((i+1:Nat):Int):=by rw [w64 _ (by omega)];omega
  rw [vineryref01_Big.l0,if_pos (by simp;omega),if_pos (by omega),e,rd_at l i hlt,w64 (x*256) (by omega),w64 l[i] (by omega),w64 (x*256+l[i]) (by omega),List.drop_eq_getElem_cons hlt,numL_cons _ _ _ h0 (by omega) hc.1 hc.2]
  refine big_go l hl h4 m k (i+1) _ (by omega) (by omega) (by omega) ?_
  generalize l[i]=c at hc
  rcases (show i=0∨i=1∨i=2∨i=3 by omega) with e | e | e | e<;>rw [e] at hx ⊢
  ·have:x < 1:=hx
   show _ < (256:Int)
   omega
  ·have:x < 256:=hx
   show _ < (65536:Int)
   omega
  ·have:x < 65536:=hx
   show _ < (16777216:Int)
   omega
  ·have:x < 16777216:=hx
   show _ < (4294967296:Int)
   omega
theorem big_ok (k:Nat) (l:List Int) (hl:∀ y∈l,0≤y∧y≤255) (h4:l.length≤4):vineryref01_Big.f (k+5) l=some (numL l 0):=by
 unfold vineryref01_Big.f
 have:=big_go l hl h4 l.length (k+5) 0 0 (by omega) (by omega) (by omega) (by decide)
 rw [show vineryref01_Big.l0 l (k+5) (0:Int) (0:Int)=_ from this];rfl
theorem rparts_ok (k:Nat) (d:List Int) (hd:d.length=8) (hB:isB d):vineryref03_Parts.f (k+5) d=some (partsR d):=by
 have sub:∀ (i j:Nat),∀ y∈(d.take i).drop j,0≤y∧y≤255:=fun i j y hy=>hB y (List.mem_of_mem_take (List.mem_of_mem_drop hy))
 unfold vineryref03_Parts.f partsR
 rw [arL8 hd,if_pos (by decide),show (Int.toNat (0:Int))=0 from rfl,show (Int.toNat (2:Int))=2 from rfl,big_ok k _ (sub 2 0) (by simp;omega),Option.bind_some,List.drop_zero,rwidths_ok,Option.bind_some]
 generalize hkd:numL (d.take 2) 0=kind
 by_cases hk:hiS kind=0
 ·rw [if_pos hk,hk];rfl
 ·have hs:=hs_of hk
  have e2:loS kind=6 - hiS kind:=rfl
  have w2:IntKind.i64.wrap (2+(hiS kind:Int))=((2+hiS kind:Nat):Int):=by rw [w64 _ (by omega)];omega
  rw [if_neg hk,if_neg hk,if_neg (by simp;omega),w2,if_pos (by omega),Int.toNat_natCast,big_ok k _ (sub _ 2) (by simp;omega),Option.bind_some,if_pos (by omega),show (Int.toNat (8:Int))=8 from rfl,big_ok k _ (sub 8 _) (by simp;omega),Option.bind_some,List.take_of_length_le (show d.length≤8 by omega),List.drop_take,show 2+hiS kind - 2=hiS kind by omega]
theorem tail_all_step (x:List Int) (n:Nat) (hn:n < 16):((arL 16 x).drop n).all (·==0)=((ar x n==0) && ((arL 16 x).drop (n+1)).all (·==0)):=by
 have hl:n < (arL 16 x).length:=by rw [arL_length];exact hn
 rw [List.drop_eq_getElem_cons hl,List.all_cons]
 congr 2
 simp [arL]
theorem rright_l0 (a:S_api_Addr):∀ (m k n:Nat),n+m=16→m < k→(vineryref02_Right.l0 a k (n:Int)).bind (fun s14=>match s14 with | .inl r=>some r | .inr _=>some ((true:Bool)))=some (((arL 16 a.B).drop n).all (·==0))
 | 0,k,n,h,hk=>by
  obtain ⟨k,rfl⟩:∃ k',k=k'+1:=⟨k - 1,by omega⟩
  rw [vineryref02_Right.l0,if_neg (by simp;omega),List.drop_of_length_le (by rw [arL_length];omega)]
  rfl
 | m+1,k,n,h,hk=>by
  obtain ⟨k,rfl⟩:∃ k',k=k'+1:=⟨k - 1,by omega⟩
  have e:IntKind.i64.wrap ((n:Int)+1)=((n+1:Nat):Int):=by rw [w64 _ (by omega)];omega
  rw [vineryref02_Right.l0,if_pos (by simp;omega),if_pos (by omega),tail_all_step _ _ (by omega),Int.toNat_natCast,e]
  by_cases h0:ar a.B n=0
  ·rw [if_neg (by simp [h0]),rright_l0 a m k (n+1) (by omega) (by omega)]
   simp [h0]
  ·rw [if_pos (by simp [h0])]
   simp [h0]
theorem rright_ok (k:Nat) (a:S_api_Addr):vineryref02_Right.f (k+20) a=some (rightB a):=by
 unfold vineryref02_Right.f
 by_cases h:a.Size=0∨a.Size=4∨a.Size=16
 ·have hc:((if (a.Size != (0:Int))=true then (if (a.Size != (4:Int))=true then some (a.Size != (16:Int):Bool) else some (false:Bool)) else some (false:Bool)))=some false:=by
   rcases h with h | h | h<;>simp [h]
  have hs:isSz a.Size=true:=by unfold isSz;simp;omega
  rw [hc,Option.bind_some,if_neg (by simp)]
  have hn:((a.Size.toNat:Nat):Int)=a.Size:=by omega
  have:=rright_l0 a (16 - a.Size.toNat) (k+20) a.Size.toNat (by omega) (by omega)
  rw [hn] at this
  unfold rightB
  rw [hs,Bool.true_and]
  exact this
 ·have h0:¬ a.Size=0:=by omega
  have h4:¬ a.Size=4:=by omega
  have h16:¬ a.Size=16:=by omega
  unfold rightB isSz
  simp [h0,h4,h16]
theorem arL_arC (n:Nat) (x xs:List Int):arL n (arC n x xs)=arC n x xs:=by
 have:=arL_self (arC n x xs)
 rw [arC_length] at this
 exact this
theorem arC_take_succ (b:List Int) (i:Nat) (hi:i < b.length) (h16:b.length≤16):(arL 16 (arC 16 zeros (b.take i))).set i (rd b (i:Int))=arC 16 zeros (b.take (i+1)):=by
 rw [arL_arC]
 apply List.ext_getElem
 ·rw [List.length_set,arC_length,arC_length]
 ·intro j h1 h2
  have hj:j < 16:=by rw [arC_length] at h2;exact h2
  have hl:(b.take i).length=i:=by simp;omega
  have hl':(b.take (i+1)).length=i+1:=by simp;omega
  rw [List.getElem_set]
  have e2:=ar_at _ j h2
  rw [ar_arC _ _ _ _ hj,hl'] at e2
  by_cases hij:i=j
  ·subst hij
   rw [if_pos rfl,← e2,if_pos (by omega),rd_at b i hi,ar_at _ _ (by omega)]
   simp
  ·rw [if_neg hij]
   have h3:j < (arC 16 zeros (b.take i)).length:=by rw [arC_length];exact hj
   have e1:=ar_at _ j h3
   rw [ar_arC _ _ _ _ hj,hl] at e1
   rw [← e1,← e2]
   by_cases hlt:j < i
   ·rw [if_pos hlt,if_pos (by omega),ar_at _ _ (by omega),ar_at _ _ (by omega)]
    simp
   ·rw [if_neg hlt,if_neg (by omega)]
theorem rof_l0 (b:List Int) (h16:b.length≤16):∀ (m k i:Nat),i+m=b.length→m < k→vineryref02_Of.l0 b k (i:Int) (arC 16 zeros (b.take i))=some (arC 16 zeros b)
 | 0,k,i,h,hk=>by
  obtain ⟨k,rfl⟩:∃ k',k=k'+1:=⟨k - 1,by omega⟩
  rw [vineryref02_Of.l0,if_neg (by simp;omega),List.take_of_length_le (by omega)]
 | m+1,k,i,h,hk=>by
  obtain ⟨k,rfl⟩:∃ k',k=k'+1:=⟨k - 1,by omega⟩
  have e:IntKind.i64.wrap ((i:Int)+1)=((i+1:Nat):Int):=by rw [w64 _ (by omega)];omega
  rw [vineryref02_Of.l0,if_pos (by simp;omega),if_pos (by omega),if_pos (by omega),Int.toNat_natCast,e,arC_take_succ b i (by omega) h16,rof_l0 b h16 m k (i+1) (by omega) (by omega)]
theorem arC_zeros_nil:arC 16 zeros []=zeros:=by decide
theorem rof_ok (k:Nat) (b:List Int):vineryref02_Of.f (k+20) b=some (if isSz b.length=true then (⟨b.length,arC 16 zeros b⟩,0) else (⟨0,zeros⟩,1)):=by
 unfold vineryref02_Of.f
 have hc:∀ n:Int,(if (if (n != (0:Int))=true then (n != (4:Int)) else false)=true then (n != (16:Int)) else false)=!isSz n:=by
  intro n
  unfold isSz
  cases h:(n==0)<;>cases h':(n==4)<;>cases h'':(n==16)<;>simp_all
 rw [hc]
 cases h:isSz (b.length:Int)
 ·rfl
 ·have hl:=isSz_or h
  rw [if_neg (by simp)]
  have:=rof_l0 b (by omega) b.length (k+20) 0 (by omega) (by omega)
  rw [List.take_zero,arC_zeros_nil] at this
  rw [show ((0:Nat):Int)=0 from rfl] at this
  rw [show (List.replicate 16 (0:Int))=zeros from rfl,this,Option.bind_some]
  rfl
theorem raddrbytes_ok (k:Nat) (a:S_api_Addr) (h:rightB a=true):vineryref02_Bytes.f (k+20) a=some (rootL a):=by
 unfold vineryref02_Bytes.f
 have hs:a.Size=0∨a.Size=4∨a.Size=16:=isSz_or (by unfold rightB at h;simp only [Bool.and_eq_true] at h;exact h.1)
 rw [rright_ok,h,Option.bind_some,if_neg (by simp),if_pos (by omega),if_pos (by simp [arL_length];omega)]
 rfl
/-! the document's texts -/
theorem rdigs:∀ d:Fin 16,((([48,49,50,51,52,53,54,55,56,57,97,98,99,100,101,102]:List UInt8).take (d.val+1)).drop d.val)=[dgt d.val]:=by decide
theorem rdig (d:Nat) (h:d < 16):((([48,49,50,51,52,53,54,55,56,57,97,98,99,100,101,102]:List UInt8).take (Int.toNat (IntKind.i64.wrap ((d:Int)+1)))).drop (Int.toNat (d:Int)))=[dgt d]:=by
 rw [w64 _ (by omega),show Int.toNat ((d:Int)+1)=d+1 by omega,Int.toNat_natCast]
 exact rdigs ⟨d,h⟩
theorem rnumber_ok (base:Nat) (hb2:2≤base) (hb:base≤16):∀ (u k:Nat),u < 4611686018427387904→(numD base u).length≤k→(numD base u).length≤1000→vineryref02_Number.f k (u:Int) (base:Int)=some (numD base u):=by
 intro u
 induction u using Nat.strongRecOn with
 | ind u ih =>
  intro k hu hk h1000
  have hl:=numD_len hb2 u
  obtain ⟨k,rfl⟩:∃ k',k=k'+1:=⟨k - 1,by omega⟩
  rw [vineryref02_Number.f]
  by_cases hs:u < base
  ·rw [if_pos (by simp;omega),if_pos (by rw [w64 _ (by omega)];simp;omega),rdig u (by omega),numD_small hs]
  ·have hbig:=numD_big (base:=base) (u:=u) (by omega) hb2
   have hbl:(numD base u).length=(numD base (u / base)).length+1:=by rw [hbig];simp
   have hq:u / base < u:=Nat.div_lt_self (by omega) (by omega)
   have hm:=Nat.mod_lt u (show 0 < base by omega)
   have key:∀ Q:Nat,Q < 4611686018427387904→IntKind.i64.wrap (Q:Int)=(Q:Int):=fun Q h=>w64 _ (by omega)
   have e1:IntKind.i64.wrap (Int.tdiv (u:Int) (base:Int))=((u / base:Nat):Int):=by
    rw [← Int.ofNat_tdiv];exact key _ (by omega)
   have e2:Int.tmod (u:Int) (base:Int)=((u % base:Nat):Int):=(Int.ofNat_tmod u base).symm
   have e3:IntKind.i64.wrap (((u % base:Nat):Int)+1)=((u % base+1:Nat):Int):=by rw [w64 _ (by omega)];omega
   rw [if_neg (by simp;omega),if_pos (by omega),e1,ih (u / base) hq k (by omega) (by omega) (by omega),Option.bind_some,if_pos (by omega),if_pos (by omega),e2,rdig _ (by omega),e3,if_pos (by simp;omega),if_pos (by simp;omega),hbig]
theorem numD_le64 (base:Nat) (hb2:2≤base):∀ (n u:Nat),u < 2^n→(numD base u).length≤n+1:=by
 intro n
 induction n with
 | zero =>
  intro u h
  rw [numD_small (by omega)];simp
 | succ n ih =>
  intro u h
  by_cases hs:u < base
  ·rw [numD_small hs];simp
  ·rw [numD_big (by omega) hb2]
   have hd:u / base≤u / 2:=Nat.div_le_div_left hb2 (by decide)
   have:=ih (u / base) (by rw [Nat.pow_succ] at h;omega)
   simp;omega
theorem number64 (base:Nat) (hb2:2≤base) (hb:base≤16) (n:Int) (h:0≤n∧n < 4294967296) (k:Nat) (hk:40≤k):vineryref02_Number.f k n (base:Int)=some (numD base n.toNat):=by
 have hl:=numD_le64 base hb2 32 n.toNat (by omega)
 have:=rnumber_ok base hb2 hb n.toNat k (by omega) (by omega) (by omega)
 rwa [show ((n.toNat:Nat):Int)=n by omega] at this
theorem six_l0 (a:S_api_Addr) (hB:isB a.B):∀ (m i k:Nat) (out:List Int),i+m=8→m < k→out=(nums a.B).take i→vineryref02_six.l0 a k out ((2*i:Nat):Int)=some (nums a.B)
 | 0,i,k,out,hi,hk,ho=>by
  obtain ⟨k,rfl⟩:∃ k',k=k'+1:=⟨k - 1,by omega⟩
  rw [vineryref02_six.l0,if_neg (by simp;omega),ho,List.take_of_length_le (by rw [nums_len];omega)]
 | m+1,i,k,out,hi,hk,ho=>by
  obtain ⟨k,rfl⟩:∃ k',k=k'+1:=⟨k - 1,by omega⟩
  have h1:=ar_isB hB (2*i);have h2:=ar_isB hB (2*i+1)
  have e1:IntKind.i64.wrap (((2*i:Nat):Int)+1)=((2*i+1:Nat):Int):=by rw [w64 _ (by omega)];omega
  have e2:IntKind.i64.wrap (((2*i:Nat):Int)+2)=((2*(i+1):Nat):Int):=by rw [w64 _ (by omega)];omega
  have en:IntKind.i64.wrap ((IntKind.i64.wrap ((IntKind.i64.wrap (ar a.B (2*i)))*256))+(IntKind.i64.wrap (ar a.B (2*i+1))))=n16 a.B i:=by
   rw [w64 (ar a.B (2*i)) (by omega),w64 (ar a.B (2*i+1)) (by omega),w64 (ar a.B (2*i)*256) (by omega),w64 _ (by omega)];rfl
  have hol:out.length=i:=by rw [ho,List.length_take,nums_len];omega
  rw [vineryref02_six.l0,if_pos (by simp;omega),if_pos (by omega),e1,e2,if_pos (by omega),Int.toNat_natCast,Int.toNat_natCast,en,if_pos (by simp;omega)]
  refine six_l0 a hB m (i+1) k _ (by omega) (by omega) ?_
  have hi8:i < (nums a.B).length:=by rw [nums_len];omega
  rw [ho,List.take_add_one,List.getElem?_eq_getElem hi8]
  congr 1
  have:(nums a.B)[i]=n16 a.B i:=by
   have:=nums_getD a.B i (by omega)
   rwa [List.getD_eq_getElem?_getD,List.getElem?_eq_getElem hi8] at this
  rw [this];rfl
theorem rd_nums (l:List Int) (i:Nat) (h:i < 8):rd (nums l) (i:Int)=n16 l i:=by
 have hi8:i < (nums l).length:=by rw [nums_len];omega
 rw [rd_at _ _ hi8]
 have:=nums_getD l i h
 rwa [List.getD_eq_getElem?_getD,List.getElem?_eq_getElem hi8] at this
theorem six_l3 (l:List Int):∀ (m p k:Nat),p+m=8→m < k→vineryref02_six.l3 (nums l) k (p:Int)=some ((p+zr (nums l) m p:Nat):Int)
 | 0,p,k,h,hk=>by
  obtain ⟨k,rfl⟩:∃ k',k=k'+1:=⟨k - 1,by omega⟩
  rw [vineryref02_six.l3,if_neg (by simp;omega),Option.bind_some,if_neg (by simp)];rfl
 | m+1,p,k,h,hk=>by
  obtain ⟨k,rfl⟩:∃ k',k=k'+1:=⟨k - 1,by omega⟩
  have e3:IntKind.i64.wrap ((p:Int)+1)=((p+1:Nat):Int):=by rw [w64 _ (by omega)];omega
  rw [vineryref02_six.l3,if_pos (by simp;omega),if_pos (by rw [nums_len];omega),Option.bind_some,rd_nums _ _ (by omega),e3,zr,ar_nums _ _ (by omega)]
  by_cases h0:n16 l p=0
  ·rw [if_pos (by simpa using h0),if_pos h0,six_l3 l m (p+1) k (by omega) (by omega)]
   congr 1;omega
  ·rw [if_neg (by simpa using h0),if_neg h0];rfl
theorem six_l1 (K:Nat) (hK:9≤K) (l:List Int):∀ (m i k:Nat) (g:Nat×Nat),i+m=8→m < k→vineryref02_six.l1 K (nums l) k (g.1:Int) (g.2:Int) (i:Int)=some (((gapGo (nums l) m i g).1:Int),((gapGo (nums l) m i g).2:Int))
 | 0,i,k,g,h,hk=>by
  obtain ⟨k,rfl⟩:∃ k',k=k'+1:=⟨k - 1,by omega⟩
  rw [vineryref02_six.l1,if_neg (by simp;omega)];rfl
 | m+1,i,k,g,h,hk=>by
  obtain ⟨k,rfl⟩:∃ k',k=k'+1:=⟨k - 1,by omega⟩
  have e3:IntKind.i64.wrap ((i:Int)+1)=((i+1:Nat):Int):=by rw [w64 _ (by omega)];omega
  have h1:=six_l3 l (8 - i) i K (by omega) (by omega)
  have hz:=zr_le (nums l) (8 - i) i
  have e4:IntKind.i64.wrap (((i+zr (nums l) (8 - i) i:Nat):Int) - (i:Int))=((zr (nums l) (8 - i) i:Nat):Int):=by rw [w64 _ (by omega)];omega
  rw [vineryref02_six.l1,if_pos (by simp;omega),h1,Option.bind_some,e3,e4,gapGo]
  by_cases hg:g.2 < zr (nums l) (8 - i) i
  ·rw [if_pos (by simpa using hg),if_pos hg]
   exact six_l1 K hK l m (i+1) k (i,zr (nums l) (8 - i) i) (by omega) (by omega)
  ·rw [if_neg (by simpa using hg),if_neg hg]
   exact six_l1 K hK l m (i+1) k g (by omega) (by omega)
def putH (s h:List UInt8):List UInt8:=if s≠[]∧s.getLast? ≠ some 58 then s++58::h else s++h
def putAll (s:List UInt8) (us:List Nat):List UInt8:=us.foldl (fun s u=>putH s (numD 16 u)) s
theorem last_hex (s:List UInt8) (u:Nat):(s++numD 16 u)≠[]∧(s++numD 16 u).getLast? ≠ some 58:=by
 have h1:=numD_ne (base:=16) (by decide) u
 refine ⟨by simp [h1],fun h=>?_⟩
 rw [List.getLast?_append] at h
 cases hx:(numD 16 u).getLast? with
 | none=>exact h1 (List.getLast?_eq_none_iff.1 hx)
 | some x =>
  rw [hx] at h
  have e:x=58:=by simpa using h
  subst e
  exact numD_free (by decide) (by decide) u 58 (by decide) (List.mem_of_getLast? hx)
theorem putAll_mid:∀ (us:List Nat) (s:List UInt8),s≠[]→s.getLast? ≠ some 58→putAll s us=s++(if us=[] then [] else 58::txtL 16 58 us)
 | [],s,_,_=>by simp [putAll]
 | u::us,s,h1,h2=>by
  have h3:=last_hex (s++[58]) u
  have e:putH s (numD 16 u)=s++[58]++numD 16 u:=by unfold putH;rw [if_pos ⟨h1,h2⟩];simp
  have:=putAll_mid us _ h3.1 h3.2
  rw [if_neg (by simp)]
  show putAll (putH s (numD 16 u)) us=_
  rw [e,this]
  cases us with
  | nil=>simp [txtL]
  | cons v us=>simp [txtL]
theorem putAll_ok (us:List Nat) (s:List UInt8) (h:s=[]∨s.getLast? = some 58):putAll s us=s++txtL 16 58 us:=by
 cases us with
 | nil=>simp [putAll,txtL]
 | cons u us =>
  have h3:=last_hex s u
  have e:putH s (numD 16 u)=s++numD 16 u:=by
   unfold putH
   rw [if_neg (fun hh=>h.elim hh.1 hh.2)]
  have:=putAll_mid us _ h3.1 h3.2
  show putAll (putH s (numD 16 u)) us=_
  rw [e,this]
  cases us with
  | nil=>simp [txtL]
  | cons v us=>simp [txtL]
theorem bsize (s:List UInt8):(bstr s).size=s.length:=rfl
theorem six_put (K:Nat) (hK:40≤K) (l:List Int) (hB:isB l) (f t:Int) (k i:Nat) (hi:i < 8) (s:List UInt8) (hs:s.length≤1000) (hg:¬ (1 < t∧(i:Int)=f)) :
    vineryref02_six.l2 K (nums l) (f,t) (k+1) s (i:Int)=vineryref02_six.l2 K (nums l) (f,t) k (putH s (numD 16 (n16 l i).toNat)) ((i+1:Nat):Int):=by
  have hn:=n16_lt hB i
  have e3:IntKind.i64.wrap ((i:Int)+1)=((i+1:Nat):Int):=by rw [w64 _ (by omega)];omega
  have hh:=number64 16 (by decide) (by decide) (n16 l i) (by omega) K hK
  have hl:=numD16_len (n16 l i).toNat (by omega)
  rw [vineryref02_six.l2,if_pos (by simp;omega)]
  have c1:¬ ((if (decide (t > (1:Int)))=true then ((i:Int)==f) else false)=true):=by
    intro h
    by_cases h1:1 < t
    · simp [h1] at h;exact hg ⟨h1,h⟩
    · simp [h1] at h
  simp only
  rw [if_neg c1,bstr_toList,bstr_toList,bsize]
  have c2:(((if (!(s==([]:List UInt8)))=true then (if 0≤(IntKind.i64.wrap ((s.length:Int) - (1:Int)))∧(IntKind.i64.wrap ((s.length:Int) - (1:Int))) < (s.length:Int) then some (((s.getD (Int.toNat (IntKind.i64.wrap ((s.length:Int) - (1:Int)))) 0).toNat:Int) != (58:Int):Bool) else none) else some (false:Bool))).bind fun s52=>(if s52=true then (if (s++([58]:List UInt8)).length≤9223372036854775807 then some (s++([58]:List UInt8):List UInt8) else none) else some (s:List UInt8)))=some (if s≠[]∧s.getLast? ≠ some 58 then s++[58] else s):=by
    by_cases h0:s=[]
    · subst h0;simp
    · have hp:=List.length_pos_iff.2 h0
      have e1:IntKind.i64.wrap ((s.length:Int) - 1)=((s.length - 1:Nat):Int):=by rw [w64 _ (by omega)];omega
      have eL:s.getLast? = some (s.getD (s.length - 1) 0):=by
        rw [List.getLast?_eq_getElem?,List.getD_eq_getElem?_getD,List.getElem?_eq_getElem (by omega)];rfl
      rw [e1,if_pos (by simpa using h0),if_pos (by omega),Option.bind_some,Int.toNat_natCast]
      by_cases hL:s.getD (s.length - 1) 0=58
      · have:¬ (s≠[]∧s.getLast? ≠ some 58):=fun h=>h.2 (by rw [eL,hL])
        rw [hL,if_neg (by decide),if_neg this]
      · have h2:(((s.getD (s.length - 1) 0).toNat:Int) != 58)=true:=by
          simp only [bne_iff_ne,ne_eq]
          intro e
          exact hL (UInt8.toNat_inj.1 (by have : (s.getD (s.length - 1) 0).toNat = 58 := by omega
                                          rw [this]; rfl))
        have:s≠[]∧s.getLast? ≠ some 58:=⟨h0,by rw [eL];simpa using hL⟩
        rw [if_pos h2,if_pos (by simp;omega),if_pos this]
  rw [c2,Option.bind_some,if_pos (by rw [nums_len];omega),rd_nums _ _ hi,show (16:Int)=((16:Nat):Int) from rfl,hh,Option.bind_some,e3]
  have e5:(if s≠[]∧s.getLast? ≠ some 58 then s++[58] else s)++numD 16 (n16 l i).toNat=putH s (numD 16 (n16 l i).toNat):=by
    unfold putH
    split<;>simp
  rw [e5,if_pos]
  unfold putH
  split<;>simp<;>omega
theorem putH_len (s h:List UInt8):(putH s h).length≤s.length+h.length+1:=by
 unfold putH;split<;>simp<;>omega
theorem six_run (K:Nat) (hK:40≤K) (l:List Int) (hB:isB l) (f t:Int):∀ (m i k:Nat) (s:List UInt8),i+m≤8→s.length+5*m≤900→(∀ j:Nat,i≤j→j < i+m→¬ (1 < t∧(j:Int)=f)) →
  vineryref02_six.l2 K (nums l) (f,t) (k+m) s (i:Int)=vineryref02_six.l2 K (nums l) (f,t) k (putAll s ((((nums l).drop i).take m).map Int.toNat)) ((i+m:Nat):Int)
 | 0,i,k,s,_,_,_=>by simp [putAll]
 | m+1,i,k,s,hi,hs,hg=>by
  have hn:=n16_lt hB i
  have hl:=numD16_len (n16 l i).toNat (by omega)
  have hp:=putH_len s (numD 16 (n16 l i).toNat)
  rw [show k+(m+1)=k+m+1 by omega,six_put K hK l hB f t (k+m) i (by omega) s (by omega) (hg i (by omega) (by omega)),six_run K hK l hB f t m (i+1) k _ (by omega) (by omega) (fun j h1 h2=>hg j (by omega) (by omega))]
  have hi8:i < (nums l).length:=by rw [nums_len];omega
  have e:(nums l)[i]=n16 l i:=by
   have:=nums_getD l i (by omega)
   rwa [List.getD_eq_getElem?_getD,List.getElem?_eq_getElem hi8] at this
  rw [List.drop_eq_getElem_cons hi8,List.take_succ_cons,List.map_cons,e,show i+1+m=i+(m+1) by omega]
  rfl
theorem rsix_ok (k:Nat) (a:S_api_Addr) (hB:isB a.B) (hk:100≤k):vineryref02_six.f k a=some (txt6 a.B):=by
 unfold vineryref02_six.f
 have h0:=six_l0 a hB 8 0 k [] rfl (by omega) (by simp)
 have h1:=six_l1 k (by omega) a.B 8 0 k (0,0) rfl (by omega)
 have h3:=gapOf_ok (nums a.B)
 have h16:=nums16 hB
 simp only [Nat.mul_zero,show ((0:Nat):Int)=0 from rfl] at h0 h1
 rw [h0,Option.bind_some,h1,Option.bind_some]
 rw [show gapGo (nums a.B) 8 0 (0,0)=gapOf (nums a.B) from rfl]
 unfold txt6
 simp only
 by_cases hg:(gapOf (nums a.B)).2 < 2
 ·rw [if_pos hg]
  obtain ⟨k',rfl⟩:∃ k',k=k'+1+8:=⟨k - 9,by omega⟩
  have r:=six_run (k'+1+8) (by omega) a.B hB (((gapOf (nums a.B)).1:Nat):Int) (((gapOf (nums a.B)).2:Nat):Int) 8 0 (k'+1) [] (by decide) (by decide) (fun j _ _ h=>by omega)
  simp only [show ((0:Nat):Int)=0 from rfl] at r
  rw [r,vineryref02_six.l2,if_neg (by decide),Option.bind_some,List.drop_zero,List.take_of_length_le (by rw [nums_len];decide),putAll_ok _ _ (.inl rfl)]
  rfl
 ·rw [if_neg hg]
  generalize hf:(gapOf (nums a.B)).1=f at *
  generalize ht:(gapOf (nums a.B)).2=t at *
  obtain ⟨k',rfl⟩:∃ k',k=k'+1+(8 - (f+t))+1+f:=⟨k - 1 - (8 - (f+t)) - 1 - f,by omega⟩
  have l1:=wr_len ((nums a.B).take f) (h16.sub fun n hn=>List.mem_of_mem_take hn)
  rw [List.length_take,nums_len] at l1
  have r:=six_run (k'+1+(8 - (f+t))+1+f) (by omega) a.B hB (f:Int) (t:Int) f 0 (k'+1+(8 - (f+t))+1) [] (by omega) (by simp;omega) (fun j _ h2 h=>by omega)
  simp only [show ((0:Nat):Int)=0 from rfl,List.drop_zero,Nat.zero_add] at r
  have ew:putAll [] (((nums a.B).take f).map Int.toNat)=wr ((nums a.B).take f):=by rw [putAll_ok _ _ (.inl rfl)];rfl
  rw [r,ew,vineryref02_six.l2,if_pos (by simp;omega)]
  have e4:IntKind.i64.wrap ((IntKind.i64.wrap ((IntKind.i64.wrap ((f:Int)+(t:Int))) - 1))+1)=((f+t:Nat):Int):=by
   rw [w64 ((f:Int)+t) (by omega),w64 ((f:Int)+t - 1) (by omega),w64 _ (by omega)];omega
  simp only
  rw [if_pos (by simp;omega),if_pos (by simp;omega),e4]
  have e6:((nums a.B).drop (f+t)).take (8 - (f+t))=(nums a.B).drop (f+t):=List.take_of_length_le (by rw [List.length_drop,nums_len];omega)
  have r2:=six_run (k'+1+(8 - (f+t))+1+f) (by omega) a.B hB (f:Int) (t:Int) (8 - (f+t)) (f+t) (k'+1) (wr ((nums a.B).take f)++[58,58]) (by omega) (by simp;omega) (fun j h1 h2 h=>by omega)
  rw [r2,show f+t+(8 - (f+t))=8 by omega,vineryref02_six.l2,if_neg (by decide),Option.bind_some,putAll_ok _ _ (.inr (by simp)),e6]
  simp [wr]
theorem txt4_numD (l:List Int) (hB:isB l):txt4 l=numD 10 (ar l 0).toNat++46::(numD 10 (ar l 1).toNat++46::(numD 10 (ar l 2).toNat++46::numD 10 (ar l 3).toNat)):=by
 rw [txt4_eq,itoa_nat _ (ar_isB hB 0).1,itoa_nat _ (ar_isB hB 1).1,itoa_nat _ (ar_isB hB 2).1,itoa_nat _ (ar_isB hB 3).1,numD_dec,numD_dec,numD_dec,numD_dec]
theorem dec3 (n:Int) (h:0≤n∧n≤255):(numD 10 n.toNat).length≤3:=by
 have step:∀ v,(numD 10 v).length≤(numD 10 (v / 10)).length+1:=fun v=>by
  by_cases hv:v < 10
  ·rw [numD_small hv];simp
  ·rw [numD_big (base:=10) (u:=v) (by omega) (by decide)];simp
 have a:=step n.toNat;have b:=step (n.toNat / 10)
 have c:(numD 10 (n.toNat / 10 / 10)).length≤1:=by rw [numD_small (by omega)];simp
 omega
theorem rtext_any (k:Nat) (a:S_api_Addr) (h:adrB a) (hk:200≤k):vineryref02_Text.f k a=some (textA a):=by
 obtain ⟨k,rfl⟩:∃ k',k=k'+20:=⟨k - 20,by omega⟩
 unfold vineryref02_Text.f textA
 rw [rright_ok,Option.bind_some]
 by_cases hr:rightB a=true
 ·rw [if_pos hr,hr]
  rcases rightB_size hr with h0 | h4 | h16
  ·rw [if_neg (by simp),h0,Option.bind_some,if_pos (by decide),if_neg (by decide),if_neg (by decide)]
  ·rw [if_neg (by simp),h4,Option.bind_some,if_neg (by decide),if_neg (by decide),if_pos rfl]
   have b0:=ar_isB h.1 0;have b1:=ar_isB h.1 1;have b2:=ar_isB h.1 2;have b3:=ar_isB h.1 3
   have d0:=dec3 _ b0;have d1:=dec3 _ b1;have d2:=dec3 _ b2;have d3:=dec3 _ b3
   have nn:∀ i,vineryref02_Number.f (k+20) (IntKind.i64.wrap (ar a.B i)) (10:Int)=some (numD 10 (ar a.B i).toNat):=fun i=>by
    have:=ar_isB h.1 i
    rw [w64 _ (by omega)]
    exact number64 10 (by decide) (by decide) _ (by omega) _ (by omega)
   have w1:IntKind.i64.wrap (1+1)=2:=by decide
   have w2:IntKind.i64.wrap (2+1)=3:=by decide
   have w3:IntKind.i64.wrap (3+1)=4:=by decide
   have t1:Int.toNat 1=1:=rfl
   have t2:Int.toNat 2=2:=rfl
   have t3:Int.toNat 3=3:=rfl
   have step:∀ (q:Nat) (s:List UInt8) (i:Nat),1≤i→i < 4→s.length≤100→vineryref02_Text.l0 (k+20) a (q+1) s (i:Int)=vineryref02_Text.l0 (k+20) a q (s++[46]++numD 10 (ar a.B i).toNat) ((i+1:Nat):Int):=by
    intro q s i h1 h4 hs
    have d:=dec3 _ (ar_isB h.1 i)
    have e3:IntKind.i64.wrap ((i:Int)+1)=((i+1:Nat):Int):=by rw [w64 _ (by omega)];omega
    rw [vineryref02_Text.l0,if_pos (by simp;omega),if_pos (by simp;omega),if_pos (by omega),Int.toNat_natCast,nn i,Option.bind_some,if_pos (by simp;omega),e3]
   have s1:=step (k+19) (numD 10 (ar a.B 0).toNat) 1 (by decide) (by decide) (by omega)
   have s2:=step (k+18) (numD 10 (ar a.B 0).toNat++[46]++numD 10 (ar a.B 1).toNat) 2 (by decide) (by decide) (by simp;omega)
   have s3:=step (k+17) (numD 10 (ar a.B 0).toNat++[46]++numD 10 (ar a.B 1).toNat++[46]++numD 10 (ar a.B 2).toNat) 3 (by decide) (by decide) (by simp;omega)
   simp only [show ((1:Nat):Int)=1 from rfl,show k+19+1=k+20 from rfl] at s1
   rw [nn 0,Option.bind_some,s1,s2,s3,vineryref02_Text.l0,if_neg (by decide),Option.bind_some,txt4_numD _ h.1]
   simp
  ·rw [if_neg (by simp),h16,Option.bind_some,if_neg (by decide),if_pos (by decide),if_neg (by decide),if_pos rfl,rsix_ok _ a h.1 (by omega)];rfl
 ·have:rightB a=false:=by simpa using hr
  rw [if_neg hr,this,if_pos (by simp),Option.bind_some,if_pos rfl]
/-! texts that the document reads -/
theorem rsplit_go (c:UInt8) (s:List UInt8) (hs:s.length≤10000000):∀ (n i k:Nat) (out:List (List UInt8)) (cur:List UInt8),i+n=s.length→n < k→out.length≤i→cur.length≤i →
  vineryref02_split.l0 s (c.toNat:Int) k (out++[cur]) (i:Int)=some (out++(match spl c (s.drop i) with | []=>[] | y::ys=>(cur++y)::ys))
 | 0,i,k,out,cur,hi,hk,ho,hc=>by
  obtain ⟨k,rfl⟩:∃ k',k=k'+1:=⟨k - 1,by omega⟩
  rw [vineryref02_split.l0,if_neg (by rw [bsize];simp;omega),List.drop_of_length_le (by omega)]
  simp [spl]
 | n+1,i,k,out,cur,hi,hk,ho,hc=>by
  obtain ⟨k,rfl⟩:∃ k',k=k'+1:=⟨k - 1,by omega⟩
  have hil:i < s.length:=by omega
  have e3:IntKind.i64.wrap ((i:Int)+1)=((i+1:Nat):Int):=by rw [w64 _ (by omega)];omega
  have el:IntKind.i64.wrap (((out++[cur]).length:Int) - 1)=((out.length:Nat):Int):=by rw [w64 _ (by simp;omega)];simp
  have eg:s.getD i 0=s[i]:=by rw [List.getD_eq_getElem?_getD,List.getElem?_eq_getElem hil];rfl
  have er:rd (out++[cur]) ((out.length:Nat):Int)=cur:=by unfold rd;rw [Int.toNat_natCast,List.getD_eq_getElem?_getD];simp
  have es:(s.take (Int.toNat ((i+1:Nat):Int))).drop i=[s[i]]:=by
   rw [Int.toNat_natCast,List.take_add_one,List.getElem?_eq_getElem hil]
   rw [List.drop_append_of_le_length (by rw [List.length_take];omega),List.drop_of_length_le (by rw [List.length_take];omega)];rfl
  rw [vineryref02_split.l0,if_pos (by rw [bsize];simp;omega),if_pos (by omega),Int.toNat_natCast,eg,List.drop_eq_getElem_cons hil,spl]
  by_cases h:s[i]=c
  ·rw [if_pos (by simp [h]),if_pos h,if_pos (by simp;omega),e3,rsplit_go c s hs n (i+1) k (out++[cur]) [] (by omega) (by omega) (by simp;omega) (by simp)]
   obtain ⟨y,ys,e⟩:=spl_pos c (s.drop (i+1))
   rw [e];simp
  ·have hne:¬ (((s[i].toNat:Int)==(c.toNat:Int))=true):=by
    simp only [beq_iff_eq]
    exact fun e=>h (UInt8.toNat_inj.1 (by omega))
   rw [if_neg hne,if_neg h]
   simp only [el,e3]
   rw [er,es,if_pos (by simp;omega),if_pos (by simp;omega),if_pos (by simp;omega),if_pos (by simp;omega),Int.toNat_natCast,List.set_append_right _ _ (Nat.le_refl _)]
   simp only [Nat.sub_self,List.set_cons_zero]
   rw [rsplit_go c s hs n (i+1) k out (cur++[s[i]]) (by omega) (by omega) (by omega) (by simp;omega)]
   obtain ⟨y,ys,e⟩:=spl_pos c (s.drop (i+1))
   rw [e];simp
theorem rsplit_ok (c:UInt8) (s:List UInt8) (k:Nat) (hs:s.length≤10000000) (hk:s.length < k):vineryref02_split.f k s (c.toNat:Int)=some (spl c s):=by
 unfold vineryref02_split.f
 have:=rsplit_go c s hs s.length 0 k [] [] (by omega) hk (by simp) (by simp)
 simp only [List.nil_append,List.drop_zero,show ((0:Nat):Int)=0 from rfl] at this
 rw [this,Option.bind_some]
 obtain ⟨y,ys,e⟩:=spl_pos c s
 rw [e]
def sign (c:UInt8):Int:=if 97≤c.toNat∧c.toNat≤102 then (c.toNat:Int) - 97+10 else if 48≤c.toNat∧c.toNat≤57 then (c.toNat:Int) - 48 else -1
theorem sign_dgt (d:Nat) (h:d < 16):sign (dgt d)=d:=by
 unfold sign
 rw [dgt_toNat h]
 by_cases h1:d < 10
 ·rw [if_pos h1,if_neg (by omega),if_pos (by omega)];omega
 ·rw [if_neg h1,if_pos (by omega)];omega
theorem digits_step (s:List UInt8) (base:Int) (k i:Nat) (x:Int) (hi:i < s.length) (hs:s.length≤1000) :
  vineryref02_Digits.l0 s base (k+1) x (i:Int)=if sign (s.getD i 0) < 0∨base≤sign (s.getD i 0) then some (.inl (-1)) else vineryref02_Digits.l0 s base k (IntKind.i64.wrap (IntKind.i64.wrap (x*base)+sign (s.getD i 0))) ((i+1:Nat):Int):=by
 have e3:IntKind.i64.wrap ((i:Int)+1)=((i+1:Nat):Int):=by rw [w64 _ (by omega)];omega
 have hc:=(s.getD i 0).toNat_lt
 rw [vineryref02_Digits.l0,if_pos (by rw [bsize];simp;omega)]
 simp only [Int.toNat_natCast,e3]
 obtain ⟨c,hcc⟩:∃ c,s.getD i 0=c:=⟨_,rfl⟩
 simp only [hcc] at hc ⊢
 have hin:(0:Int)≤(i:Int)∧(i:Int) < (s.length:Int):=by omega
 simp only [if_pos hin]
 have a1:((if (decide ((c.toNat:Int) ≥ (48:Int)))=true then some (decide ((c.toNat:Int)≤(57:Int)):Bool) else some (false:Bool))).bind (fun s34=>(if s34=true then some (IntKind.i64.wrap (IntKind.u8.wrap ((c.toNat:Int) - (48:Int))):Int) else some ((-1:Int):Int)))=some (if 48≤c.toNat∧c.toNat≤57 then (c.toNat:Int) - 48 else -1):=by
  by_cases g1:48≤c.toNat
  ·rw [if_pos (by simp;omega),Option.bind_some]
   by_cases g2:c.toNat≤57
   ·rw [if_pos (by simp;omega),if_pos ⟨g1,g2⟩,u8w _ (by omega),w64 _ (by omega)]
   ·rw [if_neg (by simp;omega),if_neg (by omega)]
  ·rw [if_neg (by simp;omega),Option.bind_some,if_neg (by simp),if_neg (by omega)]
 rw [a1,Option.bind_some]
 have a2:((if (decide ((c.toNat:Int) ≥ (97:Int)))=true then some (decide ((c.toNat:Int)≤(102:Int)):Bool) else some (false:Bool))).bind (fun s27=>(if s27=true then some (IntKind.i64.wrap ((IntKind.i64.wrap (IntKind.u8.wrap ((c.toNat:Int) - (97:Int))))+(10:Int)):Int) else some ((if 48≤c.toNat∧c.toNat≤57 then (c.toNat:Int) - 48 else -1):Int)))=some (sign c):=by
  unfold sign
  by_cases g1:97≤c.toNat
  ·rw [if_pos (by simp;omega),Option.bind_some]
   by_cases g2:c.toNat≤102
   ·rw [if_pos (by simp;omega),if_pos ⟨g1,g2⟩,u8w _ (by omega),w64 ((c.toNat:Int) - 97) (by omega),w64 _ (by omega)]
   ·rw [if_neg (by simp;omega),if_neg (show ¬ (48≤c.toNat∧c.toNat≤57) by omega),if_neg (show ¬ (97≤c.toNat∧c.toNat≤102) by omega)]
  ·rw [if_neg (by simp;omega),Option.bind_some,if_neg (by simp),if_neg (show ¬ (97≤c.toNat∧c.toNat≤102) by omega)]
 rw [a2,Option.bind_some]
 by_cases g:sign c < 0∨base≤sign c
 ·rw [if_pos g,if_pos]
  rcases g with g | g<;>simp [g]
 ·have g1:decide (sign c < 0)=false:=by simp;omega
  have g2:decide (sign c ≥ base)=false:=by simp;omega
  rw [if_neg g,g1,g2,if_neg (by simp)]
theorem digits_any (k:Nat) (s:List UInt8) (base most:Int) (hm:most≤100) (hk:200≤k):∃ n,vineryref02_Digits.f k s base most=some n:=by
 unfold vineryref02_Digits.f
 rw [bsize]
 by_cases h0:s.length=0
 ·rw [if_pos (by simp [h0])];exact ⟨_,rfl⟩
 by_cases h1:(s.length:Int) > most
 ·rw [if_pos (by simp [h1])];exact ⟨_,rfl⟩
 ·have hl:s.length≤100:=by omega
  rw [if_neg (by simp [h1];intro e;exact h0 (by simp [e]))]
  have go:∀ (n i k:Nat) (x:Int),i+n=s.length→n < k→∃ r,vineryref02_Digits.l0 s base k x (i:Int)=some r:=by
   intro n
   induction n with
   | zero =>
    intro i k x hi hk
    obtain ⟨k,rfl⟩:∃ k',k=k'+1:=⟨k - 1,by omega⟩
    exact ⟨.inr x,by rw [vineryref02_Digits.l0,if_neg (by rw [bsize];simp;omega)]⟩
   | succ n ih =>
    intro i k x hi hk
    obtain ⟨k,rfl⟩:∃ k',k=k'+1:=⟨k - 1,by omega⟩
    rw [digits_step s base k i x (by omega) (by omega)]
    split
    ·exact ⟨_,rfl⟩
    ·exact ih (i+1) k _ (by omega) (by omega)
  obtain ⟨r,hr⟩:=go s.length 0 k 0 (by omega) (by omega)
  rw [show ((0:Nat):Int)=0 from rfl] at hr
  rw [hr,Option.bind_some]
  cases r<;>exact ⟨_,rfl⟩
theorem digits_nil (k:Nat) (base most:Int):vineryref02_Digits.f k [] base most=some (-1):=by
 unfold vineryref02_Digits.f
 rw [if_pos (by simp [bsize])]
theorem digits_go (s:List UInt8) (base:Nat) (hb2:2≤base) (hb:base≤16) (hs:s.length≤1000):∀ (u i k:Nat) (rest:List UInt8),s.drop i=numD base u++rest→u < 1000000000000 →
  vineryref02_Digits.l0 s (base:Int) (k+(numD base u).length) 0 (i:Int)=vineryref02_Digits.l0 s (base:Int) k (u:Int) ((i+(numD base u).length:Nat):Int):=by
 have one:∀ (x:Nat) (d i k:Nat) (rest:List UInt8),x*16 < 1000000000000000→d < base→s.drop i=dgt d::rest→vineryref02_Digits.l0 s (base:Int) (k+1) (x:Int) (i:Int)=vineryref02_Digits.l0 s (base:Int) k ((x*base+d:Nat):Int) ((i+1:Nat):Int):=by
  intro x d i k rest hx hd hsd
  have hi:i < s.length:=by
   have:=congrArg List.length hsd
   rw [List.length_drop,List.length_cons] at this
   omega
  have hc:s.getD i 0=dgt d:=by
   have:=congrArg (fun l=>l[0]?) hsd
   simp only [List.getElem?_drop,Nat.add_zero,List.getElem?_cons_zero] at this
   rw [List.getD_eq_getElem?_getD,this];rfl
  have hxb:x*base≤x*16:=Nat.mul_le_mul_left _ hb
  rw [digits_step s base k i x hi hs,hc,sign_dgt d (by omega),if_neg (by omega)]
  have e1:(x:Int)*(base:Int)=((x*base:Nat):Int):=by push_cast;rfl
  have key:∀ Q:Nat,Q < 4611686018427387904→IntKind.i64.wrap (Q:Int)=(Q:Int):=fun Q h=>w64 _ (by omega)
  rw [e1,key _ (by omega),show (((x*base:Nat):Int)+(d:Int))=((x*base+d:Nat):Int) by push_cast;rfl,key _ (by omega)]
 intro u
 induction u using Nat.strongRecOn with
 | ind u ih =>
  intro i k rest hsd hu
  by_cases hsm:u < base
  ·rw [numD_small hsm] at hsd ⊢
   have:=one 0 u i k rest (by decide) hsm hsd
   simpa using this
  ·have hq:u / base < u:=Nat.div_lt_self (by omega) (by omega)
   have hbig:=numD_big (base:=base) (u:=u) (by omega) hb2
   rw [hbig] at hsd ⊢
   rw [List.append_assoc] at hsd
   have i1:=ih (u / base) hq i (k+1) ([dgt (u % base)]++rest) hsd (by omega)
   rw [List.length_append,List.length_singleton,show k+((numD base (u / base)).length+1)=(k+1)+(numD base (u / base)).length by omega,i1]
   have hm:=Nat.mod_lt u (show 0 < base by omega)
   have:=one (u / base) (u % base) (i+(numD base (u / base)).length) k rest (by omega) hm (by
    have:=congrArg (List.drop (numD base (u / base)).length) hsd
    rw [List.drop_drop,List.drop_left] at this
    exact this)
   rw [this,Nat.mul_comm (u / base) base,Nat.div_add_mod,Nat.add_assoc]
theorem digits_ok (k:Nat) (base:Nat) (hb2:2≤base) (hb:base≤16) (u:Nat) (most:Int) (hm:((numD base u).length:Int)≤most) (hl:(numD base u).length≤1000) (hu:u < 1000000000000) (hk:(numD base u).length < k) :
  vineryref02_Digits.f k (numD base u) (base:Int) most=some (u:Int):=by
 unfold vineryref02_Digits.f
 have h1:=numD_len hb2 u
 have:=digits_go (numD base u) base hb2 hb hl u 0 (k - (numD base u).length) [] (by simp) hu
 rw [show k - (numD base u).length+(numD base u).length=k by omega,show ((0:Nat):Int)=0 from rfl,Nat.zero_add] at this
 obtain ⟨k',e⟩:∃ k',k - (numD base u).length=k'+1:=⟨k - (numD base u).length - 1,by omega⟩
 have c0:(((numD base u).length:Int)==0)=false:=by rw [beq_eq_false_iff_ne];omega
 have c1:decide (((numD base u).length:Int) > most)=false:=by rw [decide_eq_false_iff_not];omega
 rw [bsize,c0,c1,if_neg (by simp),this,e,vineryref02_Digits.l0,if_neg (by rw [bsize];simp)];rfl
def rnum (K:Nat) (l:List (List UInt8)) (g:Int) (x:Int):Option Int:=(if (if (decide (g < (0:Int)))=true then true else (decide (x < g)))=true then (if (decide (x < (l.length:Int)))=true then (if 0≤x∧x < (l.length:Int) then (vineryref02_Digits.f K (rd l x) (16:Int) (4:Int)).bind fun t88=>some (if t88 > (0:Int) then t88 else (0:Int):Int) else none) else some ((0:Int):Int)) else (if (if (decide ((IntKind.i64.wrap ((IntKind.i64.wrap ((l.length:Int) - (8:Int)))+x)) > g))=true then (decide ((IntKind.i64.wrap ((IntKind.i64.wrap ((l.length:Int) - (8:Int)))+x)) < (l.length:Int))) else false)=true then (if 0≤(IntKind.i64.wrap ((IntKind.i64.wrap ((l.length:Int) - (8:Int)))+x))∧(IntKind.i64.wrap ((IntKind.i64.wrap ((l.length:Int) - (8:Int)))+x)) < (l.length:Int) then (vineryref02_Digits.f K (rd l (IntKind.i64.wrap ((IntKind.i64.wrap ((l.length:Int) - (8:Int)))+x))) (16:Int) (4:Int)).bind fun t99=>some (if t99 > (0:Int) then t99 else (0:Int):Int) else none) else some ((0:Int):Int)))
theorem rough_l2 (K:Nat) (l:List (List UInt8)) (g:Int) (nf:Nat→Int) (h:∀ i:Nat,i < 8→rnum K l g (i:Int)=some (nf i)):∀ (m i k:Nat) (x:List Int),i+m=8→m < k→x.length=16→isB x →
  ∃ r,vineryref02_rough.l2 K l g k (i:Int) x=some r∧r.length=16∧isB r∧∀ j,j < 16→ar r j=if i≤j / 2 then (if j % 2=0 then IntKind.u8.wrap (IntKind.i64.wrap (Int.tdiv (nf (j / 2)) 256)) else IntKind.u8.wrap (nf (j / 2))) else ar x j
 | 0,i,k,x,hi,hk,hx,hb=>by
  obtain ⟨k,rfl⟩:∃ k',k=k'+1:=⟨k - 1,by omega⟩
  exact ⟨x,by rw [vineryref02_rough.l2,if_neg (by simp;omega)],hx,hb,fun j hj=>by rw [if_neg (by omega)]⟩
 | m+1,i,k,x,hi,hk,hx,hb=>by
  obtain ⟨k,rfl⟩:∃ k',k=k'+1:=⟨k - 1,by omega⟩
  have e1:IntKind.i64.wrap (2*(i:Int))=((2*i:Nat):Int):=by rw [w64 _ (by omega)];omega
  have e2:IntKind.i64.wrap (((2*i:Nat):Int)+1)=((2*i+1:Nat):Int):=by rw [w64 _ (by omega)];omega
  have e3:IntKind.i64.wrap ((i:Int)+1)=((i+1:Nat):Int):=by rw [w64 _ (by omega)];omega
  have hn:=h i (by omega)
  have hw:∀ q:Int,0≤IntKind.u8.wrap q∧IntKind.u8.wrap q≤255:=fun q=>by rw [IntKind.wrap_u8];omega
  rw [vineryref02_rough.l2,if_pos (by simp;omega)]
  unfold rnum at hn
  rw [hn,Option.bind_some,e1,e2,e3,if_pos (by omega),if_pos (by omega),Int.toNat_natCast,Int.toNat_natCast,arL16 hx,arL16 (by simpa using hx)]
  obtain ⟨r,hr,r1,r2,r3⟩:=rough_l2 K l g nf h m (i+1) k ((x.set (2*i) (IntKind.u8.wrap (IntKind.i64.wrap (Int.tdiv (nf i) 256)))).set (2*i+1) (IntKind.u8.wrap (nf i))) (by omega) (by omega) (by simpa using hx) (fun y hy=>by
   rcases List.mem_or_eq_of_mem_set hy with hy | rfl
   ·rcases List.mem_or_eq_of_mem_set hy with hy | rfl
    ·exact hb y hy
    ·exact hw _
   ·exact hw _)
  refine ⟨r,hr,r1,r2,fun j hj=>?_⟩
  rw [r3 j hj,ar_setD _ _ _ _ (by simp [hx];omega),ar_setD _ _ _ _ (by omega)]
  by_cases h1:i+1≤j / 2
  ·have h4:i≤j / 2:=by omega
   rw [if_pos h1,if_pos h4]
  ·rw [if_neg h1]
   by_cases h2:j=2*i+1
   ·rw [if_pos h2,if_pos (by omega),if_neg (by omega),show j / 2=i by omega]
   ·rw [if_neg h2]
    by_cases h3:j=2*i
    ·rw [if_pos h3,if_pos (by omega),if_pos (by omega),show j / 2=i by omega]
    ·rw [if_neg h3,if_neg (by omega)]
theorem rnum_any (K:Nat) (hK:200≤K) (l:List (List UInt8)) (hl:l.length≤1000000) (g:Int) (i:Nat) (hi:i < 8):∃ n,rnum K l g (i:Int)=some n:=by
 unfold rnum
 have e1:IntKind.i64.wrap ((IntKind.i64.wrap ((l.length:Int) - 8))+(i:Int))=(l.length:Int) - 8+i:=by rw [w64 ((l.length:Int) - 8) (by omega),w64 _ (by omega)]
 rw [e1]
 by_cases hg:g < 0∨(i:Int) < g
 ·rw [if_pos (by rcases hg with h | h<;>simp [h])]
  by_cases h2:(i:Int) < l.length
  ·rw [if_pos (by simp;omega),if_pos (by omega)]
   obtain ⟨n,hn⟩:=digits_any K (rd l (i:Int)) 16 4 (by decide) hK
   rw [hn];exact ⟨_,rfl⟩
  ·rw [if_neg (by simp;omega)];exact ⟨_,rfl⟩
 ·have g1:decide (g < 0)=false:=by simp;omega
  have g2:decide ((i:Int) < g)=false:=by simp;omega
  rw [g1,g2,if_neg (by simp)]
  by_cases hc:g < (l.length:Int) - 8+i∧(l.length:Int) - 8+i < l.length
  ·have c1:decide ((l.length:Int) - 8+i > g)=true:=by simp;omega
   have c2:decide ((l.length:Int) - 8+i < (l.length:Int))=true:=by simp;omega
   rw [c1,c2,if_pos (by simp),if_pos (by omega)]
   obtain ⟨n,hn⟩:=digits_any K (rd l ((l.length:Int) - 8+i)) 16 4 (by decide) hK
   rw [hn];exact ⟨_,rfl⟩
  ·rw [if_neg]
   ·exact ⟨_,rfl⟩
   ·intro h
    by_cases q:g < (l.length:Int) - 8+i
    ·rw [decide_eq_true (show (l.length:Int) - 8+i > g from q),if_pos rfl,decide_eq_true_eq] at h
     exact hc ⟨q,h⟩
    ·rw [decide_eq_false (show ¬ (l.length:Int) - 8+i > g from q),if_neg (by simp)] at h
     exact absurd h (by simp)
theorem rough_l1 (l:List (List UInt8)) (hl:l.length≤10000000):∀ (n i k:Nat),i+n+1=l.length∨l.length≤i+1∧n=0→n+1 < k→∃ g:Int,vineryref02_rough.l1 l k (-1) (i:Int)=some g
 | 0,i,k,h,hk=>by
  obtain ⟨k,rfl⟩:∃ k',k=k'+1:=⟨k - 1,by omega⟩
  exact ⟨-1,by rw [vineryref02_rough.l1,w64 _ (by omega),if_neg (by simp;omega)]⟩
 | n+1,i,k,h,hk=>by
  obtain ⟨k,rfl⟩:∃ k',k=k'+1+1:=⟨k - 2,by omega⟩
  have e3:IntKind.i64.wrap ((i:Int)+1)=((i+1:Nat):Int):=by rw [w64 _ (by omega)];omega
  rw [vineryref02_rough.l1,w64 ((l.length:Int) - 1) (by omega),if_pos (by simp;omega),if_pos (by omega),e3]
  split
  ·exact ⟨(i:Int),by rw [vineryref02_rough.l1,w64 ((l.length:Int) - 1) (by omega),if_neg (by simp)]⟩
  ·exact rough_l1 l hl n (i+1) (k+1) (by omega) (by omega)
theorem rough_l1_at (l:List (List UInt8)) (hl:l.length≤1000) (g:Nat) (hg:g+1 < l.length) (h0:l[g]? = some []):∀ (n i k:Nat),i+n=g→(∀ j x,i≤j→j < g→l[j]? = some x→x≠[])→n+2 < k→vineryref02_rough.l1 l k (-1) (i:Int)=some (g:Int)
 | 0,i,k,h,hne,hk=>by
  obtain ⟨k,rfl⟩:∃ k',k=k'+1+1:=⟨k - 2,by omega⟩
  have e3:IntKind.i64.wrap ((i:Int)+1)=((i+1:Nat):Int):=by rw [w64 _ (by omega)];omega
  have er:rd l (i:Int)=[]:=by unfold rd;rw [Int.toNat_natCast,List.getD_eq_getElem?_getD,show i=g by omega,h0];rfl
  rw [vineryref02_rough.l1,w64 ((l.length:Int) - 1) (by omega),if_pos (by simp;omega),if_pos (by omega),e3,er,if_pos (by simp),vineryref02_rough.l1,w64 ((l.length:Int) - 1) (by omega),if_neg (by simp),show i=g by omega]
 | n+1,i,k,h,hne,hk=>by
  obtain ⟨k,rfl⟩:∃ k',k=k'+1:=⟨k - 1,by omega⟩
  have e3:IntKind.i64.wrap ((i:Int)+1)=((i+1:Nat):Int):=by rw [w64 _ (by omega)];omega
  have hil:i < l.length:=by omega
  have er:rd l (i:Int)=l[i]:=by unfold rd;rw [Int.toNat_natCast,List.getD_eq_getElem?_getD,List.getElem?_eq_getElem hil];rfl
  have hx:=hne i l[i] (Nat.le_refl _) (by omega) (List.getElem?_eq_getElem hil)
  rw [vineryref02_rough.l1,w64 ((l.length:Int) - 1) (by omega),if_pos (by simp;omega),if_pos (by omega),e3,er,bstr_toList,bstr_toList,if_neg (by simpa using hx)]
  exact rough_l1_at l hl g hg h0 n (i+1) k (by omega) (fun j x h1 h2=>hne j x (by omega) h2) (by omega)
theorem rough_l1_none (l:List (List UInt8)) (hl:l.length≤1000):∀ (n i k:Nat),i+n+1=l.length→(∀ j x,i≤j→l[j]? = some x→x≠[])→n+2 < k→vineryref02_rough.l1 l k (-1) (i:Int)=some (-1)
 | 0,i,k,h,hne,hk=>by
  obtain ⟨k,rfl⟩:∃ k',k=k'+1:=⟨k - 1,by omega⟩
  rw [vineryref02_rough.l1,w64 _ (by omega),if_neg (by simp;omega)]
 | n+1,i,k,h,hne,hk=>by
  obtain ⟨k,rfl⟩:∃ k',k=k'+1:=⟨k - 1,by omega⟩
  have e3:IntKind.i64.wrap ((i:Int)+1)=((i+1:Nat):Int):=by rw [w64 _ (by omega)];omega
  have hil:i < l.length:=by omega
  have er:rd l (i:Int)=l[i]:=by unfold rd;rw [Int.toNat_natCast,List.getD_eq_getElem?_getD,List.getElem?_eq_getElem hil];rfl
  have hx:=hne i l[i] (Nat.le_refl _) (List.getElem?_eq_getElem hil)
  rw [vineryref02_rough.l1,w64 ((l.length:Int) - 1) (by omega),if_pos (by simp;omega),if_pos (by omega),e3,er,bstr_toList,bstr_toList,if_neg (by simpa using hx)]
  exact rough_l1_none l hl n (i+1) k (by omega) (fun j x h1=>hne j x (by omega)) (by omega)
theorem rough_l0 (K:Nat) (hK:200≤K) (l:List (List UInt8)) (hl:l.length=4):∀ (m i k:Nat) (x:List Int),i+m=4→m < k→x.length=16→isB x→∃ r,vineryref02_rough.l0 K l k (i:Int) x=some r∧r.length=16∧isB r
 | 0,i,k,x,hi,hk,hx,hb=>by
  obtain ⟨k,rfl⟩:∃ k',k=k'+1:=⟨k - 1,by omega⟩
  exact ⟨x,by rw [vineryref02_rough.l0,if_neg (by simp;omega)],hx,hb⟩
 | m+1,i,k,x,hi,hk,hx,hb=>by
  obtain ⟨k,rfl⟩:∃ k',k=k'+1:=⟨k - 1,by omega⟩
  have e3:IntKind.i64.wrap ((i:Int)+1)=((i+1:Nat):Int):=by rw [w64 _ (by omega)];omega
  obtain ⟨n,hn⟩:=digits_any K (rd l (i:Int)) 10 3 (by decide) hK
  rw [vineryref02_rough.l0,if_pos (by simp;omega),if_pos (by omega),hn,Option.bind_some,if_pos (by omega),e3,arL16 hx]
  exact rough_l0 K hK l hl m (i+1) k _ (by omega) (by omega) (by simpa using hx) (fun y hy=>by
   rcases List.mem_or_eq_of_mem_set hy with hy | rfl
   ·exact hb y hy
   ·rw [IntKind.wrap_u8];omega)
theorem spl_len (c:UInt8):∀ s:List UInt8,(spl c s).length≤s.length+1
 | []=>by simp [spl]
 | x::s=>by
  have:=spl_len c s
  rw [spl]
  split
  ·simp;omega
  ·split
   ·simp
   ·rename_i h;rw [h] at this;simp at this ⊢;omega
theorem rough_any (k:Nat) (s:List UInt8) (hs:s.length≤1000) (hk:2000≤k):∃ a,vineryref02_rough.f k s=some a∧adrB a:=by
 unfold vineryref02_rough.f
 have h1:=rsplit_ok 46 s k (by omega) (by omega)
 have h2:=rsplit_ok 58 s k (by omega) (by omega)
 rw [show (46:Int)=(((46:UInt8).toNat:Nat):Int) from rfl,show (58:Int)=(((58:UInt8).toNat:Nat):Int) from rfl,h1,Option.bind_some]
 by_cases h4:(spl 46 s).length=4
 ·rw [if_pos (by simp [h4])]
  obtain ⟨r,hr,r1,r2⟩:=rough_l0 k (by omega) (spl 46 s) h4 4 0 k (List.replicate 16 0) rfl (by omega) (by simp) zeros_isB
  rw [show ((0:Nat):Int)=0 from rfl] at hr
  rw [hr];exact ⟨_,rfl,r2,r1⟩
 ·rw [if_neg (by simp;omega),h2,Option.bind_some]
  have hl:=spl_len 58 s
  obtain ⟨g,hg⟩:=rough_l1 (spl 58 s) (by omega) ((spl 58 s).length - 2) 1 k (by omega) (by omega)
  rw [show ((1:Nat):Int)=1 from rfl] at hg
  rw [hg,Option.bind_some]
  have hn:∀ i:Nat,i < 8→rnum k (spl 58 s) g (i:Int)=some ((rnum k (spl 58 s) g (i:Int)).getD 0):=fun i hi=>by
   obtain ⟨n,e⟩:=rnum_any k (by omega) (spl 58 s) (by omega) g i hi
   rw [e];rfl
  obtain ⟨r,hr,r1,r2,_⟩:=rough_l2 k (spl 58 s) g (fun i=>(rnum k (spl 58 s) g (i:Int)).getD 0) hn 8 0 k (List.replicate 16 0) rfl (by omega) (by simp) zeros_isB
  rw [show ((0:Nat):Int)=0 from rfl] at hr
  rw [hr];exact ⟨_,rfl,r2,r1⟩
theorem rough4_ok (k:Nat) (a:S_api_Addr) (h:adrB a) (hr:rightB a=true) (h4:a.Size=4) (hk:2000≤k):vineryref02_rough.f k (txt4 a.B)=some a:=by
 have b0:=ar_isB h.1 0;have b1:=ar_isB h.1 1;have b2:=ar_isB h.1 2;have b3:=ar_isB h.1 3
 have d0:=dec3 _ b0;have d1:=dec3 _ b1;have d2:=dec3 _ b2;have d3:=dec3 _ b3
 have hlen:=txt4_len a.B h.1
 unfold vineryref02_rough.f
 have h1:=rsplit_ok 46 (txt4 a.B) k (by omega) (by omega)
 have fr:∀ u,(46:UInt8)∉numD 10 u:=fun u=>numD_free (by decide) (by decide) u 46 (by decide)
 have es:spl 46 (txt4 a.B)=[numD 10 (ar a.B 0).toNat,numD 10 (ar a.B 1).toNat,numD 10 (ar a.B 2).toNat,numD 10 (ar a.B 3).toNat]:=by
  rw [txt4_numD _ h.1,spl_app _ (fr _),spl_app _ (fr _),spl_app _ (fr _),spl_free (fr _)]
 rw [show (46:Int)=(((46:UInt8).toNat:Nat):Int) from rfl,h1,Option.bind_some,es,if_pos (by simp)]
 have nn:∀ i,vineryref02_Digits.f k (numD 10 (ar a.B i).toNat) (10:Int) 3=some (ar a.B i):=fun i=>by
  have hb:=ar_isB h.1 i
  have hd:=dec3 _ hb
  have:=digits_ok k 10 (by decide) (by decide) (ar a.B i).toNat 3 (by omega) (by omega) (by omega) (by omega)
  rwa [show (((ar a.B i).toNat:Nat):Int)=ar a.B i by omega] at this
 have mx:∀ i,IntKind.u8.wrap (if ar a.B i > 0 then ar a.B i else 0)=ar a.B i:=fun i=>by
  have hb:=ar_isB h.1 i
  split
  ·exact u8w _ hb
  ·rw [u8w _ (by decide)];omega
 obtain ⟨k,rfl⟩:∃ k',k=k'+5:=⟨k - 5,by omega⟩
 have w1:IntKind.i64.wrap (0+1)=1:=by decide
 have w2:IntKind.i64.wrap (1+1)=2:=by decide
 have w3:IntKind.i64.wrap (2+1)=3:=by decide
 have w4:IntKind.i64.wrap (3+1)=4:=by decide
 have r0:∀ x0 x1 x2 x3:List UInt8,rd [x0,x1,x2,x3] 0=x0:=fun _ _ _ _=>rfl
 have r1:∀ x0 x1 x2 x3:List UInt8,rd [x0,x1,x2,x3] 1=x1:=fun _ _ _ _=>rfl
 have r2:∀ x0 x1 x2 x3:List UInt8,rd [x0,x1,x2,x3] 2=x2:=fun _ _ _ _=>rfl
 have r3:∀ x0 x1 x2 x3:List UInt8,rd [x0,x1,x2,x3] 3=x3:=fun _ _ _ _=>rfl
 rw [vineryref02_rough.l0,if_pos (by decide),if_pos (by simp),r0,nn 0,Option.bind_some,if_pos (by decide),w1,mx 0,
  vineryref02_rough.l0,if_pos (by decide),if_pos (by simp),r1,nn 1,Option.bind_some,if_pos (by decide),w2,mx 1,
  vineryref02_rough.l0,if_pos (by decide),if_pos (by simp),r2,nn 2,Option.bind_some,if_pos (by decide),w3,mx 2,
  vineryref02_rough.l0,if_pos (by decide),if_pos (by simp),r3,nn 3,Option.bind_some,if_pos (by decide),w4,mx 3,
  vineryref02_rough.l0,if_neg (by decide),Option.bind_some]
 have e:=right4_B hr h4 h.2
 have:(([ar a.B 0,ar a.B 1,ar a.B 2,ar a.B 3,0,0,0,0,0,0,0,0,0,0,0,0]:List Int))=a.B:=e.symm
 cases a
 simp only at h4 this
 subst h4
 exact congrArg (fun b=>some (⟨4,b⟩:S_api_Addr)) this
def splW (ns:List Int):List (List UInt8):=if ns=[] then [[]] else ns.map fun n=>numD 16 n.toNat
theorem spl_wr:∀ ns:List Int,spl 58 (wr ns)=splW ns
 | []=>rfl
 | [n]=>by
  rw [splW,if_neg (by simp)]
  exact spl_free (numD_free (by decide) (by decide) n.toNat 58 (by decide))
 | n::m::ns=>by
  have:=spl_wr (m::ns)
  rw [splW,if_neg (by simp)] at this ⊢
  show spl 58 (numD 16 n.toNat++58::wr (m::ns))=_
  rw [spl_app _ (numD_free (by decide) (by decide) n.toNat 58 (by decide)),this];rfl
theorem spl_front:∀ (ns:List Int) (s:List UInt8),spl 58 (wr ns++58::s)=splW ns++spl 58 s
 | [],s=>by simp [wr,txtL,splW,spl]
 | [n],s=>by
  rw [splW,if_neg (by simp)]
  show spl 58 (numD 16 n.toNat++58::s)=_
  rw [spl_app _ (numD_free (by decide) (by decide) n.toNat 58 (by decide))];rfl
 | n::m::ns,s=>by
  have:=spl_front (m::ns) s
  rw [splW,if_neg (by simp)] at this ⊢
  show spl 58 ((numD 16 n.toNat++58::wr (m::ns))++58::s)=_
  rw [List.append_assoc,List.cons_append,spl_app _ (numD_free (by decide) (by decide) n.toNat 58 (by decide)),this];rfl
theorem hexdig (K:Nat) (hK:100≤K) (n:Int) (h:0≤n∧n < 65536):vineryref02_Digits.f K (numD 16 n.toNat) (16:Int) 4=some n:=by
 have hl:=numD16_len n.toNat (by omega)
 have:=digits_ok K 16 (by decide) (by decide) n.toNat 4 (by omega) (by omega) (by omega) (by omega)
 rwa [show ((n.toNat:Nat):Int)=n by omega] at this
theorem mx0 (n:Int) (h:0≤n):(if n > 0 then n else 0)=n:=by split<;>omega
theorem rd_some {l:List (List UInt8)} {i:Nat} {x:List UInt8} (h:l[i]? = some x):rd l (i:Int)=x:=by
 unfold rd;rw [Int.toNat_natCast,List.getD_eq_getElem?_getD,h];rfl
theorem rnum_head (K:Nat) (l:List (List UInt8)) (g:Int) (i:Nat) (hg:g < 0∨(i:Int) < g) (x:List UInt8) (hx:l[i]? = some x) (n:Int) (hn:vineryref02_Digits.f K x 16 4=some n):rnum K l g (i:Int)=some (if n > 0 then n else 0):=by
 have hil:i < l.length:=(List.getElem?_eq_some_iff.1 hx).1
 unfold rnum
 rw [if_pos (by rcases hg with h | h<;>simp [h]),if_pos (by simpa using hil),if_pos (by omega),rd_some hx,hn];rfl
theorem rnum_tail (K:Nat) (l:List (List UInt8)) (hl:l.length≤1000) (g i q:Nat) (hg:g≤i) (hi:i < 8) (hq:l.length+i=q+8) (h:g < q) (x:List UInt8) (hx:l[q]? = some x) (n:Int) (hn:vineryref02_Digits.f K x 16 4=some n):rnum K l (g:Int) (i:Int)=some (if n > 0 then n else 0):=by
 have hql:q < l.length:=(List.getElem?_eq_some_iff.1 hx).1
 have e1:IntKind.i64.wrap ((IntKind.i64.wrap ((l.length:Int) - 8))+(i:Int))=(q:Int):=by rw [w64 ((l.length:Int) - 8) (by omega),w64 _ (by omega)];omega
 have g1:decide ((g:Int) < 0)=false:=by simp
 have g2:decide ((i:Int) < (g:Int))=false:=by simp;omega
 have c1:decide ((q:Int) > (g:Int))=true:=by simp;omega
 have c2:decide ((q:Int) < (l.length:Int))=true:=by simp;omega
 unfold rnum
 rw [e1,g1,g2,if_neg (by simp),c1,c2,if_pos (by simp),if_pos (by omega),rd_some hx,hn];rfl
theorem rnum_gap (K:Nat) (l:List (List UInt8)) (hl:l.length≤1000) (g i:Nat) (hg:g≤i) (hi:i < 8) (h:l.length+i≤g+8):rnum K l (g:Int) (i:Int)=some 0:=by
 have e1:IntKind.i64.wrap ((IntKind.i64.wrap ((l.length:Int) - 8))+(i:Int))=(l.length:Int) - 8+i:=by rw [w64 ((l.length:Int) - 8) (by omega),w64 _ (by omega)]
 have g1:decide ((g:Int) < 0)=false:=by simp
 have g2:decide ((i:Int) < (g:Int))=false:=by simp;omega
 have c1:decide ((l.length:Int) - 8+i > (g:Int))=false:=by simp;omega
 unfold rnum
 rw [e1,g1,g2,if_neg (by simp),c1,if_neg (by simp)]
theorem splW_get (ns:List Int) (i:Nat) (h:i < ns.length):(splW ns)[i]? = some (numD 16 (ns.getD i 0).toNat):=by
 have hne:ns≠[]:=fun e=>by rw [e] at h;simp at h
 rw [splW,if_neg hne,List.getElem?_map,List.getElem?_eq_getElem h,List.getD_eq_getElem?_getD,List.getElem?_eq_getElem h];rfl
theorem splW_len (ns:List Int):(splW ns).length=if ns=[] then 1 else ns.length:=by
 unfold splW;split<;>simp_all
theorem getD_take (l:List Int) (f i:Nat) (h:i < f):(l.take f).getD i 0=l.getD i 0:=by
 rw [List.getD_eq_getElem?_getD,List.getD_eq_getElem?_getD,List.getElem?_take,if_pos h]
theorem getD_drop (l:List Int) (t i:Nat):(l.drop t).getD i 0=l.getD (t+i) 0:=by
 rw [List.getD_eq_getElem?_getD,List.getD_eq_getElem?_getD,List.getElem?_drop]
theorem nil_take {l:List Int} {f:Nat} (hl:l.length=8):l.take f=[]↔f=0:=by
 rw [← List.length_eq_zero_iff,List.length_take];omega
theorem nil_drop {l:List Int} {t:Nat} (hl:l.length=8):l.drop t=[]↔8≤t:=by
 rw [← List.length_eq_zero_iff,List.length_drop];omega
theorem gap_nums (K:Nat) (hK:100≤K) (l:List Int) (hB:isB l) (f t:Nat) (hf:f < t) (ht:t≤8) (hz:∀ i,f≤i→i < t→n16 l i=0) (i:Nat) (hi:i < 8) :
  rnum K (splW ((nums l).take f)++([]::splW ((nums l).drop t))) ((max 1 f:Nat):Int) (i:Int)=some (n16 l i):=by
 have hn:=n16_lt hB i
 have hd:=hexdig K hK (n16 l i) hn
 have l1:=splW_len ((nums l).take f)
 have l2:=splW_len ((nums l).drop t)
 have t1:((nums l).take f).length=f:=by rw [List.length_take,nums_len];omega
 have t2:((nums l).drop t).length=8 - t:=by rw [List.length_drop,nums_len]
 simp only [nil_take (nums_len l),nil_drop (nums_len l),t1,t2] at l1 l2
 have lF:(splW ((nums l).take f)).length=max 1 f:=by rw [l1];split<;>omega
 have len:(splW ((nums l).take f)++([]::splW ((nums l).drop t))).length=max 1 f+1+(splW ((nums l).drop t)).length:=by simp [lF];omega
 by_cases h1:i < f
 ·have g:(splW ((nums l).take f)++([]::splW ((nums l).drop t)))[i]? = some (numD 16 (n16 l i).toNat):=by
   rw [List.getElem?_append_left (by omega),splW_get _ _ (by omega),getD_take _ _ _ h1,nums_getD _ _ hi]
  rw [rnum_head K _ _ i (.inr (by omega)) _ g _ hd,mx0 _ hn.1]
 ·by_cases h2:i < t
  ·have z:=hz i (by omega) h2
   rw [z]
   by_cases h3:f=0∧i=0
   ·have g:(splW ((nums l).take f)++([]::splW ((nums l).drop t)))[i]? = some []:=by
     have e0:(nums l).take f=[]:=(nil_take (nums_len l)).2 h3.1
     rw [List.getElem?_append_left (by omega),e0,h3.2];rfl
    rw [rnum_head K _ _ i (.inr (by omega)) _ g _ (digits_nil _ _ _)];rfl
   ·by_cases h8:t=8∧i=7
    ·have l3:(splW ((nums l).drop t)).length=1:=by rw [l2,if_pos (by omega)]
     have g:(splW ((nums l).take f)++([]::splW ((nums l).drop t)))[max 1 f+1]? = some []:=by
      have e0:(nums l).drop t=[]:=(nil_drop (nums_len l)).2 (by omega)
      rw [List.getElem?_append_right (by omega),lF,show max 1 f+1 - max 1 f=1 by omega,e0];rfl
     rw [rnum_tail K _ (by omega) (max 1 f) i (max 1 f+1) (by omega) hi (by omega) (by omega) _ g _ (digits_nil _ _ _)];rfl
    ·refine rnum_gap K _ ?_ (max 1 f) i (by omega) hi ?_
     ·rw [len,l2];split<;>omega
     ·rw [len,l2];split<;>omega
  ·have l3:(splW ((nums l).drop t)).length=8 - t:=by rw [l2,if_neg (by omega)]
   have g:(splW ((nums l).take f)++([]::splW ((nums l).drop t)))[max 1 f+1+(i - t)]? = some (numD 16 (n16 l i).toNat):=by
    rw [List.getElem?_append_right (by omega),lF,show max 1 f+1+(i - t) - max 1 f=(i - t)+1 by omega,List.getElem?_cons_succ,splW_get _ _ (by omega),getD_drop,show t+(i - t)=i by omega,nums_getD _ _ hi]
   rw [rnum_tail K (splW ((nums l).take f)++([]::splW ((nums l).drop t))) (by rw [len,l3];omega) (max 1 f) i (max 1 f+1+(i - t)) (by omega) hi (by rw [len,l3];omega) (by omega) _ g _ hd,mx0 _ hn.1]
theorem rough6_ok (k:Nat) (l:List Int) (hB:isB l) (hl:l.length=16) (hk:2000≤k):vineryref02_rough.f k (txt6 l)=some ⟨16,l⟩:=by
 have hlen:=txt6_len hB
 have h16:=nums16 hB
 have h3:=gapOf_ok (nums l)
 unfold vineryref02_rough.f
 have h1:=rsplit_ok 46 (txt6 l) k (by omega) (by omega)
 have h2:=rsplit_ok 58 (txt6 l) k (by omega) (by omega)
 have no46:(46:UInt8)∉txt6 l:=by
  have w:∀ ns,(46:UInt8)∉wr ns:=fun ns=>txtL_free (by decide) (by decide) 58 46 (by decide) (by decide) _
  unfold txt6
  simp only
  by_cases hg:(gapOf (nums l)).2 < 2
  ·rw [if_pos hg];exact w _
  ·rw [if_neg hg];simp [w]
 rw [show (46:Int)=(((46:UInt8).toNat:Nat):Int) from rfl,show (58:Int)=(((58:UInt8).toNat:Nat):Int) from rfl,h1,Option.bind_some,spl_free no46,if_neg (by simp),h2,Option.bind_some]
 have fin:∀ (g:Int) (q:List (List UInt8)),(∀ i:Nat,i < 8→rnum k q g (i:Int)=some (n16 l i))→(vineryref02_rough.l2 k q g k (0:Int) (List.replicate 16 (0:Int))).bind (fun s57=>some (((⟨(16:Int),s57⟩:S_api_Addr):S_api_Addr)))=some ⟨16,l⟩:=by
  intro g q hq
  obtain ⟨r,hr,r1,r2,r3⟩:=rough_l2 k q g (n16 l) hq 8 0 k (List.replicate 16 0) rfl (by omega) (by simp) zeros_isB
  rw [show ((0:Nat):Int)=0 from rfl] at hr
  have:r=l:=ar_ext r1 hl fun j hj=>by
   have hn:=n16_lt hB (j / 2)
   have td:Int.tdiv (n16 l (j / 2)) 256=n16 l (j / 2) / 256:=Int.tdiv_eq_ediv_of_nonneg hn.1
   rw [r3 j hj,if_pos (Nat.zero_le _),← n16_back hB j,td,w64 _ (by omega),IntKind.wrap_u8,IntKind.wrap_u8]
   split<;>omega
  rw [hr,this];rfl
 by_cases hg:(gapOf (nums l)).2 < 2
 ·have e:txt6 l=wr (nums l):=by unfold txt6;simp only;rw [if_pos hg]
  rw [e,spl_wr]
  have hl8:(splW (nums l)).length=8:=by rw [splW_len];rfl
  have g:vineryref02_rough.l1 (splW (nums l)) k (-1) ((1:Nat):Int)=some (-1):=by
   refine rough_l1_none _ (by omega) 6 1 k (by omega) (fun j x _ hx=>?_) (by omega)
   have hj:j < 8:=by have:=(List.getElem?_eq_some_iff.1 hx).1;omega
   rw [splW_get _ _ (by rw [nums_len];exact hj)] at hx
   rw [← Option.some.inj hx];exact numD_ne (by decide) _
  rw [show ((1:Nat):Int)=1 from rfl] at g
  rw [g,Option.bind_some]
  refine fin _ _ fun i hi=>?_
  have hn:=n16_lt hB i
  have gi:(splW (nums l))[i]? = some (numD 16 (n16 l i).toNat):=by rw [splW_get _ _ (by rw [nums_len];exact hi),nums_getD _ _ hi]
  rw [rnum_head k _ _ i (.inl (by decide)) _ gi _ (hexdig k (by omega) _ hn),mx0 _ hn.1]
 ·have e:txt6 l=wr ((nums l).take (gapOf (nums l)).1)++58::58::wr ((nums l).drop ((gapOf (nums l)).1+(gapOf (nums l)).2)):=by unfold txt6;simp only;rw [if_neg hg]
  have e2:spl 58 (58::wr ((nums l).drop ((gapOf (nums l)).1+(gapOf (nums l)).2)))=[]::splW ((nums l).drop ((gapOf (nums l)).1+(gapOf (nums l)).2)):=by rw [spl,if_pos rfl,spl_wr]
  rw [e,spl_front,e2]
  generalize hf:(gapOf (nums l)).1=f at *
  generalize ht:f+(gapOf (nums l)).2=t at *
  have l1:=splW_len ((nums l).take f)
  have l2:=splW_len ((nums l).drop t)
  have t1:((nums l).take f).length=f:=by rw [List.length_take,nums_len];omega
  have t2:((nums l).drop t).length=8 - t:=by rw [List.length_drop,nums_len]
  simp only [nil_take (nums_len l),nil_drop (nums_len l),t1,t2] at l1 l2
  have lF:(splW ((nums l).take f)).length=max 1 f:=by rw [l1];split<;>omega
  have lG:1≤(splW ((nums l).drop t)).length∧(splW ((nums l).drop t)).length≤8:=by rw [l2];split<;>omega
  have g:vineryref02_rough.l1 (splW ((nums l).take f)++([]::splW ((nums l).drop t))) k (-1) ((1:Nat):Int)=some ((max 1 f:Nat):Int):=by
   refine rough_l1_at _ (by simp [lF];omega) (max 1 f) (by simp [lF];omega) ?_ (max 1 f - 1) 1 k (by omega) (fun j x h1 h2 hx=>?_) (by omega)
   ·rw [List.getElem?_append_right (by omega),lF,Nat.sub_self];rfl
   ·rw [List.getElem?_append_left (by omega),splW_get _ _ (by omega)] at hx
    rw [← Option.some.inj hx];exact numD_ne (by decide) _
  rw [show ((1:Nat):Int)=1 from rfl] at g
  rw [g,Option.bind_some]
  exact fin _ _ fun i hi=>gap_nums k (by omega) l hB f t (by omega) (by omega) (fun i h1 h2=>by
   have:=h3.2 (i - f) (by omega)
   rw [show f+(i - f)=i by omega,ar_nums _ _ (by omega)] at this
   exact this) i hi
theorem txtL_len1 (base:Nat) (sep:UInt8) (b:Nat):∀ us:List Nat,us≠[]→(∀ u∈us,(numD base u).length≤b)→(txtL base sep us).length+1≤us.length*(b+1)
 | [],h,_=>absurd rfl h
 | [u],_,h=>by have:=h u (by simp);simp only [txtL,List.length_singleton];omega
 | u::v::us,_,h=>by
  have h1:=h u (by simp)
  have h2:=txtL_len1 base sep b (v::us) (by simp) (fun x hx=>h x (by simp at hx ⊢;right;exact hx))
  simp only [txtL,List.length_append,List.length_cons] at h2 ⊢
  have:(us.length+1+1)*(b+1)=(us.length+1)*(b+1)+(b+1):=by rw [Nat.add_mul];omega
  omega
theorem textA_39 (a:S_api_Addr) (h:adrB a):(textA a).length≤39:=by
 unfold textA
 split
 ·split
  ·have d0:=dec3 _ (ar_isB h.1 0);have d1:=dec3 _ (ar_isB h.1 1);have d2:=dec3 _ (ar_isB h.1 2);have d3:=dec3 _ (ar_isB h.1 3)
   rw [txt4_numD _ h.1];simp;omega
  ·split
   ·have h16:=nums16 h.1
    have h3:=gapOf_ok (nums a.B)
    unfold txt6
    simp only
    by_cases hg:(gapOf (nums a.B)).2 < 2
    ·rw [if_pos hg]
     have:=txtL_len1 16 58 4 ((nums a.B).map Int.toNat) (by simp [nums]) (fun u hu=>by
      obtain ⟨n,hn,rfl⟩:=List.mem_map.1 hu
      have:=h16 n hn
      exact numD16_len _ (by omega))
     rw [List.length_map,nums_len] at this
     unfold wr;omega
    ·rw [if_neg hg]
     have l1:=wr_len ((nums a.B).take (gapOf (nums a.B)).1) (h16.sub fun n hn=>List.mem_of_mem_take hn)
     have l2:=wr_len ((nums a.B).drop ((gapOf (nums a.B)).1+(gapOf (nums a.B)).2)) (h16.sub fun n hn=>List.mem_of_mem_drop hn)
     rw [List.length_take,nums_len] at l1
     rw [List.length_drop,nums_len] at l2
     simp;omega
   ·simp
 ·simp
theorem rparse_text (k:Nat) (a:S_api_Addr) (h:adrB a) (hr:rightB a=true) (hk:3000≤k):vineryref02_Parse.f k (textA a)=some (a,0):=by
 have ht:=rtext_any k a h (by omega)
 have hl:=textA_39 a h
 unfold vineryref02_Parse.f
 rw [bstr_toList,bstr_toList,bsize]
 by_cases h0:textA a=[]
 ·rw [if_pos (by simpa using h0)]
  have hs:a.Size=0:=by
   rcases rightB_size hr with e | e | e
   ·exact e
   ·exfalso
    have:=txt4_ne a.B h.1
    unfold textA at h0;rw [if_pos hr,if_pos e] at h0;exact this h0
   ·exfalso
    have:=txt6_colon a.B
    unfold textA at h0;rw [if_pos hr,if_neg (by omega),if_pos e] at h0;rw [h0] at this;cases this
  rw [right0 h hr hs]
 ·rw [if_neg (by simpa using h0),if_neg (by simp;omega)]
  have hrr:vineryref02_rough.f k (textA a)=some a:=by
   rcases rightB_size hr with e | e | e
   ·exfalso;unfold textA at h0;rw [if_pos hr,if_neg (by omega),if_neg (by omega)] at h0;exact h0 rfl
   ·have et:textA a=txt4 a.B:=by unfold textA;rw [if_pos hr,if_pos e]
    rw [et];exact rough4_ok k a h hr e (by omega)
   ·have et:textA a=txt6 a.B:=by unfold textA;rw [if_pos hr,if_neg (by omega),if_pos e]
    rw [et,rough6_ok k a.B h.1 h.2 (by omega)]
    cases a;simp only at e;rw [e]
  rw [hrr,Option.bind_some,ht,Option.bind_some,bstr_toList,if_neg (by simp)]
theorem rparse_any (k:Nat) (s:List UInt8) (hk:3000≤k):∃ a e,vineryref02_Parse.f k s=some (a,e)∧adrB a∧(e=0∧textA a=s∧rightB a=true∨e=4∧a=⟨0,List.replicate 16 0⟩):=by
 have hz:adrB ⟨0,List.replicate 16 0⟩:=⟨zeros_isB,by simp⟩
 unfold vineryref02_Parse.f
 rw [bstr_toList,bstr_toList,bsize]
 by_cases h0:s=[]
 ·subst h0
  rw [if_pos (by decide)]
  refine ⟨_,_,rfl,hz,.inl ⟨rfl,?_,by decide⟩⟩
  unfold textA;rw [if_pos (by decide),if_neg (by decide),if_neg (by decide)]
 ·rw [if_neg (by simpa using h0)]
  by_cases hl:39 < s.length
  ·rw [if_pos (by simp;omega)];exact ⟨_,_,rfl,hz,.inr ⟨rfl,rfl⟩⟩
  ·rw [if_neg (by simp;omega)]
   obtain ⟨a,ha,za⟩:=rough_any k s (by omega) (by omega)
   rw [ha,Option.bind_some,rtext_any k a za (by omega),Option.bind_some,bstr_toList]
   by_cases e:textA a=s
   ·rw [if_neg (by simpa using e)]
    refine ⟨_,_,rfl,za,.inl ⟨rfl,e,?_⟩⟩
    by_cases hr:rightB a=true
    ·exact hr
    ·unfold textA at e;rw [if_neg hr] at e;exact absurd e.symm h0
   ·rw [if_pos (by simpa using e)];exact ⟨_,_,rfl,hz,.inr ⟨rfl,rfl⟩⟩
/-! the document's distinguishers as texts -/
theorem pb_putL (n:Int) (s:Nat):∀ y∈putL n s,0≤y∧y≤255:=fun y hy=>by
 match s with
 | 0=>cases hy
 | 1=>simp only [putL,List.mem_cons,List.not_mem_nil,or_false] at hy;omega
 | 2=>simp only [putL,List.mem_cons,List.not_mem_nil,or_false] at hy;omega
 | 3=>simp only [putL,List.mem_cons,List.not_mem_nil,or_false] at hy;omega
 | 4=>simp only [putL,List.mem_cons,List.not_mem_nil,or_false] at hy;omega
 | s+5=>cases hy
theorem hex_l0 (d:List Int) (hd:d.length=8) (hB:isB d):∀ (m i k:Nat) (out:List Int),i+m=8→m < k→out.length≤2*i→∃ r,vineryref03_Hex.l0 d k out (i:Int)=some r∧b2s r=b2s out++hex8 (d.drop i)
 | 0,i,k,out,hi,hk,ho=>by
  obtain ⟨k,rfl⟩:∃ k',k=k'+1:=⟨k - 1,by omega⟩
  exact ⟨out,by rw [vineryref03_Hex.l0,if_neg (by simp;omega)],by rw [List.drop_of_length_le (by omega)];simp [hex8]⟩
 | m+1,i,k,out,hi,hk,ho=>by
  obtain ⟨k,rfl⟩:∃ k',k=k'+1:=⟨k - 1,by omega⟩
  have hil:i < d.length:=by omega
  have hb:=hB d[i] (List.getElem_mem hil)
  have e3:IntKind.i64.wrap ((i:Int)+1)=((i+1:Nat):Int):=by rw [w64 _ (by omega)];omega
  obtain ⟨b,eb⟩:∃ b:Nat,d[i]=(b:Int):=⟨d[i].toNat,by omega⟩
  have es:IntKind.u8.wrap (Int.tdiv (b:Int) 16)=((b / 16:Nat):Int):=by
   rw [show Int.tdiv (b:Int) 16=((b / 16:Nat):Int) from rfl,u8w _ (by omega)]
  have em:Int.tmod (b:Int) 16=((b % 16:Nat):Int):=rfl
  have g1:=digs16 ⟨b / 16,by omega⟩
  have g2:=digs16 ⟨b % 16,by omega⟩
  simp only at g1 g2
  rw [vineryref03_Hex.l0,if_pos (by simp;omega),if_pos (by omega),rd_at _ _ hil,eb,es,em,e3,Int.toNat_natCast,Int.toNat_natCast,if_pos (by simp;omega),if_pos (by omega),if_pos (by simp;omega),g1,g2,if_pos (by simp;omega)]
  obtain ⟨r,h1,h2⟩:=hex_l0 d hd hB m (i+1) k (out++[((dgt (b / 16)).toNat:Int),((dgt (b % 16)).toNat:Int)]) (by omega) (by omega) (by simp;omega)
  refine ⟨r,h1,?_⟩
  rw [h2,List.drop_eq_getElem_cons hil,eb]
  simp [b2s,hex8,List.map_append]
theorem named_ok (k:Nat) (s:List UInt8) (hs:s.length≤100) {kind h l:Int} (hk:hiS kind≠0) (hf:fits kind h l=true) (hK:2000≤k):vineryref03_Named.f k s h l (kind==1)=some (s++[58]++nameR kind h++[58]++Lib.itoa l):=by
 have r:=fits_32 hk hf
 have hn:=name_2000 kind h ⟨r.1,r.2.1⟩
 have hl:=itoa_10 l ⟨r.2.2.1,r.2.2.2⟩
 have nl:=number64 10 (by decide) (by decide) l ⟨r.2.2.1,r.2.2.2⟩ k (by omega)
 have nh:=number64 10 (by decide) (by decide) h ⟨r.1,r.2.1⟩ k (by omega)
 have el:numD 10 l.toNat=Lib.itoa l:=by rw [itoa_nat l r.2.2.1,numD_dec]
 have eh:numD 10 h.toNat=Lib.itoa h:=by rw [itoa_nat h r.1,numD_dec]
 unfold vineryref03_Named.f
 rw [show (10:Int)=((10:Nat):Int) from rfl,nh,Option.bind_some]
 have mid:((if (kind==1)=true then (vineryref01_Bytes.f k h (4:Int)).bind fun t15=>(vineryref02_Of.f k t15).bind fun t17=>(vineryref02_Text.f k t17.1).bind fun t24=>some (t24:List UInt8) else some (numD 10 h.toNat:List UInt8)))=some (nameR kind h):=by
  by_cases h1:kind=1
  ·obtain ⟨k',rfl⟩:∃ k',k=k'+20:=⟨k - 20,by omega⟩
   have b:=refbytes_ok (k'+15) h 4 (by decide) (by decide) r.1
   have o:=rof_ok k' (putL h 4)
   have hlen:=putL_length h 4 (by decide) (by decide)
   rw [show k'+15+5=k'+20 by omega,show ((4:Nat):Int)=4 from rfl] at b
   rw [hlen,show isSz ((4:Nat):Int)=true from rfl,if_pos rfl] at o
   have t:=rtext_any (k'+20) (a4 h) (a4_adr h) (by omega)
   rw [if_pos (by simp [h1]),b,Option.bind_some,o,Option.bind_some]
   have:(⟨((4:Nat):Int),arC 16 zeros (putL h 4)⟩:S_api_Addr)=a4 h:=rfl
   simp only
   rw [this,t,Option.bind_some,textA_a4]
   unfold nameR;rw [if_pos h1]
  ·rw [if_neg (by simpa using h1),eh];unfold nameR;rw [if_neg h1]
 rw [mid,Option.bind_some,if_pos (by simp;omega),if_pos (by simp;omega),if_pos (by simp;omega),nl,Option.bind_some,el,if_pos (by simp;omega)]
theorem rtextd_ok (k:Nat) (d:List Int) (hd:d.length=8) (hB:isB d) (hk:3000≤k):vineryref03_Text.f k d=some (textD d):=by
 unfold vineryref03_Text.f textD
 have p:vineryref03_Parts.f k d=some (partsR d):=by
  have:=rparts_ok (k - 5) d hd hB
  rwa [show k - 5+5=k by omega] at this
 rw [p,Option.bind_some]
 by_cases h:(partsR d).2.2.2=true
 ·obtain ⟨h1,h2,h3⟩:=parts_back hd hB h
  have hs:=hs_of h1
  have nk:=number64 10 (by decide) (by decide) (partsR d).1 ⟨hs.2.2.1,by omega⟩ k (by omega)
  have ek:numD 10 (partsR d).1.toNat=Lib.itoa (partsR d).1:=by rw [itoa_nat _ hs.2.2.1,numD_dec]
  have lk:=itoa_10 (partsR d).1 ⟨hs.2.2.1,by omega⟩
  rw [if_neg (by simp [h]),if_pos h,show (10:Int)=((10:Nat):Int) from rfl,nk,Option.bind_some,ek,named_ok k _ (by omega) h1 h2 (by omega)];rfl
 ·have h':(partsR d).2.2.2=false:=by simpa using h
  rw [if_pos (by simp [h']),if_neg h]
  unfold vineryref03_Hex.f
  obtain ⟨r,h1,h2⟩:=hex_l0 d hd hB 8 0 k [] rfl (by omega) (by simp)
  rw [show ((0:Nat):Int)=0 from rfl] at h1
  have hl:=hex8_len d
  rw [arL8e hd,h1,Option.bind_some,h2,List.drop_zero,Option.bind_some,show b2s []++hex8 d=hex8 d from rfl,if_pos (by simp;omega)];rfl
/-! read -/
theorem rsplit3_go (s:List UInt8) (hs:s.length≤10000000):∀ (n i k:Nat) (out:List (List UInt8)) (cur:List UInt8),i+n=s.length→n < k→out.length≤i→cur.length≤i →
    vineryref03_split.l0 s k (out++[cur]) (i:Int)=some (out++(match spl 58 (s.drop i) with | []=>[] | y::ys=>(cur++y)::ys))
  | 0,i,k,out,cur,hi,hk,ho,hc=>by
    obtain ⟨k,rfl⟩:∃ k',k=k'+1:=⟨k - 1,by omega⟩
    rw [vineryref03_split.l0,if_neg (by rw [bsize];simp;omega),List.drop_of_length_le (by omega)]
    simp [spl]
  | n+1,i,k,out,cur,hi,hk,ho,hc=>by
    obtain ⟨k,rfl⟩:∃ k',k=k'+1:=⟨k - 1,by omega⟩
    have hil:i < s.length:=by omega
    have e3:IntKind.i64.wrap ((i:Int)+1)=((i+1:Nat):Int):=by rw [w64 _ (by omega)];omega
    have el:IntKind.i64.wrap (((out++[cur]).length:Int) - 1)=((out.length:Nat):Int):=by rw [w64 _ (by simp;omega)];simp
    have eg:s.getD i 0=s[i]:=by rw [List.getD_eq_getElem?_getD,List.getElem?_eq_getElem hil];rfl
    have er:rd (out++[cur]) ((out.length:Nat):Int)=cur:=by unfold rd;rw [Int.toNat_natCast,List.getD_eq_getElem?_getD];simp
    have es:(s.take (Int.toNat ((i+1:Nat):Int))).drop i=[s[i]]:=by
      rw [Int.toNat_natCast,List.take_add_one,List.getElem?_eq_getElem hil]
      rw [List.drop_append_of_le_length (by rw [List.length_take];omega),List.drop_of_length_le (by rw [List.length_take];omega)];rfl
    rw [vineryref03_split.l0,if_pos (by rw [bsize];simp;omega),if_pos (by omega),Int.toNat_natCast,eg,List.drop_eq_getElem_cons hil,spl]
    by_cases h:s[i]=58
    · rw [if_pos (by simp [h]),if_pos h,if_pos (by simp;omega),e3,rsplit3_go s hs n (i+1) k (out++[cur]) [] (by omega) (by omega) (by simp;omega) (by simp)]
      obtain ⟨y,ys,e⟩:=spl_pos 58 (s.drop (i+1))
      rw [e];simp
    · have hne:¬ (((s[i].toNat:Int)==(58:Int))=true):=by
        simp only [beq_iff_eq]
        intro e
        exact h (UInt8.toNat_inj.1 (by have : s[i].toNat = 58 := by omega
                                       rw [this]; rfl))
      rw [if_neg hne,if_neg h]
      simp only [el,e3]
      rw [er,es,if_pos (by simp;omega),if_pos (by simp;omega),if_pos (by simp;omega),if_pos (by simp;omega),Int.toNat_natCast,List.set_append_right _ _ (Nat.le_refl _)]
      simp only [Nat.sub_self,List.set_cons_zero]
      rw [rsplit3_go s hs n (i+1) k out (cur++[s[i]]) (by omega) (by omega) (by omega) (by simp;omega)]
      obtain ⟨y,ys,e⟩:=spl_pos 58 (s.drop (i+1))
      rw [e];simp
theorem rsplit3_ok (s:List UInt8) (k:Nat) (hs:s.length≤10000000) (hk:s.length < k):vineryref03_split.f k s=some (spl 58 s):=by
 unfold vineryref03_split.f
 have:=rsplit3_go s hs s.length 0 k [] [] (by omega) hk (by simp) (by simp)
 simp only [List.nil_append,List.drop_zero,show ((0:Nat):Int)=0 from rfl] at this
 rw [this,Option.bind_some]
 obtain ⟨y,ys,e⟩:=spl_pos 58 s
 rw [e]
theorem of8_any (b:List Int) (hb:isB b) (hl:b.length≤1000):∀ (n i k:Nat) (x:List Int),i+n=8→n < k→x.length=8→isB x→∃ r,vineryref03_Of.l0 b k (i:Int) x=some r∧r.length=8∧isB r
 | 0,i,k,x,hi,hk,hx,hB=>by
  obtain ⟨k,rfl⟩:∃ k',k=k'+1:=⟨k - 1,by omega⟩
  exact ⟨x,by rw [vineryref03_Of.l0,decide_eq_false (by omega:¬ (i:Int) < 8),if_neg (by simp)],hx,hB⟩
 | n+1,i,k,x,hi,hk,hx,hB=>by
  obtain ⟨k,rfl⟩:∃ k',k=k'+1:=⟨k - 1,by omega⟩
  have e3:IntKind.i64.wrap ((i:Int)+1)=((i+1:Nat):Int):=by rw [w64 _ (by omega)];omega
  by_cases h:i < b.length
  ·rw [vineryref03_Of.l0,decide_eq_true (by omega:(i:Int) < 8),decide_eq_true (by omega:(i:Int) < (b.length:Int)),if_pos (by simp),if_pos (by omega),if_pos (by omega),e3,arL8e hx,rd_at _ _ h,Int.toNat_natCast]
   exact of8_any b hb hl n (i+1) k _ (by omega) (by omega) (by simpa using hx) fun y hy=>by
    rcases List.mem_or_eq_of_mem_set hy with hy | rfl
    ·exact hB y hy
    ·exact hb _ (List.getElem_mem h)
  ·exact ⟨x,by rw [vineryref03_Of.l0,decide_eq_true (by omega:(i:Int) < 8),decide_eq_false (by omega:¬ (i:Int) < (b.length:Int)),if_neg (by simp)],hx,hB⟩
theorem rofd_any (k:Nat) (b:List Int) (hb:isB b) (hl:b.length≤1000) (hk:20≤k):∃ r,vineryref03_Of.f k b=some r∧r.length=8∧isB r:=by
 unfold vineryref03_Of.f
 obtain ⟨r,hr,h1,h2⟩:=of8_any b hb hl 8 0 k (List.replicate 8 0) rfl (by omega) (by simp) (isB_rep 8)
 rw [show ((0:Nat):Int)=0 from rfl] at hr
 rw [hr];exact ⟨r,rfl,h1,h2⟩
theorem unhex_any (K:Nat) (hK:200≤K) (s:List UInt8) (hs:s.length≤100):∀ (n i k:Nat) (out:List Int),s.length - i≤n→n < k→i≤200→out.length≤i→isB out→∃ r,vineryref03_Unhex.l0 K s k out (i:Int)=some r∧(r=.inl []∨∃ q,r=.inr q∧isB q∧q.length≤400):=by
 intro n
 induction n with
 | zero =>
  intro i k out hn hk hi ho hb
  obtain ⟨k,rfl⟩:∃ k',k=k'+1:=⟨k - 1,by omega⟩
  have e1:IntKind.i64.wrap ((i:Int)+1)=((i+1:Nat):Int):=by rw [w64 _ (by omega)];omega
  exact ⟨.inr out,by rw [vineryref03_Unhex.l0,e1,bsize,if_neg (by simp;omega)],.inr ⟨out,rfl,hb,by omega⟩⟩
 | succ n ih =>
  intro i k out hn hk hi ho hb
  obtain ⟨k,rfl⟩:∃ k',k=k'+1:=⟨k - 1,by omega⟩
  have e1:IntKind.i64.wrap ((i:Int)+1)=((i+1:Nat):Int):=by rw [w64 _ (by omega)];omega
  have e2:IntKind.i64.wrap ((i:Int)+2)=((i+2:Nat):Int):=by rw [w64 _ (by omega)];omega
  by_cases h:i+1 < s.length
  ·obtain ⟨m,hm⟩:=digits_any K ((s.take (Int.toNat ((i+2:Nat):Int))).drop (Int.toNat (i:Int))) 16 2 (by decide) hK
   rw [vineryref03_Unhex.l0,e1,e2,bsize,if_pos (by simp;omega),if_pos (by omega),hm,Option.bind_some]
   by_cases h0:m < 0
   ·rw [if_pos (by simpa using h0)];exact ⟨_,rfl,.inl rfl⟩
   ·rw [if_neg (by simpa using h0),if_pos (by simp;omega)]
    exact ih (i+2) k _ (by omega) (by omega) (by omega) (by simp;omega) fun y hy=>by
     rcases List.mem_append.1 hy with hy | hy
     ·exact hb y hy
     ·rw [List.mem_singleton.1 hy,IntKind.wrap_u8];omega
  ·exact ⟨.inr out,by rw [vineryref03_Unhex.l0,e1,bsize,if_neg (by simp;omega)],.inr ⟨out,rfl,hb,by omega⟩⟩
theorem two_dig (K:Nat) (hK:200≤K) (b:Int) (hb:0≤b∧b≤255):vineryref02_Digits.f K [dgt (b.toNat / 16),dgt (b.toNat % 16)] 16 2=some b:=by
 have d0:=sign_dgt (b.toNat / 16) (by omega)
 have d1:=sign_dgt (b.toNat % 16) (by omega)
 obtain ⟨k,rfl⟩:∃ k,K=k+3:=⟨K - 3,by omega⟩
 have s0:=digits_step [dgt (b.toNat / 16),dgt (b.toNat % 16)] 16 (k+2) 0 0 (by simp) (by simp)
 have g0:([dgt (b.toNat / 16),dgt (b.toNat % 16)]:List UInt8).getD 0 0=dgt (b.toNat / 16):=rfl
 have g1:([dgt (b.toNat / 16),dgt (b.toNat % 16)]:List UInt8).getD 1 0=dgt (b.toNat % 16):=rfl
 rw [g0,d0,if_neg (by omega)] at s0
 have e0:IntKind.i64.wrap (IntKind.i64.wrap (0*16)+((b.toNat / 16:Nat):Int))=((b.toNat / 16:Nat):Int):=by rw [w64 (0*16) (by decide),w64 _ (by omega)];omega
 rw [e0] at s0
 have s1:=digits_step [dgt (b.toNat / 16),dgt (b.toNat % 16)] 16 (k+1) 1 ((b.toNat / 16:Nat):Int) (by simp) (by simp)
 rw [g1,d1,if_neg (by omega)] at s1
 have e1:IntKind.i64.wrap (IntKind.i64.wrap (((b.toNat / 16:Nat):Int)*16)+((b.toNat % 16:Nat):Int))=b:=by rw [w64 (((b.toNat / 16:Nat):Int)*16) (by omega),w64 _ (by omega)];omega
 rw [e1] at s1
 unfold vineryref02_Digits.f
 simp only [show ((0:Nat):Int)=0 from rfl,Nat.zero_add] at s0
 rw [if_neg (by simp [bsize]),show k+3=k+2+1 by omega,s0,s1,vineryref02_Digits.l0,if_neg (by simp [bsize]),Option.bind_some]
theorem unhex_go (K:Nat) (hK:200≤K) (d:List Int) (hd:d.length=8) (hB:isB d):∀ (m i k:Nat),i+m=8→m < k→vineryref03_Unhex.l0 K (hex8 d) k (d.take i) ((2*i:Nat):Int)=some (.inr d)
 | 0,i,k,hi,hk=>by
  obtain ⟨k,rfl⟩:∃ k',k=k'+1:=⟨k - 1,by omega⟩
  have hl:=hex8_len d
  have e1:IntKind.i64.wrap (((2*i:Nat):Int)+1)=((2*i+1:Nat):Int):=by rw [w64 _ (by omega)];omega
  rw [vineryref03_Unhex.l0,e1,bsize,if_neg (by simp;omega),List.take_of_length_le (by omega)]
 | m+1,i,k,hi,hk=>by
  obtain ⟨k,rfl⟩:∃ k',k=k'+1:=⟨k - 1,by omega⟩
  have hil:i < d.length:=by omega
  have hb:=hB d[i] (List.getElem_mem hil)
  have hl:=hex8_len d
  have hdr:∀ (l:List Int) (j:Nat),(hex8 l).drop (2*j)=hex8 (l.drop j):=by
   intro l j
   induction j generalizing l with
   | zero=>rfl
   | succ j ih =>
    cases l with
    | nil=>simp [hex8]
    | cons x l =>
     rw [show 2*(j+1)=2*j+1+1 by omega,hex8,List.drop_succ_cons,List.drop_succ_cons,ih,List.drop_succ_cons]
  have e1:IntKind.i64.wrap (((2*i:Nat):Int)+1)=((2*i+1:Nat):Int):=by rw [w64 _ (by omega)];omega
  have e2:IntKind.i64.wrap (((2*i:Nat):Int)+2)=((2*i+2:Nat):Int):=by rw [w64 _ (by omega)];omega
  have ex:((hex8 d).take (Int.toNat ((2*i+2:Nat):Int))).drop (Int.toNat ((2*i:Nat):Int))=[dgt (d[i].toNat / 16),dgt (d[i].toNat % 16)]:=by
   rw [Int.toNat_natCast,Int.toNat_natCast,List.drop_take,show 2*i+2 - 2*i=2 by omega,hdr,List.drop_eq_getElem_cons hil,hex8];rfl
  rw [vineryref03_Unhex.l0,e1,e2,bsize,if_pos (by simp;omega),if_pos (by omega),ex,two_dig K hK _ hb,Option.bind_some,if_neg (by simp;omega),if_pos (by simp;omega),u8w _ hb]
  have:=unhex_go K hK d hd hB m (i+1) k (by omega) (by omega)
  rw [List.take_add_one,List.getElem?_eq_getElem hil] at this
  exact this
theorem unhex_ok (k:Nat) (d:List Int) (hd:d.length=8) (hB:isB d) (hk:200≤k):vineryref03_Unhex.f k (hex8 d)=some d:=by
 unfold vineryref03_Unhex.f
 have:=unhex_go k hk d hd hB 8 0 k rfl (by omega)
 simp only [List.take_zero,Nat.mul_zero,show ((0:Nat):Int)=0 from rfl] at this
 rw [this];rfl
theorem big_any (l:List Int) (hl:l.length≤100) (k:Nat) (hk:200≤k):∃ n,vineryref01_Big.f k l=some n:=by
 unfold vineryref01_Big.f
 have go:∀ (m i k:Nat) (x:Int),i+m=l.length→m < k→∃ n,vineryref01_Big.l0 l k x (i:Int)=some n:=by
  intro m
  induction m with
  | zero =>
   intro i k x hi hk
   obtain ⟨k,rfl⟩:∃ k',k=k'+1:=⟨k - 1,by omega⟩
   exact ⟨x,by rw [vineryref01_Big.l0,if_neg (by simp;omega)]⟩
  | succ m ih =>
   intro i k x hi hk
   obtain ⟨k,rfl⟩:∃ k',k=k'+1:=⟨k - 1,by omega⟩
   have e3:IntKind.i64.wrap ((i:Int)+1)=((i+1:Nat):Int):=by rw [w64 _ (by omega)];omega
   rw [vineryref01_Big.l0,if_pos (by simp;omega),if_pos (by omega),e3]
   exact ih (i+1) k _ (by omega) (by omega)
 obtain ⟨n,hn⟩:=go l.length 0 k 0 (by omega) (by omega)
 rw [show ((0:Nat):Int)=0 from rfl] at hn
 rw [hn];exact ⟨n,rfl⟩
theorem numbers_any (k:Nat) (x y:List UInt8) (b:Bool) (hk:4000≤k):∃ r,vineryref03_Numbers.f k x y b=some r:=by
 unfold vineryref03_Numbers.f
 obtain ⟨m,hm⟩:=digits_any k y 10 10 (by decide) (by omega)
 rw [hm,Option.bind_some]
 cases b with
 | false =>
  obtain ⟨n,hn⟩:=digits_any k x 10 10 (by decide) (by omega)
  rw [if_pos (by simp),hn];exact ⟨_,rfl⟩
 | true =>
  obtain ⟨a,e,p1,z1,_⟩:=rparse_any k x (by omega)
  rw [if_neg (by simp),p1,Option.bind_some]
  have hb:∃ b,vineryref02_Bytes.f k a=some b∧b.length≤16:=by
   obtain ⟨k',rfl⟩:∃ k',k=k'+20:=⟨k - 20,by omega⟩
   by_cases h:rightB a=true
   ·refine ⟨_,raddrbytes_ok k' a h,?_⟩
    have:=rootL_length a h
    have:=rightB_size h
    omega
   ·have h':rightB a=false:=by simpa using h
    refine ⟨[],?_,by simp⟩
    unfold vineryref02_Bytes.f;rw [rright_ok,h'];rfl
  obtain ⟨q,hq,hl⟩:=hb
  obtain ⟨n,hn⟩:=big_any q (by omega) k (by omega)
  simp only
  rw [hq,Option.bind_some,hn,Option.bind_some]
  refine ite_ind (P:=fun w:Option (Bool×Int)=>∃ r,(w.bind fun s19=>some ((s19.2:Int),(m:Int),(s19.1:Bool)))=some r) (ite_ind (P:=fun w:Option (Bool×Int)=>∃ r,(w.bind fun s19=>some ((s19.2:Int),(m:Int),(s19.1:Bool)))=some r) ⟨_,rfl⟩ ⟨_,rfl⟩) ⟨_,rfl⟩
theorem dig_itoa (k:Nat) (n:Int) (h:0≤n∧n < 4294967296) (most:Int) (hm:((Lib.itoa n).length:Int)≤most) (hk:200≤k):vineryref02_Digits.f k (Lib.itoa n) 10 most=some n:=by
 have e:Lib.itoa n=numD 10 n.toNat:=by rw [itoa_nat n h.1,numD_dec]
 have hl:=dec10 n.toNat (by omega)
 rw [e] at hm ⊢
 have:=digits_ok k 10 (by decide) (by decide) n.toNat most hm (by omega) (by omega) (by omega)
 rwa [show ((n.toNat:Nat):Int)=n by omega] at this
theorem numbers_ok3 (k:Nat) {kind h l:Int} (hk:hiS kind≠0) (hf:fits kind h l=true) (hK:4000≤k):vineryref03_Numbers.f k (nameR kind h) (Lib.itoa l) (kind==1)=some (h,l,true):=by
 have r:=fits_32 hk hf
 have hl:=itoa_10 l ⟨r.2.2.1,r.2.2.2⟩
 have hh:=itoa_10 h ⟨r.1,r.2.1⟩
 unfold vineryref03_Numbers.f
 rw [dig_itoa k l ⟨r.2.2.1,r.2.2.2⟩ 10 (by omega) (by omega),Option.bind_some]
 by_cases h1:kind=1
 ·have e:nameR kind h=textA (a4 h):=by rw [textA_a4];unfold nameR;rw [if_pos h1]
  have p:=rparse_text k (a4 h) (a4_adr h) (a4_right h) (by omega)
  have nb:vineryref01_Big.f k (putL h 4)=some h:=by
   have hlen:=putL_length h 4 (by decide) (by decide)
   have:=big_ok (k - 5) (putL h 4) (pb_putL h 4) (by omega)
   rw [show k - 5+5=k by omega,num_put h 4 (by decide) (by decide) r.1 (by have:=r.2.1;simpa using this)] at this
   exact this
  have bb:vineryref02_Bytes.f k (a4 h)=some (putL h 4):=by
   have:=raddrbytes_ok (k - 20) (a4 h) (a4_right h)
   rwa [show k - 20+20=k by omega,root_a4] at this
  rw [if_neg (by simp [h1]),e,p,Option.bind_some]
  simp only
  rw [bb,Option.bind_some,nb,Option.bind_some,if_pos (by decide),if_pos (show ((a4 h).Size==4)=true from rfl),Option.bind_some]
  have:decide (l ≥ 0)=true:=by simp;omega
  simp only [this]
 ·have e:nameR kind h=Lib.itoa h:=by unfold nameR;rw [if_neg h1]
  have c0:decide (h ≥ 0)=true:=by simp;omega
  have c1:decide (l ≥ 0)=true:=by simp;omega
  rw [if_pos (by simpa using h1),e,dig_itoa k h ⟨r.1,r.2.1⟩ 10 (by omega) (by omega),Option.bind_some,c0,c1];rfl
theorem makeR_ok (a b c:Int):(makeR a b c).1.length=8∧isB (makeR a b c).1:=by
 unfold makeR
 by_cases h1:hiS a=0
 ·rw [if_pos h1];exact ⟨rfl,isB_rep 8⟩
 ·rw [if_neg h1]
  by_cases h2:fits a b c=true
  ·rw [if_pos h2]
   refine ⟨rdL_length _ _ _ h1,fun y hy=>?_⟩
   simp only [rdL,List.mem_append] at hy
   rcases hy with (h | h) | h<;>exact pb_putL _ _ y h
  ·rw [if_neg h2];exact ⟨rfl,isB_rep 8⟩
theorem rmk (k:Nat) (a b c:Int) (hk:20≤k):vineryref03_Make.f k a b c=some (makeR a b c):=by
 have:=rmake_ok (k - 20) a b c
 rwa [show k - 20+20=k by omega] at this
theorem textD_40 (d:List Int) (hd:d.length=8) (hB:isB d):(textD d).length≤40:=by
 unfold textD
 by_cases h:(partsR d).2.2.2=true
 ·rw [if_pos h]
  obtain ⟨h1,h2,h3⟩:=parts_back hd hB h
  have r:=fits_32 h1 h2
  have hs:=hs_of h1
  have a:=itoa_10 (partsR d).1 ⟨hs.2.2.1,by omega⟩
  have a1:(Lib.itoa (partsR d).1).length≤1:=by
   rw [itoa_nat _ hs.2.2.1,numD_dec,numD_small]
   ·simp
   ·rcases hiS_or (partsR d).1 with ⟨e,_⟩ | ⟨e,_⟩ | ⟨_,_,_,e⟩
    ·omega
    ·omega
    ·exact absurd e h1
  have b:(nameR (partsR d).1 (partsR d).2.1).length≤15:=by
   unfold nameR
   split
   ·have d0:=dec3 _ (ar_isB (a4_isB (partsR d).2.1) 0);have d1:=dec3 _ (ar_isB (a4_isB (partsR d).2.1) 1);have d2:=dec3 _ (ar_isB (a4_isB (partsR d).2.1) 2);have d3:=dec3 _ (ar_isB (a4_isB (partsR d).2.1) 3)
    rw [txt4_numD _ (a4_isB _)];simp;omega
   ·have:=itoa_10 (partsR d).2.1 ⟨r.1,r.2.1⟩;omega
  have c:=itoa_10 (partsR d).2.2.1 ⟨r.2.2.1,r.2.2.2⟩
  unfold textR;simp;omega
 ·rw [if_neg h];simp [hex8_len];omega
theorem rrdparse_text (k:Nat) (d:List Int) (hd:d.length=8) (hB:isB d) (hk:5000≤k):vineryref03_Parse.f k (textD d)=some (d,0):=by
 have ht:=rtextd_ok k d hd hB (by omega)
 have hl:=textD_40 d hd hB
 unfold vineryref03_Parse.f
 rw [bsize,if_neg (by simp;omega),rsplit3_ok _ k (by omega) (by omega),Option.bind_some]
 by_cases h:(partsR d).2.2.2=true
 ·obtain ⟨h1,h2,h3⟩:=parts_back hd hB h
  have r:=fits_32 h1 h2
  have hs:=hs_of h1
  have e:textD d=textR (partsR d).1 (partsR d).2.1 (partsR d).2.2.1:=by unfold textD;rw [if_pos h]
  have a1:(Lib.itoa (partsR d).1).length≤1:=by
   rw [itoa_nat _ hs.2.2.1,numD_dec,numD_small]
   ·simp
   ·rcases hiS_or (partsR d).1 with ⟨e,_⟩ | ⟨e,_⟩ | ⟨_,_,_,e⟩
    ·omega
    ·omega
    ·exact absurd e h1
  have mk:vineryref03_Make.f k (partsR d).1 (partsR d).2.1 (partsR d).2.2.1=some (d,0):=by
   rw [rmk k _ _ _ (by omega)]
   unfold makeR;rw [if_neg h1,if_pos h2,h3]
  rw [e] at ht ⊢
  rw [spl_textR _ _ _ hs.2.2.1 r.1 r.2.2.1,if_neg (by simp),Option.bind_some]
  have r0:rd [Lib.itoa (partsR d).1,nameR (partsR d).1 (partsR d).2.1,Lib.itoa (partsR d).2.2.1] 0=Lib.itoa (partsR d).1:=rfl
  have r1:rd [Lib.itoa (partsR d).1,nameR (partsR d).1 (partsR d).2.1,Lib.itoa (partsR d).2.2.1] 1=nameR (partsR d).1 (partsR d).2.1:=rfl
  have r2:rd [Lib.itoa (partsR d).1,nameR (partsR d).1 (partsR d).2.1,Lib.itoa (partsR d).2.2.1] 2=Lib.itoa (partsR d).2.2.1:=rfl
  unfold lv
  rw [if_pos (by simp),if_pos (by simp),r0,dig_itoa k _ ⟨hs.2.2.1,by omega⟩ 1 (by omega) (by omega),Option.bind_some,if_pos (by simp),if_pos (by simp),r1,r2,numbers_ok3 k h1 h2 (by omega),Option.bind_some]
  simp only
  rw [mk,Option.bind_some,if_neg (by simp),Option.bind_some]
  simp only
  rw [ht,Option.bind_some,if_neg (by simp)]
 ·have e:textD d=63::58::hex8 d:=by unfold textD;rw [if_neg h]
  have es:spl 58 (63::58::hex8 d)=[[63],hex8 d]:=by
   have:=spl_app (c:=58) (a:=[63]) (hex8 d) (by decide)
   rw [spl_free (hex8_free d hB)] at this
   exact this
  have of8:vineryref03_Of.f k d=some d:=by
   have:=rofd_ok (k - 20) d hd
   rwa [show k - 20+20=k by omega] at this
  rw [e] at ht ⊢
  have r1:rd [[63],hex8 d] 1=hex8 d:=rfl
  unfold lv
  rw [es,if_pos (by simp),if_pos (by simp),r1,unhex_ok k d hd hB (by omega),Option.bind_some,of8,Option.bind_some,Option.bind_some,if_neg (by simp),Option.bind_some]
  simp only
  rw [ht,Option.bind_some,if_neg (by simp)]
theorem rrdparse_any (k:Nat) (s:List UInt8) (hk:5000≤k):∃ d e,vineryref03_Parse.f k s=some (d,e)∧d.length=8∧isB d∧(e=0∧textD d=s∨e=4∧d=z8):=by
 have hz:(z8.length=8∧isB z8):=⟨rfl,isB_rep 8⟩
 unfold vineryref03_Parse.f
 rw [bsize]
 by_cases hl:s.length≤40
 ·rw [if_neg (by simp;omega),rsplit3_ok _ k (by omega) (by omega),Option.bind_some]
  have fin:∀ d:List Int,d.length=8→isB d→∃ d' e,((vineryref03_Text.f k d).bind fun t26=>(if (!((bstr t26).toList==(bstr s).toList))=true then some ((([(0:Int),(0:Int),(0:Int),(0:Int),(0:Int),(0:Int),(0:Int),(0:Int)]:List Int):List Int),((4:Int):Int)) else some ((d:List Int),((0:Int):Int))))=some (d',e)∧d'.length=8∧isB d'∧(e=0∧textD d'=s∨e=4∧d'=z8):=by
   intro d ld bd
   rw [rtextd_ok k d ld bd (by omega),Option.bind_some,bstr_toList,bstr_toList]
   by_cases e:textD d=s
   ·rw [if_neg (by simpa using e)];exact ⟨_,_,rfl,ld,bd,.inl ⟨rfl,e⟩⟩
   ·rw [if_pos (by simpa using e)];exact ⟨_,_,rfl,hz.1,hz.2,.inr ⟨rfl,rfl⟩⟩
  have q1:∃ d,((if (((spl 58 s).length:Int)==(2:Int))=true then (if 0≤(1:Int)∧(1:Int) < ((spl 58 s).length:Int) then (vineryref03_Unhex.f k (rd (spl 58 s) (1:Int))).bind fun t88=>(vineryref03_Of.f k t88).bind fun t90=>some (t90:List Int) else none) else some ((List.replicate 8 (0:Int)):List Int)))=some d∧d.length=8∧isB d:=by
   by_cases h2:(spl 58 s).length=2
   ·rw [if_pos (by simp [h2]),if_pos (by omega)]
    have hm:=spl_mem_len 58 s _ (rd_mem (spl 58 s) 1 (by omega))
    rw [show ((1:Nat):Int)=1 from rfl] at hm
    unfold vineryref03_Unhex.f
    obtain ⟨r,hr,c⟩:=unhex_any k (by omega) (rd (spl 58 s) 1) (by omega) (rd (spl 58 s) 1).length 0 k [] (by omega) (by omega) (by omega) (by simp) (fun _ h=>nomatch h)
    rw [show ((0:Nat):Int)=0 from rfl] at hr
    rw [hr,Option.bind_some]
    rcases c with rfl | ⟨q,rfl,bq,lq⟩
    ·obtain ⟨d,e,ld,bd⟩:=rofd_any k [] (fun _ h=>nomatch h) (by simp) (by omega)
     simp only
     rw [Option.bind_some,e];exact ⟨d,rfl,ld,bd⟩
    ·obtain ⟨d,e,ld,bd⟩:=rofd_any k q bq (by omega) (by omega)
     simp only
     rw [Option.bind_some,e];exact ⟨d,rfl,ld,bd⟩
   ·rw [if_neg (by simp;omega)];exact ⟨_,rfl,by simp,isB_rep 8⟩
  obtain ⟨d,e1,ld,bd⟩:=q1
  rw [e1,Option.bind_some]
  unfold lv
  by_cases h3:(spl 58 s).length=3
  ·obtain ⟨m,hm⟩:=digits_any k (rd (spl 58 s) 0) 10 1 (by decide) (by omega)
   obtain ⟨r,hr⟩:=numbers_any k (rd (spl 58 s) 1) (rd (spl 58 s) 2) (m==1) (by omega)
   have mo:=makeR_ok m r.1 r.2.1
   rw [if_pos (by simp [h3]),if_pos (by omega),hm,Option.bind_some,if_pos (by omega),if_pos (by omega),hr,Option.bind_some,rmk k _ _ _ (by omega),Option.bind_some]
   by_cases g:r.2.2=true∧(makeR m r.1 r.2.1).2=0
   ·rw [g.1,g.2,if_neg (by simp),Option.bind_some]
    exact fin _ mo.1 mo.2
   ·rw [if_pos,Option.bind_some]
    ·exact ⟨_,_,rfl,hz.1,hz.2,.inr ⟨rfl,rfl⟩⟩
    ·by_cases g1:r.2.2=true
     ·have:¬ (makeR m r.1 r.2.1).2=0:=fun e=>g ⟨g1,e⟩
      simp [g1,this]
     ·simp [g1]
  ·rw [if_neg (by simp;omega),Option.bind_some]
   exact fin d ld bd
 ·rw [if_pos (by simp;omega)];exact ⟨_,_,rfl,hz.1,hz.2,.inr ⟨rfl,rfl⟩⟩
theorem comm_ofRx (k:Nat) (a b c d e f g h:Int):vineryref04_of.f (k+20) [a,b,c,d,e,f,g,h]=some [a,b,c,d,e,f,g,h]:=by kernel_rfl
theorem comm_ofR (k:Nat) (b:List Int) (hb:b.length=8):vineryref04_of.f (k+20) b=some b:=by
 match b,hb with
 | [a,b,c,d,e,f,g,h],_=>exact comm_ofRx k a b c d e f g h
theorem rtarg_ok (k:Nat) (kind h l:Int):vineryref04_Target.f (k+20) kind h l=some (targR kind h l):=by
 unfold vineryref04_Target.f targR
 rw [rmake_ok k,Option.bind_some]
 have hl:=makeR_len kind h l
 generalize makeR kind h l=m at hl ⊢
 by_cases h0:m.2=0
 ·rw [if_neg (by simp [h0]),if_pos (by decide),arL8 hl,if_pos (by simp;omega),comm_ofR _ _ (by simp;omega),Option.bind_some,if_pos h0]
  rw [show Int.toNat (8:Int)=8 from rfl,← hl,List.take_length];rfl
 ·rw [if_pos (by simp [h0]),if_neg h0];rfl
theorem rootL4 (a:S_api_Addr) (hs:a.Size=4):rootL a=((arL 16 a.B).take (Int.toNat (4:Int))).drop (Int.toNat (0:Int)):=by
 unfold rootL
 rw [hs];rfl
theorem rimp_ok (k:Nat) (a:S_api_Addr) (n:Int):vineryref04_Import.f (k+20) a n=some (impR a n):=by
 unfold vineryref04_Import.f impR
 rw [rright_ok,Option.bind_some,no4,Option.bind_some]
 by_cases hr:rightB a=true∧a.Size=4
 ·have hl:=rootL_length a hr.1
  have e:(!(rightB a && a.Size==4))=false:=by simp [hr.1,hr.2]
  rw [e,if_neg (by decide),if_pos hr,← rootL4 a hr.2]
  by_cases hn:0≤n∧n < 65536
  ·rw [if_neg (by simp;omega),if_pos (by decide),if_pos (by simp;omega),show (2:Int)=((2:Nat):Int) from rfl,refbytes_ok (k+15) n 2 (by omega) (by omega) hn.1,Option.bind_some,if_pos (by simp [putL];omega),comm_ofR _ _ (by simp [putL];omega),Option.bind_some,if_pos hn]
   rfl
  ·rw [if_pos (by simp;omega),if_neg hn];rfl
 ·have e:(!(rightB a && a.Size==4))=true:=by
   rw [Bool.not_eq_true',Bool.and_eq_false_iff]
   by_cases h1:rightB a=true
   ·exact .inr (by simpa using fun h=>hr ⟨h1,h⟩)
   ·exact .inl (by simpa using h1)
  rw [e,if_pos rfl,if_neg hr];rfl
theorem rsrc_ok (k:Nat) (n:Int):vineryref04_Source.f (k+20) n=some (srcR n):=by
 unfold vineryref04_Source.f srcR
 by_cases hn:0≤n∧n < 4294967296
 ·rw [if_neg (by simp;omega),show (4:Int)=((4:Nat):Int) from rfl,refbytes_ok (k+15) n 4 (by omega) (by omega) hn.1,Option.bind_some,if_pos (by simp [putL]),if_pos (by simp [putL]),comm_ofR _ _ (by simp [putL]),Option.bind_some,if_pos hn]
  rfl
 ·rw [if_pos (by simp;omega),if_neg hn];rfl
theorem rkind_ok (e:List Int) (hB:isB e):vineryref04_Kind.f e=some (kindR e):=by
 unfold vineryref04_Kind.f kindR
 have h1:=and3 (ar e 1=2) (ar e 0≤2) (ar e 1==2) (decide (ar e 0≤2)) (by simp) (by simp)
 have h2:=and3 (ar e 0=1) (ar e 1=11) (ar e 0==1) (ar e 1==11) (by simp) (by simp)
 have ho:=or_0 _ _ (ar_isB hB 6) (ar_isB hB 7)
 have h3:(if ((ar e 0)==(2:Int))=true then (if ((ar e 1)==(9:Int))=true then (if ((ar e 6)==(0:Int))=true then some ((ar e 7)==(0:Int):Bool) else some (false:Bool)) else some (false:Bool)) else some (false:Bool))=some (decide (ar e 1=9∧ar e 0=2∧(IntKind.u8.wrap (BitVec.ofInt IntKind.u8.bits (ar e 6) ||| BitVec.ofInt IntKind.u8.bits (ar e 7)).toNat)=0)):=by
  generalize (IntKind.u8.wrap (BitVec.ofInt IntKind.u8.bits (ar e 6) ||| BitVec.ofInt IntKind.u8.bits (ar e 7)).toNat:Int)=q at ho ⊢
  by_cases p1:ar e 1=9<;>by_cases p2:ar e 0=2<;>by_cases p3:ar e 6=0<;>by_cases p4:ar e 7=0<;>simp_all
 rw [h1,Option.bind_some]
 by_cases c1:ar e 1=2∧ar e 0≤2
 ·rw [if_pos (decide_eq_true c1),if_pos c1]
 ·rw [if_neg (by simpa using c1),if_neg c1,h2,Option.bind_some]
  by_cases c2:ar e 1=11∧ar e 0=1
  ·rw [if_pos (decide_eq_true ⟨c2.2,c2.1⟩),if_pos c2]
  ·rw [if_neg (by rw [decide_eq_true_eq];exact fun h=>c2 ⟨h.2,h.1⟩),if_neg c2,h3,Option.bind_some]
   split
   ·rename_i c3;rw [if_pos (of_decide_eq_true c3)]
   ·rename_i c3;rw [if_neg (by simpa using c3)]
theorem sub62 (e:List Int) (h:e.length=8):((arL 8 e).take (Int.toNat (6:Int))).drop (Int.toNat (2:Int))=(e.take 6).drop 2:=by rw [arL8 h];rfl
theorem sub86 (e:List Int) (h:e.length=8):((arL 8 e).take (Int.toNat (8:Int))).drop (Int.toNat (6:Int))=e.drop 6:=by rw [arL8 h,show Int.toNat (8:Int)=8 from rfl,← h,List.take_length];rfl
theorem rimporter_ok (k:Nat) (e:List Int) (hv:vE e):vineryref04_Importer.f (k+20) e=some (importR e):=by
 unfold vineryref04_Importer.f importR
 rw [rkind_ok e hv.2,Option.bind_some]
 by_cases hk:kindR e=2
 ·have l4:((e.take 6).drop 2).length=4:=by have:=hv.1;simp;omega
  have l2:(e.drop 6).length=2:=by have:=hv.1;simp;omega
  rw [if_neg (by simp [hk]),if_pos hk,if_pos (by decide),sub62 e hv.1,sub86 e hv.1,rof_ok,l4,if_pos (by decide),Option.bind_some,if_pos (by decide),big_ok (k+15) (e.drop 6) (fun y hy=>hv.2 y (List.mem_of_mem_drop hy)) (by omega),Option.bind_some]
  rfl
 ·rw [if_pos (by simpa using hk),if_neg hk]
theorem ras_ok (k:Nat) (e:List Int) (hv:vE e):vineryref04_AS.f (k+20) e=some (asR e):=by
 unfold vineryref04_AS.f asR
 rw [rkind_ok e hv.2,Option.bind_some]
 by_cases hk:kindR e=3
 ·have l4:((e.take 6).drop 2).length=4:=by have:=hv.1;simp;omega
  rw [if_neg (by simp [hk]),if_pos hk,if_pos (by decide),sub62 e hv.1,big_ok (k+15) _ (fun y hy=>hv.2 y (List.mem_of_mem_take (List.mem_of_mem_drop hy))) (by omega),Option.bind_some]
 ·rw [if_pos (by simpa using hk),if_neg hk]
theorem num_itoa (k:Nat) (n:Int) (h:0≤n∧n < 4294967296) (hk:40≤k):vineryref02_Number.f k n 10=some (Lib.itoa n):=by
 have:=number64 10 (by decide) (by decide) n h k hk
 rw [itoa_nat n h.1,numD_dec];exact this
theorem rtextC_ok (k:Nat) (e:List Int) (hv:vE e) (hk:3000≤k):vineryref04_Text.f k e=some (textC e):=by
 obtain ⟨k',rfl⟩:∃ k',k=k'+20:=⟨k - 20,by omega⟩
 unfold vineryref04_Text.f textC
 rw [rkind_ok e hv.2,Option.bind_some]
 by_cases k1:kindR e=1
 ·have hd:=rdC_ok e hv.1 hv.2
  rw [if_pos (by simp [k1]),if_pos (by decide),if_pos k1]
  have er:([(0:Int),ar e 0]:List Int)++(((arL 8 e).take (Int.toNat (8:Int))).drop (Int.toNat (2:Int)))=rdC e:=by
   obtain ⟨a,b,c,d,p,q,r,s,rfl⟩:=list8 e hv.1
   rfl
  rw [if_pos (by have:=hv.1;simp [arL_length]),er,rofd_ok k' _ hd.1,Option.bind_some,Option.bind_some,rtextd_ok _ _ hd.1 hd.2 (by omega),Option.bind_some,if_pos]
  have:=textD_len _ hd.1 hd.2
  simp only [List.length_append,List.length_cons,List.length_nil];omega
 ·rw [if_neg (by simpa using k1),if_neg k1]
  by_cases k2:kindR e=2
  ·have ha:=impA_ok e hv.1 hv.2
   have hn:=num2_range e hv.1 hv.2
   have hl:=textA_len _ ha.1
   have hi:=itoa_10 _ ⟨hn.1,show numL (e.drop 6) 0 < 4294967296 by omega⟩
   have hI:importR e=(impA e,numL (e.drop 6) 0,true):=by unfold importR;rw [if_pos k2]
   rw [if_pos (by simp [k2]),if_pos k2,rimporter_ok k' e hv,Option.bind_some,hI,rtext_any _ _ ha.1 (by omega),Option.bind_some,if_pos (by simp;omega),if_pos (by simp;omega),num_itoa _ _ ⟨hn.1,by omega⟩ (by omega),Option.bind_some,if_pos (by simp;omega)]
  ·rw [if_neg (by simpa using k2),if_neg k2]
   by_cases k3:kindR e=3
   ·have hn:=num4_range e hv.1 hv.2
    have hi:=itoa_10 _ ⟨hn.1,hn.2.1⟩
    have hA:asR e=(numL ((e.take 6).drop 2) 0,true):=by unfold asR;rw [if_pos k3]
    rw [if_pos (by simp [k3]),if_pos k3,ras_ok k' e hv,Option.bind_some,hA,num_itoa _ _ ⟨hn.1,hn.2.1⟩ (by omega),Option.bind_some,if_pos (by simp;omega)]
   ·rw [if_neg (by simpa using k3),if_neg k3]
    obtain ⟨r,h1,h2⟩:=hex_l0 e hv.1 hv.2 8 0 (k'+20) [] rfl (by omega) (by simp)
    rw [show ((0:Nat):Int)=0 from rfl] at h1
    have hx:=hex8_len e
    have le:=hv.1
    have hh:vineryref03_Hex.f (k'+20) (arL 8 e)=some (hex8 e):=by
     unfold vineryref03_Hex.f
     rw [arL8 hv.1,h1,Option.bind_some,h2,List.drop_zero];rfl
    rw [hh,Option.bind_some,if_pos (by simp;omega)]
def begR (s w:List UInt8):List UInt8×Bool:=if w.length≤s.length∧s.take w.length=w then (s.drop w.length,true) else ([],false)
theorem beg_ok (s w:List UInt8):vineryref04_begins.f s w=some (begR s w):=by
 unfold vineryref04_begins.f begR
 rw [bsize,bsize]
 by_cases hl:w.length≤s.length
 ·rw [if_neg (by simp;omega),if_pos (by omega),bstr_toList,bstr_toList,Int.toNat_natCast]
  simp only [Option.bind_some,show Int.toNat (0:Int)=0 from rfl,List.drop_zero]
  by_cases hw:s.take w.length=w
  ·rw [if_neg (by simp [hw]),if_pos (by omega),if_pos ⟨hl,hw⟩,Int.toNat_natCast,List.take_length]
  ·rw [if_pos (by simpa using hw),if_neg (fun h=>hw h.2)]
 ·rw [if_pos (by simp;omega),Option.bind_some,if_pos rfl,if_neg (fun h=>hl h.1)]
theorem beg_yes (w r:List UInt8):begR (w++r) w=(r,true):=by
 unfold begR
 rw [if_pos ⟨by simp,by simp⟩];simp
theorem beg_len (s w:List UInt8):(begR s w).1.length≤s.length:=by
 unfold begR
 split
 ·simp
 ·simp
def wRt:List UInt8:=[114,116,58]
def wImp:List UInt8:=[105,109,112,111,114,116,58]
def wSrc:List UInt8:=[115,111,117,114,99,101,58]
def wOth:List UInt8:=[111,116,104,101,114,58]
theorem formC (e:List Int):(kindR e=1∧textC e=wRt++textD (rdC e))∨(kindR e=2∧textC e=wImp++(textA (impA e)++58::Lib.itoa (numL (e.drop 6) 0)))∨(kindR e=3∧textC e=wSrc++Lib.itoa (numL ((e.take 6).drop 2) 0))∨((kindR e≠1∧kindR e≠2∧kindR e≠3)∧textC e=wOth++hex8 e):=by
 unfold textC
 by_cases k1:kindR e=1
 ·exact .inl ⟨k1,by rw [if_pos k1];rfl⟩
 ·rw [if_neg k1]
  by_cases k2:kindR e=2
  ·exact .inr (.inl ⟨k2,by rw [if_pos k2,List.append_assoc,List.append_assoc];rfl⟩)
  ·rw [if_neg k2]
   by_cases k3:kindR e=3
   ·exact .inr (.inr (.inl ⟨k3,by rw [if_pos k3];rfl⟩))
   ·exact .inr (.inr (.inr ⟨⟨k1,k2,k3⟩,by rw [if_neg k3];rfl⟩))
theorem of4_any (b:List Int) (hb:isB b) (hl:b.length≤1000):∀ (n i k:Nat) (x:List Int),i+n=8→n < k→x.length=8→isB x→∃ r,vineryref04_of.l0 b k (i:Int) x=some r∧vE r
 | 0,i,k+1,x,hi,_,hx,hB=>⟨x,by rw [vineryref04_of.l0,if_neg];rw [if_neg (by simp;omega)];decide,hx,hB⟩
 | n+1,i,k+1,x,hi,hk,hx,hB=>by
  rw [vineryref04_of.l0]
  have h8:decide ((i:Int) < 8)=true:=by simp;omega
  rw [h8,if_pos rfl]
  by_cases hil:i < b.length
  ·have e:IntKind.i64.wrap ((i:Int)+1)=((i+1:Nat):Int):=by rw [IntKind.wrap_i64];omega
   rw [if_pos (by simp;omega),if_pos (by omega),if_pos (by omega),e,arL8 hx,Int.toNat_natCast,rdx b i hil]
   refine of4_any b hb hl n (i+1) k _ (by omega) (by omega) (by simpa using hx) fun y hy=>?_
   rcases List.mem_or_eq_of_mem_set hy with hy | rfl
   ·exact hB y hy
   ·exact hb _ (List.getElem_mem hil)
  ·rw [if_neg (by simp;omega)]
   exact ⟨x,rfl,hx,hB⟩
theorem of4f_any (k:Nat) (b:List Int) (hb:isB b) (hl:b.length≤1000) (hk:20≤k):∃ r,vineryref04_of.f k b=some r∧vE r:=by
 obtain ⟨r,h1,h2⟩:=of4_any b hb hl 8 0 k (List.replicate 8 0) rfl (by omega) rfl (isB_rep 8)
 unfold vineryref04_of.f
 rw [show ((0:Nat):Int)=0 from rfl] at h1
 rw [h1];exact ⟨r,rfl,h2⟩
theorem unhexf_any (k:Nat) (s:List UInt8) (hs:s.length≤100) (hk:200≤k):∃ d,vineryref03_Unhex.f k s=some d∧isB d∧d.length≤1000:=by
 obtain ⟨r,h1,h2⟩:=unhex_any k hk s hs s.length 0 k [] (by omega) (by omega) (by omega) (by simp) (fun _ h=>nomatch h)
 unfold vineryref03_Unhex.f
 rw [show ((0:Nat):Int)=0 from rfl] at h1
 rw [h1]
 rcases h2 with rfl | ⟨q,rfl,hq,hl⟩
 ·exact ⟨[],rfl,(fun _ h=>nomatch h),by simp⟩
 ·exact ⟨q,rfl,hq,by omega⟩
theorem dec5 (u:Nat) (h:u < 100000):(numD 10 u).length≤5:=by
 have step:∀ v,(numD 10 v).length≤(numD 10 (v / 10)).length+1:=fun v=>by
  by_cases hv:v < 10
  ·rw [numD_small hv];simp
  ·rw [numD_big (base:=10) (u:=v) (by omega) (by decide)];simp
 have a0:=step u;have a1:=step (u / 10);have a2:=step (u / 10 / 10);have a3:=step (u / 10 / 10 / 10)
 have a9:(numD 10 (u / 10 / 10 / 10 / 10)).length≤1:=by rw [numD_small (by omega)];simp
 omega
theorem colon_l0 (q:List UInt8×Bool) (hl:q.1.length≤1000):∀ (a:List UInt8) (i k:Nat) (b:List UInt8),q.1.drop i=a++b→(58:UInt8)∉a→(b=[]∨∃ c,b=58::c)→a.length < k→i≤q.1.length→vineryref04_parse.l0 q k (i:Int)=some ((i+a.length:Nat):Int)
 | [],i,k+1,b,hd,_,hb,_,hi=>by
  rw [vineryref04_parse.l0,bsize]
  rcases hb with rfl | ⟨c,rfl⟩
  ·have:q.1.length≤i:=by
    have:=congrArg List.length hd
    simp at this;omega
   rw [if_neg (by simp;omega),Option.bind_some,if_neg (by decide)];simp
  ·have hlt:i < q.1.length:=by
    have:=congrArg List.length hd
    simp at this;omega
   have hg:q.1.getD i 0=58:=by
    have:=congrArg (fun l:List UInt8=>l[0]?) hd
    simp only [List.getElem?_drop,Nat.add_zero,List.nil_append,List.getElem?_cons_zero] at this
    rw [List.getD_eq_getElem?_getD,this];rfl
   rw [if_pos (by simp;omega),if_pos (by omega),Int.toNat_natCast,hg,Option.bind_some,if_neg (by decide)];simp
 | x::a,i,k+1,b,hd,hx,hb,hk,hi=>by
  have hlt:i < q.1.length:=by
   have:=congrArg List.length hd
   simp at this;omega
  have hg:q.1.getD i 0=x:=by
   have:=congrArg (fun l:List UInt8=>l[0]?) hd
   simp only [List.getElem?_drop,Nat.add_zero,List.cons_append,List.getElem?_cons_zero] at this
   rw [List.getD_eq_getElem?_getD,this];rfl
  have hne:(((x.toNat:Int)) != (58:Int))=true:=by
   simp only [bne_iff_ne,ne_eq]
   intro h
   refine hx (List.mem_cons.2 (.inl ?_))
   apply UInt8.toNat.inj
   show 58=x.toNat
   omega
  have e:IntKind.i64.wrap ((i:Int)+1)=((i+1:Nat):Int):=by rw [IntKind.wrap_i64];omega
  have hd':q.1.drop (i+1)=a++b:=by
   have:=congrArg (List.drop 1) hd
   rwa [List.drop_drop] at this
  rw [vineryref04_parse.l0,bsize,if_pos (by simp;omega),if_pos (by omega),Int.toNat_natCast,hg,hne,Option.bind_some,if_pos rfl,e,colon_l0 q hl a (i+1) k b hd' (fun h=>hx (List.mem_cons_of_mem _ h)) hb (by simp at hk;omega) (by omega)]
  congr 2
  simp;omega
theorem rparse_any' (k:Nat) (s:List UInt8) (hs:s.length≤60) (hk:6000≤k):∃ t,vE t∧vineryref04_parse.f k s=some t∧∀ e,vE e→textC e=s→t=e:=by
 unfold vineryref04_parse.f
 rw [show ([105,109,112,111,114,116,58]:List UInt8)=wImp from rfl,show ([115,111,117,114,99,101,58]:List UInt8)=wSrc from rfl,show ([111,116,104,101,114,58]:List UInt8)=wOth from rfl,show ([114,116,58]:List UInt8)=wRt from rfl,beg_ok,Option.bind_some]
 have l1:=beg_len s wRt;have l2:=beg_len s wImp;have l3:=beg_len s wSrc;have l4:=beg_len s wOth
 by_cases b1:(begR s wRt).2=true
 ·rw [if_pos b1]
  obtain ⟨d,err,q1,ld,bd,_⟩:=rrdparse_any k (begR s wRt).1 (by omega)
  rw [q1,Option.bind_some]
  have q2:=rparts_ok (k - 5) d ld bd
  have q3:=rtarg_ok (k - 20) (partsR d).1 (partsR d).2.1 (partsR d).2.2.1
  rw [show k - 5+5=k by omega] at q2
  rw [show k - 20+20=k by omega] at q3
  simp only [q2,Option.bind_some,q3]
  refine ⟨_,targ_v _ _ _,rfl,fun e hv he=>?_⟩
  subst he
  rcases formC e with ⟨k1,hf⟩ | ⟨_,hf⟩ | ⟨_,hf⟩ | ⟨_,hf⟩
  ·rw [hf,beg_yes] at q1
   have hd:=rdC_ok e hv.1 hv.2
   rw [rrdparse_text k _ hd.1 hd.2 (by omega)] at q1
   obtain rfl:=(Prod.mk.inj (Option.some.inj q1)).1
   rw [targ_back e hv k1]
  ·rw [hf] at b1;exact absurd (show (begR (105::109::112::_) wRt).2=true from b1) (by unfold begR;rw [if_neg (fun h=>absurd h.2 (by show ¬ ([105,109,112]:List UInt8)=wRt;decide))];decide)
  ·rw [hf] at b1;exact absurd (show (begR (115::111::117::_) wRt).2=true from b1) (by unfold begR;rw [if_neg (fun h=>absurd h.2 (by show ¬ ([115,111,117]:List UInt8)=wRt;decide))];decide)
  ·rw [hf] at b1;exact absurd (show (begR (111::116::104::_) wRt).2=true from b1) (by unfold begR;rw [if_neg (fun h=>absurd h.2 (by show ¬ ([111,116,104]:List UInt8)=wRt;decide))];decide)
 rw [if_neg b1,beg_ok,Option.bind_some]
 by_cases b2:(begR s wImp).2=true
 ·rw [if_pos b2]
  have split:∃ a b,(begR s wImp).1=a++b∧(58:UInt8)∉a∧(b=[]∨∃ c,b=58::c):=by
   rcases first_of 58 (begR s wImp).1 with h | ⟨a,b,h,hn⟩
   ·exact ⟨_,[],(List.append_nil _).symm,h,.inl rfl⟩
   ·exact ⟨a,58::b,h,hn,.inr ⟨b,rfl⟩⟩
  obtain ⟨a,b,hab,hna,hb⟩:=split
  have hla:a.length≤(begR s wImp).1.length:=by rw [hab];simp
  have c1:=colon_l0 (begR s wImp) (by omega) a 0 k b (by rw [List.drop_zero];exact hab) hna hb (by omega) (by omega)
  rw [show ((0:Nat):Int)=0 from rfl] at c1
  rw [c1,Option.bind_some,Nat.zero_add,if_pos (by omega),Int.toNat_natCast]
  have ta:((begR s wImp).1.take a.length).drop (Int.toNat (0:Int))=a:=by rw [hab,List.take_left];rfl
  rw [ta]
  obtain ⟨x,err,q1,hx,_⟩:=rparse_any k a (by omega)
  rw [q1,Option.bind_some,bsize]
  have e1:IntKind.i64.wrap (((a.length:Nat):Int)+1)=((a.length+1:Nat):Int):=by rw [IntKind.wrap_i64];omega
  rw [e1]
  have e2:(if (((begR s wImp).1.length:Nat):Int) < ((a.length+1:Nat):Int) then (((begR s wImp).1.length:Nat):Int) else ((a.length+1:Nat):Int))=((min (a.length+1) (begR s wImp).1.length:Nat):Int):=by
   split<;>omega
  rw [e2,if_pos (by omega),Int.toNat_natCast,Int.toNat_natCast,List.take_length]
  obtain ⟨n,q2⟩:=digits_any k ((begR s wImp).1.drop (min (a.length+1) (begR s wImp).1.length)) 10 5 (by decide) (by omega)
  have q3:=rimp_ok (k - 20) x n
  rw [show k - 20+20=k by omega] at q3
  rw [q2,Option.bind_some]
  simp only [q3,Option.bind_some]
  refine ⟨_,imp_v _ hx _,rfl,fun e hv he=>?_⟩
  subst he
  rcases formC e with ⟨_,hf⟩ | ⟨k2,hf⟩ | ⟨_,hf⟩ | ⟨_,hf⟩
  ·rw [hf,beg_yes] at b1;exact absurd rfl b1
  ·obtain ⟨ia,ir,_⟩:=impA_ok e hv.1 hv.2
   have hn:=num2_range e hv.1 hv.2
   have hfr:(58:UInt8)∉textA (impA e):=by
    unfold textA
    rw [if_pos ir,if_pos (show (impA e).Size=4 from rfl)]
    exact txt4_free _ ia.1
   have e5:(begR (textC e) wImp).1=textA (impA e)++58::Lib.itoa (numL (e.drop 6) 0):=by rw [hf,beg_yes]
   have ea:a=textA (impA e)∧b=58::Lib.itoa (numL (e.drop 6) 0):=by
    rw [e5] at hab
    rcases hb with rfl | ⟨c,rfl⟩
    ·rw [List.append_nil] at hab
     exact absurd (hab ▸ (by simp:(58:UInt8)∈textA (impA e)++58::Lib.itoa (numL (e.drop 6) 0))) hna
    ·obtain ⟨h1,h2⟩:=cut_at hfr hna hab
     exact ⟨h1.symm,by rw [h2]⟩
   obtain ⟨rfl,rfl⟩:=ea
   rw [rparse_text k _ ia ir (by omega)] at q1
   obtain rfl:=(Prod.mk.inj (Option.some.inj q1)).1
   have e6:(begR (textC e) wImp).1.drop (min ((textA (impA e)).length+1) (begR (textC e) wImp).1.length)=Lib.itoa (numL (e.drop 6) 0):=by
    rw [e5,Nat.min_eq_left (by simp)]
    rw [← List.drop_drop,List.drop_left];rfl
   have l5:((Lib.itoa (numL (e.drop 6) 0)).length:Int)≤5:=by
    rw [itoa_nat _ hn.1,numD_dec]
    have:=dec5 (numL (e.drop 6) 0).toNat (by omega)
    omega
   rw [e6,dig_itoa k _ ⟨hn.1,by omega⟩ 5 l5 (by omega)] at q2
   obtain rfl:=Option.some.inj q2
   rw [imp_back e hv k2]
  ·rw [hf] at b2;exact absurd (show (begR (115::111::117::114::99::101::58::_) wImp).2=true from b2) (by unfold begR;rw [if_neg (fun h=>absurd h.2 (by show ¬ ([115,111,117,114,99,101,58]:List UInt8)=wImp;decide))];decide)
  ·rw [hf] at b2
   have:(begR (wOth++hex8 e) wImp).2=false:=by
    unfold begR
    rw [if_neg]
    rintro ⟨_,h⟩
    have:=congrArg (fun l:List UInt8=>l[0]?) h
    simp [wOth,wImp] at this
   rw [this] at b2;cases b2
 rw [if_neg b2,beg_ok,Option.bind_some]
 by_cases b3:(begR s wSrc).2=true
 ·rw [if_pos b3]
  obtain ⟨n,q2⟩:=digits_any k (begR s wSrc).1 10 10 (by decide) (by omega)
  have q3:=rsrc_ok (k - 20) n
  rw [show k - 20+20=k by omega] at q3
  simp only [q2,Option.bind_some,q3]
  refine ⟨_,src_v _,rfl,fun e hv he=>?_⟩
  subst he
  rcases formC e with ⟨_,hf⟩ | ⟨_,hf⟩ | ⟨k3,hf⟩ | ⟨_,hf⟩
  ·rw [hf,beg_yes] at b1;exact absurd rfl b1
  ·rw [hf,beg_yes] at b2;exact absurd rfl b2
  ·have hn:=num4_range e hv.1 hv.2
   have hi:=itoa_10 _ ⟨hn.1,hn.2.1⟩
   rw [hf,beg_yes] at q2
   simp only at q2
   rw [dig_itoa k _ ⟨hn.1,hn.2.1⟩ 10 (by omega) (by omega)] at q2
   obtain rfl:=Option.some.inj q2
   rw [src_back e hv k3]
  ·rw [hf] at b3
   have:(begR (wOth++hex8 e) wSrc).2=false:=by
    unfold begR
    rw [if_neg]
    rintro ⟨_,h⟩
    have:=congrArg (fun l:List UInt8=>l[0]?) h
    simp [wOth,wSrc] at this
   rw [this] at b3;cases b3
 rw [if_neg b3,beg_ok,Option.bind_some]
 obtain ⟨d,q1,bd,ld⟩:=unhexf_any k (begR s wOth).1 (by omega) (by omega)
 obtain ⟨t,q2,tv⟩:=of4f_any k d bd ld (by omega)
 rw [q1,Option.bind_some,q2,Option.bind_some]
 refine ⟨t,tv,rfl,fun e hv he=>?_⟩
 subst he
 rcases formC e with ⟨_,hf⟩ | ⟨_,hf⟩ | ⟨_,hf⟩ | ⟨_,hf⟩
 ·rw [hf,beg_yes] at b1;exact absurd rfl b1
 ·rw [hf,beg_yes] at b2;exact absurd rfl b2
 ·rw [hf,beg_yes] at b3;exact absurd rfl b3
 ·rw [hf,beg_yes] at q1
  simp only at q1
  rw [unhex_ok k e hv.1 hv.2 (by omega)] at q1
  obtain rfl:=Option.some.inj q1
  have:=comm_ofR (k - 20) e hv.1
  rw [show k - 20+20=k by omega,q2] at this
  exact Option.some.inj this
theorem textC_60 (e:List Int) (hv:vE e):(textC e).length≤60:=by
 have hd:=rdC_ok e hv.1 hv.2
 have l1:=textD_40 _ hd.1 hd.2
 have l2:=textA_39 _ (impA_ok e hv.1 hv.2).1
 have n2:=num2_range e hv.1 hv.2
 have n4:=num4_range e hv.1 hv.2
 have l3:=itoa_10 _ ⟨n2.1,show numL (e.drop 6) 0 < 4294967296 by omega⟩
 have l4:=itoa_10 _ ⟨n4.1,n4.2.1⟩
 have l5:=hex8_len e
 have le:=hv.1
 unfold textC
 split
 ·simp only [List.length_append,List.length_cons,List.length_nil];omega
 ·split
  ·simp only [List.length_append,List.length_cons,List.length_nil];omega
  ·split
   ·simp only [List.length_append,List.length_cons,List.length_nil];omega
   ·simp only [List.length_append,List.length_cons,List.length_nil];omega
open Classical in
theorem rParse_ok (k:Nat) (s:List UInt8) (hk:6000≤k) (t:List Int×Int) (tv:vE t.1) (ht:∀ e,vE e→textC e=s→t=(e,0)):vineryref04_Parse.f k s=some (checkC t s):=by
 unfold vineryref04_Parse.f checkC
 by_cases hs:s.length≤60
 ·obtain ⟨u,uv,q1,q2⟩:=rparse_any' k s hs hk
  rw [bsize,if_neg (by simp;omega),q1,Option.bind_some,rtextC_ok k u uv (by omega),Option.bind_some,bstr_toList,bstr_toList]
  by_cases hu:textC u=s
  ·have:=ht u uv hu
   subst this
   rw [if_neg (by simp [hu]),if_pos ⟨rfl,hu⟩]
  ·rw [if_pos (by simpa using hu),if_neg]
   ·rfl
   ·rintro ⟨_,h⟩
    have:=q2 t.1 tv h
    rw [this] at hu
    exact hu h
 ·rw [bsize,if_pos (by simp;omega),if_neg]
  ·rfl
  ·rintro ⟨_,h⟩
   have:=textC_60 t.1 tv
   rw [h] at this
   exact hs this
theorem okA_vE {e:List Int} (h:okA .u8 8 e):vE e:=⟨h.1,okA_isB h⟩
theorem CommunityTells.law (e:List Int) (he:okA .u8 8 e) (s:List UInt8) (hs:okS s) (hlen:s.length≤1048576):∃ k,vinerylaw04_CommunityTells.f k e s=some true:=by
 have hv:=okA_vE he
 refine ⟨3000000,?_⟩
 generalize hk:3000000=k
 have e1:=small04 (k - 60)
 rw [show k - 60+60=k by omega] at e1
 have e2:=importer_ok (k - 5) e hv.1
 have e3:=rimporter_ok (k - 20) e hv
 have e4:=as_ok (k - 5) e hv.1
 have e5:=ras_ok (k - 20) e hv
 rw [show k - 5+5=k by omega] at e2 e4
 rw [show k - 20+20=k by omega] at e3 e5
 obtain ⟨t,tv,e6,tb⟩:=cparse_any k s hlen (by omega)
 have e7:=rParse_ok k s (by omega) t tv tb
 have e8:=textC_ok k e hv.1 hv.2 (by omega)
 have e9:=rtextC_ok k e hv (by omega)
 unfold vinerylaw04_CommunityTells.f
 rw [e1,Option.bind_some,e2,Option.bind_some,e3,Option.bind_some,e4,Option.bind_some,e5,Option.bind_some,e6,Option.bind_some,e7,Option.bind_some,if_pos rfl,kind_ok,Option.bind_some,rkind_ok e hv.2,Option.bind_some,e8,e9]
 have:eqA 16 (importR e).1.B (importR e).1.B=true:=(eqA_iff _ _ _).2 fun _ _=>rfl
 simp [this,es8]
end Go.E
