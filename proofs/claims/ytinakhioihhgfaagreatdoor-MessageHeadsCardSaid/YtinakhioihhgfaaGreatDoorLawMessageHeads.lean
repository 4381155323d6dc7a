/- The plain law: what the walk computes is true, whatever the input. -/
import Derived.Test.YtinakhioihhgfaaGreatDoorGenMessageHeads
import Derived.Test.YtinakhioihhgfaaGreatDoorEngR
set_option linter.unusedVariables false
set_option linter.unusedSimpArgs false
namespace Go.E
theorem bstr_toList (l:List UInt8):(bstr l).toList=l:=by rw [ByteArray.toList_eq];simp [bstr]
theorem clone_ok (l:List Int) (h:l.length≤140737488355328):bytes_Clone.f l=some l:=if_pos h
theorem next_ok (r:S_cursor_rest) (n:Int) (hb:r.bad=false) (h0:0≤n) (h1:n≤r.left.length):cursor_rest_next.f r n=some (r.left.take n.toNat,⟨r.left.drop n.toNat,false⟩):=by
 unfold cursor_rest_next.f
 have e0:¬ n < 0:=by omega
 have e1:¬ (r.left.length:Int) < n:=by omega
 simp [hb,e0,e1,h0,h1]
theorem take_ok (r:S_cursor_Reader) (n:Int) (hl:r.rest.left.length≤140737488355328) (hb:r.rest.bad=false) (h0:0≤n) (h1:n≤r.rest.left.length) :
  cursor_Reader_Take.f r n=some (r.rest.left.take n.toNat,⟨⟨r.rest.left.drop n.toNat,false⟩⟩):=by
 unfold cursor_Reader_Take.f
 rw [next_ok _ _ hb h0 h1,Option.bind_some,clone_ok _ (by simp;omega)]
 rfl
def numL:List Int→Int→Int
 | [],x=>x
 | c::l,x=>numL l (IntKind.i64.wrap (BitVec.ofInt IntKind.i64.bits (IntKind.i64.wrap (x*2^(min (8:Int).toNat IntKind.i64.bits))) ||| BitVec.ofInt IntKind.i64.bits (IntKind.i64.wrap c)).toNat)
theorem num_l0 (t:List Int×S_cursor_rest) (hl:t.1.length≤140737488355328):∀ (m k i:Nat) (x:Int),m+i=t.1.length→m < k→cursor_Reader_Num.l0 t k x (i:Int)=some (numL (t.1.drop i) x)
 | 0,k+1,i,x,h,_=>by
  unfold cursor_Reader_Num.l0
  rw [if_neg (by simp;omega),List.drop_of_length_le (by omega)]
  rfl
 | m+1,k+1,i,x,h,hk=>by
  unfold cursor_Reader_Num.l0
  have hi:i < t.1.length:=by omega
  have e:IntKind.i64.wrap ((i:Int)+1)=((i+1:Nat):Int):=by rw [IntKind.wrap_i64];omega
  rw [if_pos (by simpa using hi),if_pos (by omega),e,num_l0 t hl m k (i+1) _ (by omega) (by omega),List.drop_eq_getElem_cons hi]
  have er:rd t.1 (i:Int)=t.1[i]:=by simp [rd,List.getD,hi]
  rw [er]
  rfl
theorem num_ok (k:Nat) (r:S_cursor_Reader) (n:Int) (hb:r.rest.bad=false) (h1:1≤n) (h4:n≤4) (hn:n≤r.rest.left.length) :
  cursor_Reader_Num.f (k+5) r n=some (numL (r.rest.left.take n.toNat) 0,⟨⟨r.rest.left.drop n.toNat,false⟩⟩):=by
 unfold cursor_Reader_Num.f
 have e1:¬ n < 1:=by omega
 have e4:¬ 4 < n:=by omega
 rw [if_neg (by simp [e1,e4]),Option.bind_some,next_ok _ _ hb (by omega) hn,Option.bind_some]
 have hl:(r.rest.left.take n.toNat).length≤4:=by simp;omega
 have:=num_l0 (r.rest.left.take n.toNat,⟨r.rest.left.drop n.toNat,false⟩) (by show (r.rest.left.take n.toNat).length≤_;omega) (r.rest.left.take n.toNat).length (k+5) 0 0 rfl (by omega)
 simp only [Int.ofNat_zero,Int.natCast_zero,List.drop_zero] at this
 rw [this]
 rfl
theorem or_step (x c:Int) (hx:0≤x) (hx2:x < 72057594037927936) (hc:0≤c) (hc2:c≤255) :
  IntKind.i64.wrap (BitVec.ofInt IntKind.i64.bits (IntKind.i64.wrap (x*2^(min (8:Int).toNat IntKind.i64.bits))) ||| BitVec.ofInt IntKind.i64.bits (IntKind.i64.wrap c)).toNat=IntKind.i64.wrap (x*256+c):=by
 obtain ⟨a,rfl⟩:=Int.eq_ofNat_of_zero_le hx
 obtain ⟨d,rfl⟩:=Int.eq_ofNat_of_zero_le hc
 congr 1
 have e1:(BitVec.ofInt IntKind.i64.bits (IntKind.i64.wrap ((a:Int)*2^(min (8:Int).toNat IntKind.i64.bits)))).toNat=2^8*a:=by
  have:((a:Int)*2^(min (8:Int).toNat IntKind.i64.bits))=(a:Int)*256:=rfl
  rw [this,IntKind.wrap_i64,BitVec.toNat_ofInt]
  show (_ % ((2^64:Nat):Int)).toNat=_
  omega
 have e2:(BitVec.ofInt IntKind.i64.bits (IntKind.i64.wrap (d:Int))).toNat=d:=by
  rw [IntKind.wrap_i64,BitVec.toNat_ofInt]
  show (_ % ((2^64:Nat):Int)).toNat=_
  omega
 rw [BitVec.toNat_or,e1,e2,← Nat.two_pow_add_eq_or_of_lt (by omega:d < 2^8)]
 omega
theorem numL_cons (c:Int) (l:List Int) (x:Int) (hx:0≤x) (hx2:x < 4294967296) (hc:0≤c) (hc2:c≤255):numL (c::l) x=numL l (x*256+c):=by
 rw [numL,or_step x c hx (by omega) hc hc2]
 congr 1
 rw [IntKind.wrap_i64];omega
theorem w64 (n:Int) (h:-9223372036854775808≤n∧n≤9223372036854775807):IntKind.i64.wrap n=n:=by rw [IntKind.wrap_i64];omega
def isB (l:List Int):Prop:=∀ y∈l,0≤y∧y≤255
theorem okL_isB {l:List Int} (h:okL 1 (okI .u8) l):isB l:=fun y hy=>by
 have:=h.2 y hy
 have e1:IntKind.u8.min=0:=rfl
 have e2:IntKind.u8.max=255:=rfl
 unfold okI at this
 omega
theorem okL_len {l:List Int} {ok:Int→Prop} (h:okL 1 ok l):l.length≤140737488351232:=by have:=h.1;unfold reachBytes at this;omega
theorem b2s_inj:∀ {a b:List Int},isB a→isB b→b2s a=b2s b→a=b
 | [],[],_,_,_=>rfl
 | [],_::_,_,_,h=>by simp [b2s] at h
 | _::_,[],_,_,h=>by simp [b2s] at h
 | x::a,y::b,ha,hb,h=>by
  simp only [b2s,List.map_cons,List.cons.injEq] at h
  have h1:=ha x (by simp);have h2:=hb y (by simp)
  have e:=congrArg UInt8.toNat h.1
  rw [UInt8.toNat_ofNat',UInt8.toNat_ofNat'] at e
  rw [b2s_inj (fun z hz=>ha z (by simp [hz])) (fun z hz=>hb z (by simp [hz])) h.2,show x=y by omega]
theorem b2s_beq {a b:List Int} (ha:isB a) (hb:isB b):(b2s a==b2s b)=(a==b):=by
 rw [Bool.eq_iff_iff]
 simp only [beq_iff_eq]
 exact ⟨b2s_inj ha hb,fun e=>by rw [e]⟩
theorem rd_at (l:List Int) (i:Nat) (hi:i < l.length):rd l (i:Int)=l[i]:=by simp [rd,List.getD,hi]
theorem big_go (l:List Int) (hl:∀ y∈l,0≤y∧y≤255) (h4:l.length≤4):∀ (m k i:Nat) (x:Int),i+m=l.length→m < k→0≤x→x < 256^i→vineryref01_Big.l0 l k x (i:Int)=some (numL (l.drop i) x)
 | 0,k+1,i,x,hi,_,_,_=>by
  rw [vineryref01_Big.l0,if_neg (by simp;omega),List.drop_of_length_le (by omega)];rfl
 | m+1,k+1,i,x,hi,hk,h0,hx=>by
  have hlt:i < l.length:=by omega
  have hx3:x < 16777216:=by
   rcases (show i=0∨i=1∨i=2∨i=3 by omega) with e | e | e | e<;>rw [e] at hx
   ·have:x < 1:=hx
    omega
   ·have:x < 256:=hx
    omega
   ·have:x < 65536:=hx
    omega
   ·exact hx
  have hc:=hl l[i] (List.getElem_mem hlt)
  have e:IntKind.i64.wrap ((i:Int)+1)=((i+1:Nat):Int):=by rw [w64 _ (by omega)];omega
  rw [vineryref01_Big.l0,if_pos (by simp;omega),if_pos (by omega),e,rd_at l i hlt,w64 (x*256) (by omega),w64 l[i] (by omega),w64 (x*256+l[i]) (by omega),List.drop_eq_getElem_cons hlt,numL_cons _ _ _ h0 (by omega) hc.1 hc.2]
  refine big_go l hl h4 m k (i+1) _ (by omega) (by omega) (by omega) ?_
  generalize l[i]=c at hc
  rcases (show i=0∨i=1∨i=2∨i=3 by omega) with e | e | e | e<;>rw [e] at hx ⊢
  ·have:x < 1:=hx
   show _ < (256:Int)
   omega
  ·have:x < 256:=hx
   show _ < (65536:Int)
   omega
  ·have:x < 65536:=hx
   show _ < (16777216:Int)
   omega
  ·have:x < 16777216:=hx
   show _ < (4294967296:Int)
   omega
theorem big_ok (k:Nat) (l:List Int) (hl:∀ y∈l,0≤y∧y≤255) (h4:l.length≤4):vineryref01_Big.f (k+5) l=some (numL l 0):=by
 unfold vineryref01_Big.f
 have:=big_go l hl h4 l.length (k+5) 0 0 (by omega) (by omega) (by omega) (by decide)
 rw [show vineryref01_Big.l0 l (k+5) (0:Int) (0:Int)=_ from this];rfl
theorem small11:vinerylaw11_small.f 300=some true:=by kernel_rfl
theorem head_l0 (b:List Int) (hb:16≤b.length):∀ (m k i:Nat),m+i=16→m < k→vineryref11_Head.l0 b k (i:Int)=some (if (b.drop i).take (16 - i)=List.replicate (16 - i) 255 then .inr () else .inl (0,0,⟨1,1,[]⟩,0))
 | 0,k+1,i,hi,_=>by
  obtain rfl:i=16:=by omega
  rw [vineryref11_Head.l0,if_neg (by simp)]
  simp
 | m+1,k+1,i,hi,hk=>by
  have hlt:i < b.length:=by omega
  have e:IntKind.i64.wrap ((i:Int)+1)=((i+1:Nat):Int):=by rw [w64 _ (by omega)];omega
  rw [vineryref11_Head.l0,if_pos (by simp;omega),if_pos (by omega),e,rd_at b i hlt]
  have e1:16 - i=(16 - (i+1))+1:=by omega
  rw [e1,List.drop_eq_getElem_cons hlt,List.take_succ_cons,List.replicate_succ]
  by_cases h:b[i]=255
  ·rw [if_neg (by simp [h]),head_l0 b hb m k (i+1) (by omega) (by omega)]
   simp [h]
  ·rw [if_pos (by simp [h]),if_neg (by simp [h])]
def headL (b:List Int):Int×Int×S_api_Note×Int :=
 let x:=rd b 16*256+rd b 17
 let z:=rd b 18
 let s:=rd [0,29,23,21,19,23] z
 if b.length < 19 then (0,0,⟨0,0,[]⟩,3)
 else if b.take 16≠List.replicate 16 255 then (0,0,⟨1,1,[]⟩,0)
 else if x < 19∨x > 4096 then (0,0,⟨1,2,[rd b 16,rd b 17]⟩,0)
 else if z < 1∨z > 5 then (0,0,⟨1,3,[z]⟩,0)
 else if x < s∨z ≥ 4∧x≠s then (0,0,⟨1,2,[rd b 16,rd b 17]⟩,0)
 else (z,x - 19,⟨0,0,[]⟩,0)
theorem drop16 (b:List Int) (h:19≤b.length):b.drop 16=rd b 16::rd b 17::rd b 18::b.drop 19:=by
 have h16:16 < b.length:=by omega
 have h17:17 < b.length:=by omega
 have h18:18 < b.length:=by omega
 rw [List.drop_eq_getElem_cons h16,List.drop_eq_getElem_cons h17,List.drop_eq_getElem_cons h18]
 have e16:=rd_at b 16 h16
 have e17:=rd_at b 17 h17
 have e18:=rd_at b 18 h18
 rw [← e16,← e17,← e18];rfl
theorem cut16 (b:List Int) (h:19≤b.length):(b.take (Int.toNat 18)).drop (Int.toNat 16)=[rd b 16,rd b 17]:=by
 show (b.take 18).drop 16=_
 rw [List.drop_take,drop16 b h];rfl
theorem rd_isB {b:List Int} (hb:isB b) (i:Nat) (h:i < b.length):0≤rd b (i:Int)∧rd b (i:Int)≤255:=by rw [rd_at b i h];exact hb _ (List.getElem_mem h)
theorem numx (x y:Int) (hx:0≤x∧x≤255) (hy:0≤y∧y≤255):numL [x,y] 0=x*256+y:=by
 rw [numL_cons _ _ _ (by omega) (by omega) hx.1 hx.2,numL_cons _ _ _ (by omega) (by omega) hy.1 hy.2,numL];omega
theorem numz (z:Int) (hz:0≤z∧z≤255):numL [z] 0=z:=by
 rw [numL_cons _ _ _ (by omega) (by omega) hz.1 hz.2,numL];omega
theorem sizeOf_ok (z:Int) (h1:1≤z) (h5:z≤5):message_sizeOf.f z=some (rd [0,29,23,21,19,23] z,decide (z ≥ 4)):=by
 rcases (show z=1∨z=2∨z=3∨z=4∨z=5 by omega) with rfl | rfl | rfl | rfl | rfl<;>rfl
theorem sizeOf_any (z:Int):∃ s,message_sizeOf.f z=some s:=by
 unfold message_sizeOf.f
 repeat' split
 all_goals exact ⟨_,rfl⟩
theorem head_ok (b:List Int) (hb:isB b) (hl:b.length≤140737488351232) (k:Nat):message_Head.f (k+20) b=some (headL b):=by
 unfold message_Head.f
 by_cases h19:b.length < 19
 ·rw [if_pos (by simp;omega),headL,if_pos h19]
 ·have h:19≤b.length:=by omega
  rw [if_neg (by simp;omega)]
  unfold cursor_Open.f
  rw [clone_ok _ (by omega),Option.bind_some,Option.bind_some,take_ok _ 16 (by show b.length≤_;omega) rfl (by omega) (by show (16:Int)≤b.length;omega),Option.bind_some,if_pos (by omega)]
  have h16:0≤rd b 16∧rd b 16≤255:=rd_isB hb 16 (by omega)
  have h17:0≤rd b 17∧rd b 17≤255:=rd_isB hb 17 (by omega)
  have h18:0≤rd b 18∧rd b 18≤255:=rd_isB hb 18 (by omega)
  have d16:=drop16 b h
  rw [num_ok (k+15) _ 2 rfl (by omega) (by omega) (by show (2:Int)≤(b.drop 16).length;rw [d16];simp;omega),Option.bind_some,num_ok (k+15) _ 1 rfl (by omega) (by omega) (by show (1:Int)≤((b.drop 16).drop 2).length;rw [d16];simp;omega),Option.bind_some]
  have n2:numL ((b.drop 16).take 2) 0=rd b 16*256+rd b 17:=by rw [d16];exact numx _ _ h16 h17
  have n1:numL (((b.drop 16).drop 2).take 1) 0=rd b 18:=by rw [d16];exact numz _ h18
  have q2:((⟨⟨b.drop (Int.toNat 16),false⟩⟩:S_cursor_Reader).rest.left.take (Int.toNat 2))=(b.drop 16).take 2:=rfl
  have q1:((⟨⟨(⟨⟨b.drop (Int.toNat 16),false⟩⟩:S_cursor_Reader).rest.left.drop (Int.toNat 2),false⟩⟩:S_cursor_Reader).rest.left.take (Int.toNat 1))=((b.drop 16).drop 2).take 1:=rfl
  simp only [q2,q1,n2,n1]
  have hrep:bytes_Repeat.f [255] 16=some (List.replicate 16 255):=by unfold bytes_Repeat.f;rw [if_pos ⟨rfl,rfl⟩]
  have heq:bytes_Equal.f (b.take (Int.toNat 16)) (List.replicate 16 255)=some (b.take 16==List.replicate 16 255):=by
   unfold bytes_Equal.f
   rw [bstr_toList,bstr_toList,b2s_beq (fun y hy=>hb y (List.mem_of_mem_take hy)) (fun y hy=>by rw [List.mem_replicate] at hy;omega)]
   rfl
  obtain ⟨s,hs⟩:=sizeOf_any (rd b 18)
  have hs':=hs
  rw [hs,Option.bind_some,hrep,Option.bind_some,heq,Option.bind_some,cut16 b h]
  by_cases hm:b.take 16=List.replicate 16 255
  ·rw [if_neg (by simp [hm])]
   have hc:bytes_Clone.f [rd b 16,rd b 17]=some [rd b 16,rd b 17]:=clone_ok _ (by simp)
   by_cases hx:rd b 16*256+rd b 17 < 19∨rd b 16*256+rd b 17 > 4096
   ·rw [if_pos (by rcases hx with hx | hx<;>simp [hx]),hc,Option.bind_some];simp only [headL];rw [if_neg h19,if_neg (not_not_intro hm),if_pos hx]
   ·have hx1:¬ rd b 16*256+rd b 17 < 19:=fun e=>hx (.inl e)
    have hx2:¬ rd b 16*256+rd b 17 > 4096:=fun e=>hx (.inr e)
    rw [if_neg (by simp [hx1];omega)]
    have hw:IntKind.u8.wrap (rd b 18)=rd b 18:=by rw [IntKind.wrap_u8];have:=h18;omega
    by_cases hz:rd b 18 < 1∨rd b 18 > 5
    ·rw [if_pos (by rcases hz with hz | hz<;>simp [hz]),hw];simp only [headL];rw [if_neg h19,if_neg (not_not_intro hm),if_neg hx,if_pos hz]
    ·have hz1:¬ rd b 18 < 1:=fun e=>hz (.inl e)
     have hz2:¬ rd b 18 > 5:=fun e=>hz (.inr e)
     rw [if_neg (by simp [hz1];omega)]
     obtain rfl:=Option.some.inj (hs'.symm.trans (sizeOf_ok (rd b 18) (by omega) (by omega)))
     by_cases ht:rd b 16*256+rd b 17 < rd [0,29,23,21,19,23] (rd b 18)∨rd b 18 ≥ 4∧rd b 16*256+rd b 17≠rd [0,29,23,21,19,23] (rd b 18)
     ·rw [if_pos (by
       rcases ht with ht | ⟨ht,ht2⟩
       ·simp [ht]
       ·by_cases hq:rd b 16*256+rd b 17 < rd [0,29,23,21,19,23] (rd b 18)
        ·simp [hq]
        ·rw [if_neg (by simpa using hq),if_pos (by simpa using ht)];simpa using ht2),hc,Option.bind_some];simp only [headL];rw [if_neg h19,if_neg (not_not_intro hm),if_neg hx,if_neg hz,if_pos ht]
     ·have ht1:¬ rd b 16*256+rd b 17 < rd [0,29,23,21,19,23] (rd b 18):=fun e=>ht (.inl e)
      rw [if_neg (by
       intro e
       rw [if_neg (by simpa using ht1)] at e
       by_cases h4:rd b 18 ≥ 4
       ·rw [if_pos (by simpa using h4)] at e
        exact ht (.inr ⟨h4,by simpa using e⟩)
       ·rw [if_neg (by simpa using h4)] at e
        cases e),w64 _ (by omega)];simp only [headL];rw [if_neg h19,if_neg (not_not_intro hm),if_neg hx,if_neg hz,if_neg ht]
  ·rw [if_pos (by rw [Bool.not_eq_true',beq_eq_false_iff_ne];exact hm)];simp only [headL];rw [if_neg h19,if_pos hm]
theorem ref_ok (b:List Int) (hb:isB b) (hl:b.length≤140737488351232) (k:Nat):vineryref11_Head.f (k+20) b=some (headL b):=by
 unfold vineryref11_Head.f
 by_cases h19:b.length < 19
 ·rw [if_pos (by simp;omega),headL,if_pos h19]
 ·have h:19≤b.length:=by omega
  rw [if_neg (by simp;omega)]
  have h16:0≤rd b 16∧rd b 16≤255:=rd_isB hb 16 (by omega)
  have h17:0≤rd b 17∧rd b 17≤255:=rd_isB hb 17 (by omega)
  have h18:0≤rd b 18∧rd b 18≤255:=rd_isB hb 18 (by omega)
  have hl0:vineryref11_Head.l0 b (k+20) (0:Int)=some (if b.take 16=List.replicate 16 255 then .inr () else .inl (0,0,⟨1,1,[]⟩,0)):=head_l0 b (by omega) 16 (k+20) 0 rfl (by omega)
  rw [hl0,Option.bind_some]
  by_cases hm:b.take 16=List.replicate 16 255
  ·rw [if_pos hm]
   simp only []
   rw [if_pos (by omega),cut16 b h,List.nil_append,if_pos (by simp),big_ok (k+15) [rd b 16,rd b 17] (by simp;omega) (by simp),Option.bind_some,numx _ _ h16 h17,if_pos (by omega),w64 (rd b 18) (by have:=h18;omega)]
   by_cases hx:rd b 16*256+rd b 17 < 19∨rd b 16*256+rd b 17 > 4096
   ·rw [if_pos (by rcases hx with hx | hx<;>simp [hx])];simp only [headL];rw [if_neg h19,if_neg (not_not_intro hm),if_pos hx]
   ·have hx1:¬ rd b 16*256+rd b 17 < 19:=fun e=>hx (.inl e)
    have hx2:¬ rd b 16*256+rd b 17 > 4096:=fun e=>hx (.inr e)
    rw [if_neg (by simp [hx1];omega)]
    by_cases hz:rd b 18 < 1∨rd b 18 > 5
    ·rw [if_pos (by rcases hz with hz | hz<;>simp [hz]),if_pos (by omega)];simp only [headL];rw [if_neg h19,if_neg (not_not_intro hm),if_neg hx,if_pos hz]
    ·have hz1:¬ rd b 18 < 1:=fun e=>hz (.inl e)
     have hz2:¬ rd b 18 > 5:=fun e=>hz (.inr e)
     have hi:0≤rd b 18∧rd b 18 < (([(0:Int),(29:Int),(23:Int),(21:Int),(19:Int),(23:Int)]:List Int).length:Int):=⟨by omega,by show rd b 18 < 6;omega⟩
     rw [if_neg (by simp [hz1];omega),if_pos hi,if_pos hi,w64 (rd b 16*256+rd b 17 - 19) (by omega)]
     by_cases ht1:rd b 16*256+rd b 17 < rd [0,29,23,21,19,23] (rd b 18)
     ·rw [if_pos (by simpa using ht1),Option.bind_some,if_pos rfl];simp only [headL];rw [if_neg h19,if_neg (not_not_intro hm),if_neg hx,if_neg hz,if_pos (.inl ht1)]
     ·rw [if_neg (by simpa using ht1)]
      by_cases h4:rd b 18 ≥ 4
      ·rw [if_pos (by simpa using h4),Option.bind_some]
       by_cases ht2:rd b 16*256+rd b 17≠rd [0,29,23,21,19,23] (rd b 18)
       ·rw [if_pos (by simpa using ht2)];simp only [headL];rw [if_neg h19,if_neg (not_not_intro hm),if_neg hx,if_neg hz,if_pos (.inr ⟨h4,ht2⟩)]
       ·rw [if_neg (by simpa using ht2)];simp only [headL];rw [if_neg h19,if_neg (not_not_intro hm),if_neg hx,if_neg hz,if_neg (fun e=>e.elim ht1 (fun e=>ht2 e.2))]
      ·rw [if_neg (by simpa using h4),Option.bind_some,if_neg (by simp)];simp only [headL];rw [if_neg h19,if_neg (not_not_intro hm),if_neg hx,if_neg hz,if_neg (fun e=>e.elim ht1 (fun e=>h4 e.1))]
  ·rw [if_neg hm];simp only [headL];rw [if_neg h19,if_pos hm]
theorem MessageHeads.law (b:List Int) (hb:okL 1 (okI .u8) b):∃ k,vinerylaw11_MessageHeads.f k b=some true:=by
 have hl:=okL_len hb
 have hB:=okL_isB hb
 refine ⟨300,?_⟩
 unfold vinerylaw11_MessageHeads.f Lent.f Kept.f vineryref10_SameNote.f
 rw [small11,Option.bind_some,if_pos (by omega),Option.bind_some,head_ok b hB hl 280,Option.bind_some,ref_ok b hB hl 280,Option.bind_some]
 simp
end Go.E
