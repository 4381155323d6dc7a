/- The plain law: what the walk computes is true, whatever the input. -/
import Derived.Test.YtokpdmehkfmmiaaGenDecideStays
import Derived.Test.YtokpdmehkfmmiaaEngR
set_option linter.unusedVariables false
set_option linter.unusedSimpArgs false
namespace Go.E
def isB (l:List Int):Prop:=∀ y∈l,0≤y∧y≤255
theorem ar_at (x:List Int) (i:Nat) (hi:i < x.length):ar x i=x[i]:=by simp [ar,List.getD,hi]
theorem incD (i:Nat) (h:i≤140737488355328):IntKind.i64.wrap ((i:Int)+1)=((i+1:Nat):Int):=by rw [IntKind.wrap_i64];omega
theorem rdD {α:Type} [Inhabited α] (l:List α) (i:Nat) (hi:i < l.length):rd l (i:Int)=l[i]:=by simp [rd,List.getD,hi]
theorem eqA_same (n:Nat) (x:List Int):eqA n x x=true:=(eqA_iff _ _ _).2 fun _ _=>rfl
structure Fit (k:Nat) (c:S_api_Choice):Prop where
 p:c.Route.Attrs.Path.length≤140737488355328
 pk:c.Route.Attrs.Path.length < k
 t:c.Route.Attrs.Tunnels.length≤140737488355328
 tk:c.Route.Attrs.Tunnels.length < k
 cl:c.Route.Attrs.Clusters.length≤140737488355328
 clk:c.Route.Attrs.Clusters.length < k
 e:c.Route.Attrs.Exts.length≤140737488355328
 ek:c.Route.Attrs.Exts.length < k
 s:∀ s∈c.Route.Attrs.Path,s.AS.length≤140737488355328∧s.AS.length < k
 ob:isB (arL 16 c.Route.Attrs.Originator.B)
 ib:isB (arL 16 c.Id.B)
theorem tn_same (a:S_api_Tunnel):vineryref06_Equal.f a a=some true:=by
 unfold vineryref06_Equal.f vineryref06_Same.f
 simp [eqA_same]
theorem rsp_l1 (a:List S_api_Segment) (j:Nat) (hj:j < a.length) (hl:a[j].AS.length≤140737488355328):∀ (m kk i:Nat),i+m=a[j].AS.length→m < kk→vineryref09_samePath.l1 a a (j:Int) kk (i:Int)=some (.inr ())
 | 0,kk+1,i,h,_=>by
  rw [vineryref09_samePath.l1,if_pos (by omega),rdD a j hj,if_neg (by simp;omega)]
 | m+1,kk+1,i,h,hk=>by
  have r1:0≤(j:Int)∧(j:Int) < (a.length:Int):=by omega
  have r2:0≤(i:Int)∧(i:Int) < (a[j].AS.length:Int):=by omega
  rw [vineryref09_samePath.l1,if_pos r1,rdD a j hj,if_pos (by simp;omega),if_pos r1,if_pos r2,if_pos r1,if_pos r2,if_neg (by simp),incD i (by omega)]
  exact rsp_l1 a j hj hl m kk (i+1) (by omega) (by omega)
theorem rsp_l0 (k:Nat) (a:List S_api_Segment) (hl:a.length≤140737488355328) (hs:∀ s∈a,s.AS.length≤140737488355328∧s.AS.length < k):∀ (m kk i:Nat),i+m=a.length→m < kk→vineryref09_samePath.l0 k a a kk (i:Int)=some (.inr ())
 | 0,kk+1,i,h,_=>by rw [vineryref09_samePath.l0,if_neg (by simp;omega)]
 | m+1,kk+1,i,h,hk=>by
  have hi:i < a.length:=by omega
  have r1:0≤(i:Int)∧(i:Int) < (a.length:Int):=by omega
  have q:=hs _ (List.getElem_mem hi)
  have e:=rsp_l1 a i hi q.1 a[i].AS.length k 0 (by omega) q.2
  rw [show ((0:Nat):Int)=(0:Int) from rfl] at e
  rw [vineryref09_samePath.l0,if_pos (by simp;omega),if_pos r1,if_pos r1,rdD a i hi,if_neg (by simp),if_pos r1,if_pos r1,Option.bind_some,if_neg (by simp),e,Option.bind_some,incD i (by omega)]
  exact rsp_l0 k a hl hs m kk (i+1) (by omega) (by omega)
theorem rsp_f (k:Nat) (a:List S_api_Segment) (hl:a.length≤140737488355328) (hk:a.length < k) (hs:∀ s∈a,s.AS.length≤140737488355328∧s.AS.length < k):vineryref09_samePath.f k a a=some true:=by
 unfold vineryref09_samePath.f
 have e:=rsp_l0 k a hl hs a.length k 0 (by omega) hk
 rw [show ((0:Nat):Int)=(0:Int) from rfl] at e
 rw [if_neg (by simp),e]
 rfl
theorem rex_l0 (a:List (List Int)) (hl:a.length≤140737488355328):∀ (m kk i:Nat),i+m=a.length→m < kk→vineryref04_Same.l0 a a kk (i:Int)=some (.inr ())
 | 0,kk+1,i,h,_=>by rw [vineryref04_Same.l0,if_neg (by simp;omega)]
 | m+1,kk+1,i,h,hk=>by
  have r1:0≤(i:Int)∧(i:Int) < (a.length:Int):=by omega
  rw [vineryref04_Same.l0,if_pos (by simp;omega),if_pos r1,if_pos r1,eqA_same,if_neg (by simp),incD i (by omega)]
  exact rex_l0 a hl m kk (i+1) (by omega) (by omega)
theorem rex_f (k:Nat) (a:List (List Int)) (hl:a.length≤140737488355328) (hk:a.length < k):vineryref04_Same.f k a a=some true:=by
 unfold vineryref04_Same.f
 have e:=rex_l0 a hl a.length k 0 (by omega) hk
 rw [show ((0:Nat):Int)=(0:Int) from rfl] at e
 rw [if_neg (by simp),e]
 rfl
theorem ras_l0 (a:S_api_Attrs) (hl:a.Clusters.length≤140737488355328):∀ (m kk i:Nat),i+m=a.Clusters.length→m < kk→vineryref09_Same.l0 a a kk (i:Int)=some (.inr ())
 | 0,kk+1,i,h,_=>by rw [vineryref09_Same.l0,if_neg (by simp;omega)]
 | m+1,kk+1,i,h,hk=>by
  have r1:0≤(i:Int)∧(i:Int) < (a.Clusters.length:Int):=by omega
  rw [vineryref09_Same.l0,if_pos (by simp;omega),if_pos r1,if_pos r1,eqA_same,if_neg (by simp),incD i (by omega)]
  exact ras_l0 a hl m kk (i+1) (by omega) (by omega)
theorem ras_l1 (a:S_api_Attrs) (hl:a.Tunnels.length≤140737488355328):∀ (m kk i:Nat),i+m=a.Tunnels.length→m < kk→vineryref09_Same.l1 a a kk (i:Int)=some (.inr ())
 | 0,kk+1,i,h,_=>by rw [vineryref09_Same.l1,if_neg (by simp;omega)]
 | m+1,kk+1,i,h,hk=>by
  have r1:0≤(i:Int)∧(i:Int) < (a.Tunnels.length:Int):=by omega
  rw [vineryref09_Same.l1,if_pos (by simp;omega),if_pos r1,if_pos r1,tn_same,Option.bind_some,if_neg (by simp),incD i (by omega)]
  exact ras_l1 a hl m kk (i+1) (by omega) (by omega)
theorem ras_f (k:Nat) (c:S_api_Choice) (h:Fit k c):vineryref09_Same.f k c.Route.Attrs c.Route.Attrs=some true:=by
 unfold vineryref09_Same.f
 have e1:=ras_l0 c.Route.Attrs h.cl c.Route.Attrs.Clusters.length k 0 (by omega) h.clk
 have e2:=ras_l1 c.Route.Attrs h.t c.Route.Attrs.Tunnels.length k 0 (by omega) h.tk
 rw [show ((0:Nat):Int)=(0:Int) from rfl] at e1 e2
 simp [eqA_same,e1,e2,rsp_f k _ h.p h.pk h.s,rex_f k _ h.e h.ek]
theorem rro_f (k:Nat) (c:S_api_Choice) (h:Fit k c):vineryref15_SameRoute.f k c.Route c.Route=some true:=by
 unfold vineryref15_SameRoute.f
 simp [eqA_same,ras_f k c h]
theorem same_l0 (k:Nat) (l:List S_api_Choice) (hl:l.length≤140737488355328) (hf:∀ c∈l,Fit k c):∀ (m kk i:Nat),i+m=l.length→m < kk→vinerylaw16_same.l0 k l l kk (i:Int)=some (.inr ())
 | 0,kk+1,i,h,_=>by rw [vinerylaw16_same.l0,if_neg (by simp;omega)]
 | m+1,kk+1,i,h,hk=>by
  have hi:i < l.length:=by omega
  have r1:0≤(i:Int)∧(i:Int) < (l.length:Int):=by omega
  rw [vinerylaw16_same.l0,if_pos (by simp;omega),rdD l i hi]
  simp only [if_pos r1,eqA_same,rro_f k _ (hf _ (List.getElem_mem hi)),incD i (show i≤140737488355328 by omega)]
  simp
  exact same_l0 k l hl hf m kk (i+1) (by omega) (by omega)
theorem same_f (k:Nat) (l:List S_api_Choice) (hl:l.length≤140737488355328) (hk:l.length < k) (hf:∀ c∈l,Fit k c):vinerylaw16_same.f k l l=some true:=by
 unfold vinerylaw16_same.f
 have e:=same_l0 k l hl hf l.length k 0 (by omega) hk
 rw [show ((0:Nat):Int)=(0:Int) from rfl] at e
 rw [if_neg (by simp),e]
 rfl
theorem cmp_range:∀ (a b:List UInt8),Go.Lib.compareBytes a b=-1∨Go.Lib.compareBytes a b=0∨Go.Lib.compareBytes a b=1
 | [],[]=>.inr (.inl rfl)
 | [],_::_=>.inl rfl
 | _::_,[]=>.inr (.inr rfl)
 | x::xs,y::ys=>by
  unfold Go.Lib.compareBytes
  split
  ·exact .inl rfl
  ·split
   ·exact .inr (.inr rfl)
   ·exact cmp_range xs ys
theorem u8_tri {x y:UInt8} (h:¬ x < y) (h':¬ y < x):x=y:=UInt8.le_antisymm (UInt8.not_lt.1 h') (UInt8.not_lt.1 h)
theorem cb_cons (x y:UInt8) (xs ys:List UInt8):Go.Lib.compareBytes (x::xs) (y::ys)=if x < y then -1 else if y < x then 1 else Go.Lib.compareBytes xs ys:=rfl
theorem cmp_neg:∀ (a b:List UInt8),Go.Lib.compareBytes b a=- Go.Lib.compareBytes a b
 | [],[]=>rfl
 | [],_::_=>rfl
 | _::_,[]=>rfl
 | x::xs,y::ys=>by
  rw [cb_cons,cb_cons]
  by_cases h:x < y
  ·rw [if_pos h,if_neg (UInt8.lt_asymm h),if_pos h];rfl
  ·rw [if_neg h,if_neg h]
   by_cases h':y < x
   ·rw [if_pos h',if_pos h']
   ·rw [if_neg h',if_neg h',cmp_neg xs ys]
theorem cb_nc (y:UInt8) (ys:List UInt8):Go.Lib.compareBytes [] (y::ys)=-1:=rfl
theorem cb_cn (y:UInt8) (ys:List UInt8):Go.Lib.compareBytes (y::ys) []=1:=rfl
theorem cmp_trans:∀ (a b c:List UInt8),Go.Lib.compareBytes a b≤0→Go.Lib.compareBytes b c≤0→Go.Lib.compareBytes a c≤0∧(Go.Lib.compareBytes a b < 0∨Go.Lib.compareBytes b c < 0→Go.Lib.compareBytes a c < 0)
 | [],[],c=>fun _ h=>⟨h,fun h=>h.elim (fun h=>absurd h (by decide)) id⟩
 | [],_::_,[]=>fun _ h=>by rw [cb_cn] at h;exact absurd h (by decide)
 | [],_::_,_::_=>fun _ _=>by rw [cb_nc];exact ⟨by decide,fun _=>by decide⟩
 | _::_,[],_=>fun h _=>by rw [cb_cn] at h;exact absurd h (by decide)
 | _::_,_::_,[]=>fun _ h=>by rw [cb_cn] at h;exact absurd h (by decide)
 | x::xs,y::ys,z::zs=>by
  rw [cb_cons,cb_cons,cb_cons]
  by_cases h1:x < y
  ·by_cases h2:y < z
   ·rw [if_pos h1,if_pos h2,if_pos (UInt8.lt_trans h1 h2)];exact fun _ _=>⟨by decide,fun _=>by decide⟩
   ·rw [if_pos h1,if_neg h2]
    by_cases h3:z < y
    ·rw [if_pos h3];exact fun _ h=>absurd h (by decide)
    ·have:=u8_tri h2 h3;subst this
     rw [if_neg h3,if_pos h1];exact fun _ _=>⟨by decide,fun _=>by decide⟩
  ·rw [if_neg h1]
   by_cases h3:y < x
   ·rw [if_pos h3];exact fun h=>absurd h (by decide)
   ·have:=u8_tri h1 h3;subst this
    rw [if_neg h3]
    by_cases h2:x < z
    ·rw [if_pos h2,if_pos h2];exact fun _ _=>⟨by decide,fun _=>by decide⟩
    ·rw [if_neg h2]
     by_cases h4:z < x
     ·rw [if_pos h4];exact fun _ h=>absurd h (by decide)
     ·rw [if_neg h4,if_neg h2,if_neg h4];exact cmp_trans xs ys zs
/-! orders -/
structure IsCmp {α:Type} (c:α→α→Int):Prop where
 range:∀ a b,c a b=-1∨c a b=0∨c a b=1
 neg:∀ a b,c b a=- c a b
 trans:∀ a b d,c a b≤0→c b d≤0→c a d≤0∧(c a b < 0∨c b d < 0→c a d < 0)
def icmp (a b:Int):Int:=if a < b then -1 else if a > b then 1 else 0
theorem icmp_is:IsCmp icmp:=by
 refine ⟨fun a b=>?_,fun a b=>?_,fun a b d=>?_⟩
 ·unfold icmp;split<;>(try split)<;>simp
 ·unfold icmp;(repeat' split)<;>omega
 ·unfold icmp;(repeat' split)<;>omega
theorem IsCmp.by {α β:Type} {c:β→β→Int} (h:IsCmp c) (f:α→β):IsCmp (fun a b=>c (f a) (f b)):=⟨fun _ _=>h.range _ _,fun _ _=>h.neg _ _,fun _ _ _=>h.trans _ _ _⟩
theorem bytes_is:IsCmp Go.Lib.compareBytes:=⟨cmp_range,cmp_neg,cmp_trans⟩
def orC {α:Type} (c d:α→α→Int) (a b:α):Int:=if c a b≠0 then c a b else d a b
theorem IsCmp.or {α:Type} {c d:α→α→Int} (h:IsCmp c) (k:IsCmp d):IsCmp (orC c d):=by
 refine ⟨fun a b=>?_,fun a b=>?_,fun x y z=>?_⟩
 ·unfold orC;split
  ·exact h.range a b
  ·exact k.range a b
 ·unfold orC
  rw [h.neg a b,k.neg a b]
  split<;>split<;>omega
 ·have t:=h.trans x y z
  have t':=h.trans z y x
  have u:=k.trans x y z
  have n1:=h.neg x y;have n2:=h.neg y z;have n3:=h.neg x z
  unfold orC
  (repeat' split)<;>omega
theorem IsCmp.refl {α:Type} {c:α→α→Int} (h:IsCmp c) (a:α):c a a=0:=by have:=h.neg a a;omega
theorem isNaN_f (a:Int):cmp_isNaN_int.f a=some false:=by unfold cmp_isNaN_int.f;simp
theorem compare_f (a b:Int):cmp_Compare_int.f a b=some (icmp a b):=by
 unfold cmp_Compare_int.f
 rw [isNaN_f,isNaN_f]
 unfold icmp
 simp only [Option.bind_some,Bool.false_eq_true,if_false,decide_eq_true_eq]
 split
 ·rfl
 ·split<;>rfl
theorem or_nz (a:List Int) (kk:Nat) (i:Nat) (hi:i < a.length) (hl:a.length≤100) (h:a[i]≠0):cmp_Or_int.l0 a (kk+1) (i:Int)=some (.inl a[i]):=by
 have e:rd a (i:Int)=a[i]:=by simp [rd,List.getD,hi]
 rw [cmp_Or_int.l0,if_pos (by simpa using hi),if_pos (by omega),e,if_pos (by simpa using h)]
theorem or_z (a:List Int) (kk:Nat) (i:Nat) (hi:i < a.length) (hl:a.length≤100) (h:a[i]=0):cmp_Or_int.l0 a (kk+1) (i:Int)=cmp_Or_int.l0 a kk ((i+1:Nat):Int):=by
 have e:rd a (i:Int)=a[i]:=by simp [rd,List.getD,hi]
 have e2:IntKind.i64.wrap ((i:Int)+1)=((i+1:Nat):Int):=by rw [IntKind.wrap_i64];omega
 rw [cmp_Or_int.l0,if_pos (by simpa using hi),if_pos (by omega),e,if_neg (by simpa using h),e2]
theorem or_e (a:List Int) (kk:Nat) (i:Nat) (h:i=a.length):cmp_Or_int.l0 a (kk+1) (i:Int)=some (.inr ()):=by
 subst h
 rw [cmp_Or_int.l0,if_neg (by simp)]
theorem or4 (k:Nat) (a b c d:Int):cmp_Or_int.f (k+5) [a,b,c,d]=some (if a≠0 then a else if b≠0 then b else if c≠0 then c else d):=by
 unfold cmp_Or_int.f
 rw [show (0:Int)=((0:Nat):Int) from rfl]
 by_cases ha:a=0
 ·rw [or_z _ _ 0 (by simp) (by simp) (by simpa using ha)]
  by_cases hb:b=0
  ·rw [or_z _ _ 1 (by simp) (by simp) (by simpa using hb)]
   by_cases hc:c=0
   ·rw [or_z _ _ 2 (by simp) (by simp) (by simpa using hc)]
    by_cases hd:d=0
    ·rw [or_z _ _ 3 (by simp) (by simp) (by simpa using hd),or_e [a,b,c,d] _ _ (by simp)]
     simp [ha,hb,hc,hd]
    ·rw [or_nz _ _ 3 (by simp) (by simp) (by simpa using hd)]
     simp [ha,hb,hc]
   ·rw [or_nz _ _ 2 (by simp) (by simp) (by simpa using hc)]
    simp [ha,hb,hc]
  ·rw [or_nz _ _ 1 (by simp) (by simp) (by simpa using hb)]
   simp [ha,hb]
 ·rw [or_nz _ _ 0 (by simp) (by simp) (by simpa using ha)]
  simp [ha]
theorem or2 (k:Nat) (a b:Int):cmp_Or_int.f (k+3) [a,b]=some (if a≠0 then a else b):=by
 unfold cmp_Or_int.f
 rw [show (0:Int)=((0:Nat):Int) from rfl]
 by_cases ha:a=0
 ·rw [or_z _ _ 0 (by simp) (by simp) (by simpa using ha)]
  by_cases hb:b=0
  ·rw [or_z _ _ 1 (by simp) (by simp) (by simpa using hb),or_e [a,b] _ _ (by simp)]
   simp [ha,hb]
  ·rw [or_nz _ _ 1 (by simp) (by simp) (by simpa using hb)]
   simp [ha]
 ·rw [or_nz _ _ 0 (by simp) (by simp) (by simpa using ha)]
  simp [ha]
def acmp:S_api_Addr→S_api_Addr→Int:=orC (fun a b=>icmp a.Size b.Size) (fun a b=>Go.Lib.compareBytes (b2s (arL 16 a.B)) (b2s (arL 16 b.B)))
theorem acmp_is:IsCmp acmp:=(icmp_is.by (fun a:S_api_Addr=>a.Size)).or (bytes_is.by (fun a:S_api_Addr=>b2s (arL 16 a.B)))
theorem acmp_f (k:Nat) (a b:S_api_Addr):addr_Compare.f (k+3) a b=some (acmp a b):=by
 unfold addr_Compare.f cursor_Order.f bytes_Compare.f
 rw [compare_f]
 simp only [Option.bind_some]
 rw [or2]
 rfl
def lenW:List S_api_Segment→Int→Int
 | [],x=>x
 | s::l,x=>lenW l (if s.Set=true then IntKind.i64.wrap (x+1) else IntKind.i64.wrap (x+(s.AS.length:Int)))
theorem length_l0 (a:List S_api_Segment) (hl:a.length≤140737488355328):∀ (m kk i:Nat) (x:Int),m+i=a.length→m < kk→decide_Length.l0 a kk x (i:Int)=some (lenW (a.drop i) x)
 | 0,kk+1,i,x,h,_=>by
  rw [decide_Length.l0,if_neg (by simp;omega),List.drop_of_length_le (by omega)]
  rfl
 | m+1,kk+1,i,x,h,hk=>by
  have hi:i < a.length:=by omega
  have e:IntKind.i64.wrap ((i:Int)+1)=((i+1:Nat):Int):=by rw [IntKind.wrap_i64];omega
  have er:rd a (i:Int)=a[i]:=by simp [rd,List.getD,hi]
  rw [decide_Length.l0,if_pos (by simpa using hi),if_pos (by omega),e,er,length_l0 a hl m kk (i+1) _ (by omega) (by omega),length_l0 a hl m kk (i+1) _ (by omega) (by omega),List.drop_eq_getElem_cons hi,lenW]
  split<;>rfl
theorem length_f (k:Nat) (a:List S_api_Segment) (hl:a.length≤140737488355328) (hk:a.length < k):decide_Length.f k a=some (lenW a 0):=by
 unfold decide_Length.f
 have:=length_l0 a hl a.length k 0 0 (by omega) hk
 rw [show ((0:Nat):Int)=(0:Int) from rfl,List.drop_zero] at this
 rw [this]
 rfl
def orI (n o:Int):Int:=if n==-1 then o else n
theorem or_f (n o:Int):decide_or.f n o=some (orI n o):=by
 unfold decide_or.f orI
 split<;>rfl
def hereI (c:S_api_Choice):Int:=if c.Peer==0 then 0 else 1
theorem here_f (c:S_api_Choice):decide_here.f c=some (hereI c):=by
 unfold decide_here.f hereI
 split<;>rfl
def tellI (c:S_api_Choice):S_api_Addr:=if c.Route.Attrs.Originator.Size != 0 then c.Route.Attrs.Originator else c.Id
theorem tell_f (c:S_api_Choice):decide_teller.f c=some (tellI c):=by
 unfold decide_teller.f tellI
 split<;>rfl
def ccmp:S_api_Choice→S_api_Choice→Int :=
 orC (fun a b=>icmp (orI b.Route.Attrs.Pref 100) (orI a.Route.Attrs.Pref 100)) (orC (fun a b=>icmp (lenW a.Route.Attrs.Path 0) (lenW b.Route.Attrs.Path 0)) (orC (fun a b=>icmp a.Route.Attrs.Origin b.Route.Attrs.Origin)
  (orC (fun a b=>icmp (orI a.Route.Attrs.Med 0) (orI b.Route.Attrs.Med 0)) (orC (fun a b=>icmp (hereI a) (hereI b)) (orC (fun a b=>acmp (tellI a) (tellI b)) (orC (fun a b=>icmp (a.Route.Attrs.Clusters.length:Int) (b.Route.Attrs.Clusters.length:Int)) (fun a b=>icmp a.Peer b.Peer)))))))
theorem IsCmp.flip {α:Type} {c:α→α→Int} (h:IsCmp c):IsCmp (fun a b=>c b a):=by
 refine ⟨fun a b=>h.range b a,fun a b=>h.neg b a,fun a b d h1 h2=>?_⟩
 have:=h.trans d b a h2 h1
 exact ⟨this.1,fun h=>this.2 h.symm⟩
theorem ccmp_is:IsCmp ccmp :=
 ((icmp_is.by fun a:S_api_Choice=>orI a.Route.Attrs.Pref 100).flip).or ((icmp_is.by fun a:S_api_Choice=>lenW a.Route.Attrs.Path 0).or ((icmp_is.by fun a:S_api_Choice=>a.Route.Attrs.Origin).or ((icmp_is.by fun a:S_api_Choice=>orI a.Route.Attrs.Med 0).or
  ((icmp_is.by hereI).or ((acmp_is.by tellI).or ((icmp_is.by fun a:S_api_Choice=>(a.Route.Attrs.Clusters.length:Int)).or (icmp_is.by fun a:S_api_Choice=>a.Peer)))))))
theorem pick8 (x1 x2 x3 x4 x5 x6 x7 x8:Int):(if ((if x1≠0 then x1 else if x2≠0 then x2 else if x3≠0 then x3 else x4) != 0)=true then some (if x1≠0 then x1 else if x2≠0 then x2 else if x3≠0 then x3 else x4)
   else some (if x5≠0 then x5 else if x6≠0 then x6 else if x7≠0 then x7 else x8)) =
  some (if x1≠0 then x1 else if x2≠0 then x2 else if x3≠0 then x3 else if x4≠0 then x4 else if x5≠0 then x5 else if x6≠0 then x6 else if x7≠0 then x7 else x8):=by
 by_cases e1:x1=0<;>by_cases e2:x2=0<;>by_cases e3:x3=0<;>by_cases e4:x4=0<;>simp [e1,e2,e3,e4]
theorem ccmp_f (k:Nat) (a b:S_api_Choice) (ha:a.Route.Attrs.Path.length≤140737488355328) (hb:b.Route.Attrs.Path.length≤140737488355328) (h1:a.Route.Attrs.Path.length < k+5) (h2:b.Route.Attrs.Path.length < k+5) :
  decide_Compare.f (k+5) a b=some (ccmp a b):=by
 unfold decide_Compare.f
 simp only [Option.bind_some,or_f,compare_f,length_f _ _ ha h1,length_f _ _ hb h2,here_f,tell_f]
 rw [or4]
 simp only [Option.bind_some]
 rw [show k+5=(k+2)+3 from rfl,acmp_f,show k+2+3=k+5 from rfl]
 simp only [Option.bind_some]
 rw [or4]
 exact pick8 _ _ _ _ _ _ _ _
/-! few -/
theorem few_l1 (a:S_api_Attrs) (hl:a.Tunnels.length≤140737488355328):∀ (m kk i:Nat),m+i=a.Tunnels.length→m < kk→∃ r,vinerylaw09_Few.l1 a kk (i:Int)=some r
 | 0,kk+1,i,h,_=>by rw [vinerylaw09_Few.l1,if_neg (by simp;omega)];exact ⟨_,rfl⟩
 | m+1,kk+1,i,h,hk=>by
  have e:IntKind.i64.wrap ((i:Int)+1)=((i+1:Nat):Int):=by rw [IntKind.wrap_i64];omega
  rw [vinerylaw09_Few.l1,if_pos (by simp;omega),if_pos (by omega),e]
  split
  ·exact ⟨_,rfl⟩
  ·exact few_l1 a hl m kk (i+1) (by omega) (by omega)
theorem few_l0 (a:S_api_Attrs) (hl:a.Path.length≤140737488355328):∀ (m kk i:Nat),m+i=a.Path.length→m < kk→∃ r,vinerylaw09_Few.l0 a kk (i:Int)=some r
 | 0,kk+1,i,h,_=>by rw [vinerylaw09_Few.l0,if_neg (by simp;omega)];exact ⟨_,rfl⟩
 | m+1,kk+1,i,h,hk=>by
  have e:IntKind.i64.wrap ((i:Int)+1)=((i+1:Nat):Int):=by rw [IntKind.wrap_i64];omega
  rw [vinerylaw09_Few.l0,if_pos (by simp;omega),if_pos (by omega),e]
  split
  ·exact ⟨_,rfl⟩
  ·exact few_l0 a hl m kk (i+1) (by omega) (by omega)
theorem Few_f (k:Nat) (a:S_api_Attrs) (h1:a.Path.length≤140737488355328) (h2:a.Tunnels.length≤140737488355328) (k1:a.Path.length < k) (k2:a.Tunnels.length < k):∃ r,vinerylaw09_Few.f k a=some r:=by
 unfold vinerylaw09_Few.f
 obtain ⟨r,hr⟩:=few_l0 a h1 a.Path.length k 0 (by omega) k1
 obtain ⟨q,hq⟩:=few_l1 a h2 a.Tunnels.length k 0 (by omega) k2
 rw [show ((0:Nat):Int)=(0:Int) from rfl] at hr hq
 rw [hr,Option.bind_some]
 cases r with
 | inl r=>exact ⟨_,rfl⟩
 | inr r =>
  simp only [hq,Option.bind_some]
  cases q with
  | inl q=>exact ⟨_,rfl⟩
  | inr q =>
   simp only
   (repeat' split)<;>exact ⟨_,rfl⟩
def fits (k:Nat) (c:S_api_Choice):Prop:=c.Route.Attrs.Path.length≤140737488355328∧c.Route.Attrs.Tunnels.length≤140737488355328∧c.Route.Attrs.Path.length < k∧c.Route.Attrs.Tunnels.length < k
theorem fewl0 (k:Nat) (l:List S_api_Choice) (hl:l.length≤140737488355328) (hf:∀ c∈l,fits k c):∀ (m kk i:Nat),m+i=l.length→m < kk→∃ r,vinerylaw16_few.l0 k l kk (i:Int)=some r
 | 0,kk+1,i,h,_=>by rw [vinerylaw16_few.l0,if_neg (by simp;omega)];exact ⟨_,rfl⟩
 | m+1,kk+1,i,h,hk=>by
  have hi:i < l.length:=by omega
  have e:IntKind.i64.wrap ((i:Int)+1)=((i+1:Nat):Int):=by rw [IntKind.wrap_i64];omega
  have er:rd l (i:Int)=l[i]:=by simp [rd,List.getD,hi]
  obtain ⟨f1,f2,f3,f4⟩:=hf l[i] (List.getElem_mem hi)
  obtain ⟨b,hb⟩:=Few_f k l[i].Route.Attrs f1 f2 f3 f4
  rw [vinerylaw16_few.l0,if_pos (by simp;omega),if_pos (by omega),e,er,hb,Option.bind_some]
  split
  ·exact ⟨_,rfl⟩
  ·exact fewl0 k l hl hf m kk (i+1) (by omega) (by omega)
theorem few_f (k:Nat) (l:List S_api_Choice) (hl:l.length≤140737488355328) (hf:∀ c∈l,fits k c) (hk:l.length < k):∃ r,vinerylaw16_few.f k l=some r:=by
 unfold vinerylaw16_few.f
 obtain ⟨r,hr⟩:=fewl0 k l hl hf l.length k 0 (by omega) hk
 rw [show ((0:Nat):Int)=(0:Int) from rfl] at hr
 rw [hr,Option.bind_some]
 cases r<;>exact ⟨_,rfl⟩
theorem ar_isB {x:List Int} (h:isB x) (i:Nat):0≤ar x i∧ar x i≤255:=by
 by_cases hj:i < x.length
 ·rw [ar_at x i hj];exact h _ (List.getElem_mem hj)
 ·have:ar x i=0:=by simp [ar,List.getD,List.getElem?_eq_none (Nat.not_lt.1 hj)]
  rw [this];decide
theorem arL_isB {x:List Int} (h:isB x) (n:Nat):isB (arL n x):=fun y hy=>by
 obtain ⟨i,_,rfl⟩:=List.mem_map.1 hy
 exact ar_isB h i
theorem dccmp_f (k:Nat) (hk:26 < k) (a b:S_api_Choice) (ha:Fit k a) (hb:Fit k b):decide_Compare.f k a b=some (ccmp a b):=by
 obtain ⟨k',rfl⟩:∃ k',k=k'+5:=⟨k - 5,by omega⟩
 exact ccmp_f k' a b ha.p hb.p ha.pk hb.pk
section
variable {α:Type}
theorem ltA_at {lt:α→α→Bool} {l:List α} {i j:Nat} {p q:α} (h1:l[i]? = some p) (h2:l[j]? = some q):ltA lt l i j=lt p q:=by unfold ltA;rw [h1,h2]
theorem gU {x u r:List α} {k i:Nat} (hi:i=x.length+k) (hk:k < u.length):(x++(u++r))[i]? = some u[k]:=by
 subst hi
 rw [List.getElem?_append_right (by omega),Nat.add_sub_cancel_left,List.getElem?_append_left hk,List.getElem?_eq_getElem hk]
theorem gV {x u v r:List α} {k i:Nat} (hi:i=x.length+u.length+k) (hk:k < v.length):(x++(u++(v++r)))[i]? = some v[k]:=by
 rw [← List.append_assoc]
 exact gU (by simp [hi]) hk
theorem pw_take {R:α→α→Prop} {v:List α} (h:v.Pairwise R) {k:Nat} (hk:k < v.length) {p:α} (hp:p∈v.take k):R p v[k]:=by
 obtain ⟨i,hi,rfl⟩:=List.mem_iff_getElem.1 hp
 rw [List.getElem_take]
 rw [List.length_take] at hi
 exact List.pairwise_iff_getElem.1 h i k (by omega) hk (by omega)
theorem pw_drop {R:α→α→Prop} {v:List α} (h:v.Pairwise R) {k:Nat} (hk:k < v.length) {p:α} (hp:p∈v.drop (k+1)):R v[k] p:=by
 obtain ⟨i,hi,rfl⟩:=List.mem_iff_getElem.1 hp
 rw [List.getElem_drop]
 rw [List.length_drop] at hi
 exact List.pairwise_iff_getElem.1 h k _ hk (by omega) (by omega)
theorem tk_last {v:List α} {k:Nat} (hk:k < v.length) {p:α} (hp:p∈v.take (k+1)):p∈v.take k∨p=v[k]:=by
 rw [List.take_succ_eq_append_getElem hk,List.mem_append,List.mem_singleton] at hp
 exact hp
theorem dr_head {v:List α} {k:Nat} (hk:k < v.length) {p:α} (hp:p∈v.drop k):p=v[k]∨p∈v.drop (k+1):=by
 rw [List.drop_eq_getElem_cons hk] at hp
 exact List.mem_cons.1 hp
theorem pw_cut {R:α→α→Prop} (tr:∀ p q r,R p q→R q r→R p r) {u v:List α} (hu:u.Pairwise R) (hv:v.Pairwise R) {k j:Nat} (hk:k≤u.length) (hj:j≤v.length)
    (h1:∀ (a:0 < k) (b:j < v.length),R (u[k - 1]'(by omega)) v[j]):∀ p∈u.take k,∀ q∈v.drop j,R p q:=by
  intro p hp q hq
  have k0 : 0 < k := by rcases Nat.eq_zero_or_pos k with e | e; · subst e; simp at hp
                        · exact e
  have jl : j < v.length := by rcases Nat.lt_or_ge j v.length with e | e; · exact e
                               · rw [List.drop_eq_nil_of_le e] at hq; simp at hq
  have b:=h1 k0 jl
  have hk1:k - 1 < u.length:=by omega
  have hp':p∈u.take (k - 1+1):=by rw [Nat.sub_add_cancel k0];exact hp
  have e1:p=u[k - 1]∨R p u[k - 1]:=by
    rcases tk_last hk1 hp' with h | h
    · exact .inr (pw_take hu hk1 h)
    · exact .inl h
  have e2:R u[k - 1] q:=by
    rcases dr_head jl hq with h | h
    · rw [h];exact b
    · exact tr _ _ _ b (pw_drop hv jl h)
  rcases e1 with h | h
  · rw [h];exact e2
  · exact tr _ _ _ h e2
theorem symF_sorted (lt:α→α→Bool) (R:α→α→Prop) (tr:∀ p q r,R p q→R q r→R p r):∀ (f:Nat) (x u v z:List α) (a m b:Nat),b - a≤f→a=x.length→m=a+u.length→b=m+v.length→u≠[]→v≠[]→u.Pairwise R→v.Pairwise R →
    (∀ p∈v,∀ q∈u,(lt p q=true→R p q)∧(lt p q=false→R q p))→∃ w,symF lt f (x++(u++(v++z))) a m b=x++(w++z)∧w.Perm (u++v)∧w.Pairwise R
  | 0,x,u,v,z,a,m,b,hf,ha,hm,hb,hu0,hv0,hu,hv,hc=>by
    have:=List.length_pos_iff.2 hu0
    omega
  | f+1,x,u,v,z,a,m,b,hf,ha,hm,hb,hu0,hv0,hu,hv,hc=>by
    have lu:=List.length_pos_iff.2 hu0
    have lv:=List.length_pos_iff.2 hv0
    unfold symF
    by_cases c1:m=a+1
    · rw [if_pos c1]
      obtain ⟨q,rfl⟩:∃ q,u=[q]:=List.length_eq_one_iff.1 (by omega)
      have sp:=bsF_spec (fun h=>ltA lt (x++([q]++(v++z))) h a) (b - m) m b (Nat.le_refl _) (by omega)
      generalize bsF (fun h=>ltA lt (x++([q]++(v++z))) h a) (b - m) m b=r at sp
      obtain ⟨s1,s2,s3,s4⟩:=sp
      have at_:∀ k (hk:k < v.length),ltA lt (x++([q]++(v++z))) (m+k) a=lt v[k] q:=fun k hk =>
        ltA_at (gV (by simp;omega) hk) (gU (u:=[q]) (k:=0) (by omega) (by simp))
      have e:=upF_split (v.take (r - m)) x q (v.drop (r - m)++z) a ha
      rw [show v.take (r - m)++(v.drop (r - m)++z)=v++z by rw [← List.append_assoc,List.take_append_drop],List.length_take,Nat.min_eq_left (by omega)] at e
      refine ⟨v.take (r - m)++q::v.drop (r - m),?_,?_,?_⟩
      · rw [show r - 1 - a=r - m by omega]
        simpa using e
      · refine (List.perm_middle).trans ?_
        rw [List.take_append_drop];exact List.Perm.refl _
      · rw [List.pairwise_append,List.pairwise_cons]
        have hq1:∀ p∈v.take (r - m),R p q:=by
          intro p hp
          have k0 : 0 < r - m := by rcases Nat.eq_zero_or_pos (r - m) with e | e; · rw [e] at hp; simp at hp
                                    · exact e
          have hl:r - m - 1 < v.length:=by omega
          have b1:=s3 (by omega)
          rw [show r - 1=m+(r - m - 1) by omega,at_ _ hl] at b1
          have b2:=(hc _ (List.getElem_mem hl) q (by simp)).1 b1
          rcases tk_last hl (show p∈v.take (r - m - 1+1) by rw [Nat.sub_add_cancel k0];exact hp) with h | h
          · exact tr _ _ _ (pw_take hv hl h) b2
          · rw [h];exact b2
        have hq2:∀ p∈v.drop (r - m),R q p:=by
          intro p hp
          have hl : r - m < v.length := by rcases Nat.lt_or_ge (r - m) v.length with e | e; · exact e
                                           · rw [List.drop_eq_nil_of_le e] at hp; simp at hp
          have b1:=s4 (by omega)
          rw [show r=m+(r - m) by omega,at_ _ hl] at b1
          have b2:=(hc _ (List.getElem_mem hl) q (by simp)).2 b1
          rcases dr_head hl hp with h | h
          · rw [h];exact b2
          · exact tr _ _ _ b2 (pw_drop hv hl h)
        refine ⟨hv.sublist (List.take_sublist _ _),⟨hq2,hv.sublist (List.drop_sublist _ _)⟩,fun p hp r' hr=>?_⟩
        rcases List.mem_cons.1 hr with h | h
        · rw [h];exact hq1 p hp
        · exact tr _ _ _ (hq1 p hp) (hq2 r' h)
    rw [if_neg c1]
    by_cases c2:b=m+1
    · rw [if_pos c2]
      obtain ⟨q,rfl⟩:∃ q,v=[q]:=List.length_eq_one_iff.1 (by omega)
      have sp:=bsF_spec (fun h=>!ltA lt (x++(u++([q]++z))) m h) (m - a) a m (Nat.le_refl _) (by omega)
      generalize bsF (fun h=>!ltA lt (x++(u++([q]++z))) m h) (m - a) a m=r at sp
      obtain ⟨s1,s2,s3,s4⟩:=sp
      have at_:∀ k (hk:k < u.length),ltA lt (x++(u++([q]++z))) m (a+k)=lt q u[k]:=fun k hk =>
        ltA_at (gV (v:=[q]) (k:=0) (by omega) (by simp)) (gU (by omega) hk)
      have e:=dnF_split (m - r) (x++u.take (r - a)) (u.drop (r - a)) q z m (by simp;omega) (by simp;omega)
      rw [show x++u.take (r - a)++(u.drop (r - a)++q::z)=x++(u++q::z) by rw [List.append_assoc,← List.append_assoc (u.take _),List.take_append_drop]] at e
      refine ⟨u.take (r - a)++q::u.drop (r - a),?_,?_,?_⟩
      · simpa using e
      · refine List.perm_middle.trans ?_
        rw [List.take_append_drop]
        exact (List.perm_append_comm (l₁:=[q]) (l₂:=u))
      · rw [List.pairwise_append,List.pairwise_cons]
        have hq1:∀ p∈u.take (r - a),R p q:=by
          intro p hp
          have k0 : 0 < r - a := by rcases Nat.eq_zero_or_pos (r - a) with e | e; · rw [e] at hp; simp at hp
                                    · exact e
          have hl:r - a - 1 < u.length:=by omega
          have b1:=s3 (by omega)
          rw [show r - 1=a+(r - a - 1) by omega,at_ _ hl] at b1
          have b2:=(hc q (by simp) _ (List.getElem_mem hl)).2 (by simpa using b1)
          rcases tk_last hl (show p∈u.take (r - a - 1+1) by rw [Nat.sub_add_cancel k0];exact hp) with h | h
          · exact tr _ _ _ (pw_take hu hl h) b2
          · rw [h];exact b2
        have hq2:∀ p∈u.drop (r - a),R q p:=by
          intro p hp
          have hl : r - a < u.length := by rcases Nat.lt_or_ge (r - a) u.length with e | e; · exact e
                                           · rw [List.drop_eq_nil_of_le e] at hp; simp at hp
          have b1:=s4 (by omega)
          rw [show r=a+(r - a) by omega,at_ _ hl] at b1
          have b2:=(hc q (by simp) _ (List.getElem_mem hl)).1 (by simpa using b1)
          rcases dr_head hl hp with h | h
          · rw [h];exact b2
          · exact tr _ _ _ b2 (pw_drop hu hl h)
        refine ⟨hu.sublist (List.take_sublist _ _),⟨hq2,hu.sublist (List.drop_sublist _ _)⟩,fun p hp r' hr=>?_⟩
        rcases List.mem_cons.1 hr with h | h
        · rw [h];exact hq1 p hp
        · exact tr _ _ _ (hq1 p hp) (hq2 r' h)
    rw [if_neg c2]
    have hmid:∃ d,d=(a+b) / 2:=⟨_,rfl⟩
    obtain ⟨d,hd⟩:=hmid
    have d1:a+b - 1≤2*d:=by omega
    have d2:2*d≤a+b:=by omega
    have sp:=bsF_spec (fun c=>!ltA lt (x++(u++(v++z))) (d+m - 1 - c) c) (b - a) (if d < m then d+m - b else a) (if d < m then d else m) (by split<;>omega) (by split<;>omega)
    have hs:symS lt (x++(u++(v++z))) a m b=bsF (fun c=>!ltA lt (x++(u++(v++z))) (d+m - 1 - c) c) (b - a) (if d < m then d+m - b else a) (if d < m then d else m):=by rw [hd];rfl
    rw [← hs] at sp
    simp only [← hd]
    generalize symS lt (x++(u++(v++z))) a m b=s at sp
    clear hs
    obtain ⟨s1,s2,s3,s4⟩:=sp
    have r1:a≤s:=by split at s1<;>omega
    have r2:s≤m:=by split at s2<;>omega
    have r3:m≤d+m - s:=by split at s2<;>omega
    have r4:d+m - s≤b:=by split at s1<;>omega
    have at_:∀ k (hk:k < u.length) j (hj:j < v.length),a+k+(m+j)=d+m - 1→ltA lt (x++(u++(v++z))) (d+m - 1 - (a+k)) (a+k)=lt v[j] u[k]:=fun k hk j hj he =>
      ltA_at (gV (by omega) hj) (gU (by omega) hk)
    have x1:∀ p∈v.take (d - s),∀ q∈u.drop (s - a),R p q:=by
      refine pw_cut tr hv hu (by omega) (by omega) fun k0 hl=>?_
      have hs4:=s4 (by split<;>omega)
      have hj:d - s - 1 < v.length:=by omega
      have:=at_ (s - a) hl (d - s - 1) hj (by omega)
      rw [show a+(s - a)=s by omega] at this
      rw [this] at hs4
      exact (hc _ (List.getElem_mem _) _ (List.getElem_mem _)).1 (by simpa using hs4)
    have x2:∀ p∈u.take (s - a),∀ q∈v.drop (d - s),R p q:=by
      refine pw_cut tr hu hv (by omega) (by omega) fun k0 hl=>?_
      have hs3:=s3 (by split<;>omega)
      have:=at_ (s - a - 1) (by omega) (d - s) hl (by omega)
      rw [show a+(s - a - 1)=s - 1 by omega] at this
      rw [this] at hs3
      exact (hc _ (List.getElem_mem _) _ (List.getElem_mem _)).2 (by simpa using hs3)
    have lu1:(u.take (s - a)).length=s - a:=by simp;omega
    have lu2:(u.drop (s - a)).length=m - s:=by simp;omega
    have lv1:(v.take (d - s)).length=d - s:=by simp;omega
    have lv2:(v.drop (d - s)).length=b - m - (d - s):=by simp;omega
    have eu:u.take (s - a)++u.drop (s - a)=u:=List.take_append_drop _ _
    have ev':v.take (d - s)++v.drop (d - s)=v:=List.take_append_drop _ _
    have pu1:(u.take (s - a)).Pairwise R:=hu.sublist (List.take_sublist _ _)
    have pu2:(u.drop (s - a)).Pairwise R:=hu.sublist (List.drop_sublist _ _)
    have pv1:(v.take (d - s)).Pairwise R:=hv.sublist (List.take_sublist _ _)
    have pv2:(v.drop (d - s)).Pairwise R:=hv.sublist (List.drop_sublist _ _)
    have x3:∀ p∈u.take (s - a),∀ q∈u.drop (s - a),R p q:=by rw [← eu,List.pairwise_append] at hu;exact hu.2.2
    have x4:∀ p∈v.take (d - s),∀ q∈v.drop (d - s),R p q:=by rw [← ev',List.pairwise_append] at hv;exact hv.2.2
    have c11:∀ p∈v.take (d - s),∀ q∈u.take (s - a),(lt p q=true→R p q)∧(lt p q=false→R q p):=fun p hp q hq=>hc p (List.mem_of_mem_take hp) q (List.mem_of_mem_take hq)
    have c22:∀ p∈v.drop (d - s),∀ q∈u.drop (s - a),(lt p q=true→R p q)∧(lt p q=false→R q p):=fun p hp q hq=>hc p (List.mem_of_mem_drop hp) q (List.mem_of_mem_drop hq)
    have hl1:(if s < m∧m < d+m - s then rotF (d+m - s - s) (x++(u++(v++z))) m (m - s) (d+m - s - m) else x++(u++(v++z)))=x++(u.take (s - a)++(v.take (d - s)++(u.drop (s - a)++(v.drop (d - s)++z)))):=by
      have e0:x++(u++(v++z))=(x++u.take (s - a))++(u.drop (s - a)++(v.take (d - s)++(v.drop (d - s)++z))):=by
        rw [← List.append_assoc (v.take _),ev',← List.append_assoc (x++_),List.append_assoc x,eu,List.append_assoc]
      split
      · rename_i hh
        rw [e0,rotF_split (d+m - s - s) (x++u.take (s - a)) (u.drop (s - a)) (v.take (d - s)) _ m (m - s) (d+m - s - m) (by omega) (by omega) (by omega) lu2 (by omega) (by simp;omega)]
        simp only [List.append_assoc]
      · rename_i hh
        rw [e0,List.append_assoc]
        have:u.drop (s - a)=[]∨v.take (d - s)=[]:=by
          rcases Nat.lt_or_ge s m with h | h
          · exact .inr (List.eq_nil_of_length_eq_zero (by omega))
          · exact .inl (List.eq_nil_of_length_eq_zero (by omega))
        rcases this with h | h<;>rw [h]<;>simp
    rw [hl1]
    generalize u.take (s - a)=u1 at *
    generalize u.drop (s - a)=u2 at *
    generalize v.take (d - s)=v1 at *
    generalize v.drop (d - s)=v2 at *
    have hl2:∃ w1,(if a < s∧s < d then symF lt f (x++(u1++(v1++(u2++(v2++z))))) a s d else x++(u1++(v1++(u2++(v2++z)))))=x++(w1++(u2++(v2++z)))∧w1.Perm (u1++v1)∧w1.Pairwise R:=by
      split
      · rename_i hh
        exact symF_sorted lt R tr f x u1 v1 (u2++(v2++z)) a s d (by omega) ha (by omega) (by omega) (List.ne_nil_of_length_pos (by omega)) (List.ne_nil_of_length_pos (by omega)) pu1 pv1 c11
      · rename_i hh
        refine ⟨u1++v1,by simp,.refl _,?_⟩
        have:u1=[]∨v1=[]:=by
          rcases Nat.lt_or_ge a s with h | h
          · exact .inr (List.eq_nil_of_length_eq_zero (by omega))
          · exact .inl (List.eq_nil_of_length_eq_zero (by omega))
        rcases this with h | h
        · rw [h];exact pv1
        · rw [h,List.append_nil];exact pu1
    obtain ⟨w1,hw1,pm1,pw1⟩:=hl2
    rw [hw1]
    have lw1:w1.length=d - a:=by rw [pm1.length_eq,List.length_append];omega
    have hl3:∃ w2,(if d < d+m - s∧d+m - s < b then symF lt f (x++(w1++(u2++(v2++z)))) d (d+m - s) b else x++(w1++(u2++(v2++z))))=x++(w1++(w2++z))∧w2.Perm (u2++v2)∧w2.Pairwise R:=by
      split
      · rename_i hh
        obtain ⟨w2,e2,pm2,pw2⟩:=symF_sorted lt R tr f (x++w1) u2 v2 z d (d+m - s) b (by omega) (by simp;omega) (by omega) (by omega) (List.ne_nil_of_length_pos (by omega)) (List.ne_nil_of_length_pos (by omega)) pu2 pv2 c22
        exact ⟨w2,by simpa using e2,pm2,pw2⟩
      · rename_i hh
        refine ⟨u2++v2,by simp,.refl _,?_⟩
        have:u2=[]∨v2=[]:=by
          rcases Nat.lt_or_ge d (d+m - s) with h | h
          · exact .inr (List.eq_nil_of_length_eq_zero (by omega))
          · exact .inl (List.eq_nil_of_length_eq_zero (by omega))
        rcases this with h | h
        · rw [h];exact pv2
        · rw [h,List.append_nil];exact pu2
    obtain ⟨w2,hw2,pm2,pw2⟩:=hl3
    rw [hw2]
    refine ⟨w1++w2,by simp,?_,?_⟩
    · refine (pm1.append pm2).trans ?_
      rw [← eu,← ev']
      have:(u1++v1++(u2++v2)).Perm (u1++u2++(v1++v2)):=by
        simp only [List.append_assoc]
        refine List.Perm.append_left u1 ?_
        simp only [← List.append_assoc]
        exact List.Perm.append_right v2 List.perm_append_comm
      exact this
    · rw [List.pairwise_append]
      refine ⟨pw1,pw2,fun p hp q hq=>?_⟩
      have hp':=pm1.mem_iff.1 hp
      have hq':=pm2.mem_iff.1 hq
      rw [List.mem_append] at hp' hq'
      rcases hp' with hp' | hp'<;>rcases hq' with hq' | hq'
      · exact x3 p hp' q hq'
      · exact x2 p hp' q hq'
      · exact x1 p hp' q hq'
      · exact x4 p hp' q hq'
end
section
variable {α β:Type}
theorem insJ_sorted (lt:α→α→Bool) (R:α→α→Prop) (tr:∀ p q r,R p q→R q r→R p r):∀ (j:Nat) (x p:List α) (q:α) (z:List α) (a:Nat),a=x.length→j=a+p.length→p.Pairwise R→(∀ y∈p,(lt q y=true→R q y)∧(lt q y=false→R y q)) →
  ∃ w,insJ lt (x++(p++q::z)) a j=x++(w++z)∧w.Perm (p++[q])∧w.Pairwise R
 | 0,x,p,q,z,a,ha,hj,hp,hc=>by
  have:p=[]:=List.eq_nil_of_length_eq_zero (by omega)
  subst this
  exact ⟨[q],rfl,.refl _,by simp⟩
 | j+1,x,p,q,z,a,ha,hj,hp,hc=>by
  unfold insJ
  rcases List.eq_nil_or_concat p with rfl | ⟨p',y,rfl⟩
  ·rw [if_neg (by simp at hj ⊢;omega)]
   exact ⟨[q],rfl,.refl _,by simp⟩
  ·simp only [List.concat_eq_append] at *
   have hl:p'.length=j - a:=by simp at hj;omega
   have aj:a≤j:=by simp at hj;omega
   have e1:ltA lt (x++(p'++[y]++q::z)) (j+1) j=lt q y:=by
    refine ltA_at ?_ ?_
    ·have:=gV (x:=x) (u:=p'++[y]) (v:=[q]) (r:=z) (k:=0) (i:=j+1) (by simp;omega) (by simp)
     simpa using this
    ·have:=gU (x:=x++p') (u:=[y]) (r:=q::z) (k:=0) (i:=j) (by simp;omega) (by simp)
     simpa using this
   rw [e1]
   have hc1:=hc y (by simp)
   rw [List.pairwise_append] at hp
   cases h:lt q y with
   | true =>
    rw [if_pos (by simp;omega)]
    have e2:swp (x++(p'++[y]++q::z)) (j+1) j=x++(p'++q::(y::z)):=by
     have:=swp_split' (x++p') y q z (j+1) j (by simp;omega) (by simp;omega)
     simpa using this
    rw [e2]
    obtain ⟨w,e3,pm,pw⟩:=insJ_sorted lt R tr j x p' q (y::z) a ha (by omega) hp.1 (fun y' hy'=>hc y' (by simp [hy']))
    refine ⟨w++[y],by rw [e3];simp,?_,?_⟩
    ·refine (pm.append_right [y]).trans ?_
     simp only [List.append_assoc]
     exact List.Perm.append_left p' List.perm_append_comm
    ·rw [List.pairwise_append]
     refine ⟨pw,by simp,fun u hu v hv=>?_⟩
     rw [List.mem_singleton] at hv
     subst hv
     rcases List.mem_append.1 (pm.mem_iff.1 hu) with h' | h'
     ·exact hp.2.2 u h' v (by simp)
     ·rw [List.mem_singleton] at h';rw [h'];exact hc1.1 h
   | false =>
    rw [if_neg (by simp)]
    refine ⟨p'++[y]++[q],by simp,.refl _,?_⟩
    rw [List.pairwise_append]
    refine ⟨by rw [List.pairwise_append];exact hp,by simp,fun u hu v hv=>?_⟩
    rw [List.mem_singleton] at hv
    subst hv
    exact match List.mem_append.1 hu with
    | .inl h'=>tr _ _ _ (hp.2.2 u h' y (by simp)) (hc1.2 h)
    | .inr h'=>by rw [List.mem_singleton] at h';rw [h'];exact hc1.2 h
theorem insI_sorted (lt:α→α→Bool) (R:α→α→Prop) (tr:∀ p q r,R p q→R q r→R p r):∀ (n:Nat) (x p r z:List α) (a i:Nat),a=x.length→i=a+p.length→n=r.length→p.Pairwise R →
  (∀ y∈p,∀ q∈r,(lt q y=true→R q y)∧(lt q y=false→R y q))→r.Pairwise (fun y q=>(lt q y=true→R q y)∧(lt q y=false→R y q)) →
  ∃ w,insI lt a n (x++(p++(r++z))) i=x++(w++z)∧w.Perm (p++r)∧w.Pairwise R
 | 0,x,p,r,z,a,i,ha,hi,hn,hp,hc,hr=>by
  have:r=[]:=List.eq_nil_of_length_eq_zero (by omega)
  subst this
  exact ⟨p,rfl,by simp,hp⟩
 | n+1,x,p,q::r,z,a,i,ha,hi,hn,hp,hc,hr=>by
  unfold insI
  obtain ⟨w,e,pm,pw⟩:=insJ_sorted lt R tr i x p q (r++z) a ha hi hp (fun y hy=>hc y hy q (by simp))
  rw [List.cons_append,e]
  rw [List.pairwise_cons] at hr
  obtain ⟨w',e',pm',pw'⟩:=insI_sorted lt R tr n x w r z a (i+1) ha (by rw [pm.length_eq];simp;omega) (by simpa using hn) pw (fun y hy q' hq'=>by
   rcases List.mem_append.1 (pm.mem_iff.1 hy) with h | h
   ·exact hc y h q' (by simp [hq'])
   ·rw [List.mem_singleton] at h;rw [h];exact hr.1 q' hq') hr.2
  refine ⟨w',e',pm'.trans ?_,pw'⟩
  refine (pm.append_right r).trans ?_
  simp
theorem stF_sorted (lt:α→α→Bool) (R:α→α→Prop) (tr:∀ p q r,R p q→R q r→R p r) (l:List α) (hl:l.Pairwise (fun y q=>(lt q y=true→R q y)∧(lt q y=false→R y q))) :
  (stF lt l).Perm l∧(stF lt l).Pairwise R:=by
 have one:∀ (m:List α) (x z:List α) (a i:Nat),m.Pairwise (fun y q=>(lt q y=true→R q y)∧(lt q y=false→R y q))→a=x.length→i=a+1→∃ w,insI lt a (m.length - 1) (x++(m++z)) i=x++(w++z)∧w.Perm m∧w.Pairwise R:=by
  intro m x z a i hm ha hi
  cases m with
  | nil=>exact ⟨[],rfl,.refl _,.nil⟩
  | cons y m =>
   rw [List.pairwise_cons] at hm
   have:=insI_sorted lt R tr m.length x [y] m z a i ha (by simp [hi]) rfl (by simp) (fun y' hy' q hq=>by rw [List.mem_singleton] at hy';rw [hy'];exact hm.1 q hq) hm.2
   simpa using this
 unfold stF
 split
 ·obtain ⟨w,e,pm,pw⟩:=one l [] [] 0 1 hl rfl rfl
  simp only [List.nil_append,List.append_nil] at e
  rw [e]
  exact ⟨pm,pw⟩
 ·rename_i h20
  have el:l.take 20++l.drop 20=l:=List.take_append_drop _ _
  have hl':=hl
  rw [← el,List.pairwise_append] at hl'
  obtain ⟨w1,e1,pm1,pw1⟩:=one (l.take 20) [] (l.drop 20) 0 1 hl'.1 rfl rfl
  rw [List.nil_append,List.nil_append,el,show (l.take 20).length - 1=19 by simp;omega] at e1
  have l1:w1.length=20:=by rw [pm1.length_eq];simp;omega
  obtain ⟨w2,e2,pm2,pw2⟩:=one (l.drop 20) w1 [] 20 21 hl'.2.1 l1.symm rfl
  rw [List.append_nil,List.append_nil,show (l.drop 20).length - 1=l.length - 21 by simp;omega] at e2
  have l2:w2.length=l.length - 20:=by rw [pm2.length_eq];simp
  simp only [e1,e2]
  have pm12:(w1++w2).Perm l:=by
   have:=pm1.append pm2
   rwa [el] at this
  split
  ·rename_i h21
   have:=symF_sorted lt R tr l.length [] w1 w2 [] 0 20 l.length (by omega) rfl (by omega) (by omega) (List.ne_nil_of_length_pos (by omega)) (List.ne_nil_of_length_pos (by omega)) pw1 pw2 (fun p hp q hq=>hl'.2.2 q (pm1.mem_iff.1 hq) p (pm2.mem_iff.1 hp))
   obtain ⟨w,e,pm,pw⟩:=this
   simp only [List.nil_append,List.append_nil] at e
   rw [e]
   exact ⟨pm.trans pm12,pw⟩
  ·have:w2=[]:=List.eq_nil_of_length_eq_zero (by omega)
   subst this
   rw [List.append_nil] at pm12 ⊢
   exact ⟨pm12,pw1⟩
/-! the reference: each one is put behind all that are not worse -/
def refK (lt:α→α→Bool) (out:List α) (q:α):Nat→Nat
 | 0=>0
 | k+1=>if out[k]?.any (lt q) then refK lt out q k else k+1
def refI (lt:α→α→Bool) (out:List α) (q:α):List α:=out.take (refK lt out q out.length)++q::out.drop (refK lt out q out.length)
def refS (lt:α→α→Bool) (l:List α):List α:=l.foldl (refI lt) []
theorem refK_le (lt:α→α→Bool) (out:List α) (q:α):∀ k,refK lt out q k≤k
 | 0=>Nat.le_refl _
 | k+1=>by
  have:=refK_le lt out q k
  unfold refK
  split<;>omega
theorem refK_map (f:α→β) (lt:β→β→Bool) (out:List α) (q:α):∀ k,refK lt (out.map f) (f q) k=refK (fun x y=>lt (f x) (f y)) out q k
 | 0=>rfl
 | k+1=>by
  unfold refK
  rw [List.getElem?_map,refK_map f lt out q k]
  cases out[k]? <;> rfl
theorem refI_map (f:α→β) (lt:β→β→Bool) (out:List α) (q:α):refI lt (out.map f) (f q)=(refI (fun x y=>lt (f x) (f y)) out q).map f:=by
 unfold refI
 rw [List.length_map,refK_map]
 simp
theorem refS_map' (f:α→β) (lt:β→β→Bool):∀ (l out:List α),(l.map f).foldl (refI lt) (out.map f)=(l.foldl (refI fun x y=>lt (f x) (f y)) out).map f
 | [],_=>rfl
 | q::l,out=>by rw [List.map_cons,List.foldl_cons,List.foldl_cons,refI_map,refS_map' f lt l]
theorem refS_map (f:α→β) (lt:β→β→Bool) (l:List α):refS lt (l.map f)=(refS (fun x y=>lt (f x) (f y)) l).map f:=refS_map' f lt l []
theorem refK_spec (lt:α→α→Bool) (out:List α) (q:α):∀ k,k≤out.length→(∀ j (hj:j < out.length),refK lt out q k≤j→j < k→lt q out[j]=true)∧(∀ h:0 < refK lt out q k,∀ hl:refK lt out q k - 1 < out.length,lt q (out[refK lt out q k - 1])=false)
 | 0,_=>⟨fun j hj h1 h2=>absurd h2 (Nat.not_lt_zero _),fun h=>absurd h (Nat.lt_irrefl _)⟩
 | k+1,hk=>by
  have hg:out[k]? = some out[k]:=List.getElem?_eq_getElem (by omega)
  have ih:=refK_spec lt out q k (by omega)
  by_cases h:lt q out[k]=true
  ·have e:refK lt out q (k+1)=refK lt out q k:=by simp [refK,hg,h]
   rw [e]
   refine ⟨fun j hj h1 h2=>?_,ih.2⟩
   rcases Nat.lt_or_ge j k with h3 | h3
   ·exact ih.1 j hj h1 h3
   ·have:j=k:=by omega
    subst this;exact h
  ·have e:refK lt out q (k+1)=k+1:=by simp [refK,hg,h]
   rw [e]
   exact ⟨fun j hj h1 h2=>by omega,fun _ _=>by simpa using h⟩
theorem refI_sorted (lt:α→α→Bool) (R:α→α→Prop) (tr:∀ p q r,R p q→R q r→R p r) (out:List α) (q:α) (ho:out.Pairwise R) (hc:∀ y∈out,(lt q y=true→R q y)∧(lt q y=false→R y q)):(refI lt out q).Perm (out++[q])∧(refI lt out q).Pairwise R:=by
  have le:=refK_le lt out q out.length
  obtain ⟨s1,s2⟩:=refK_spec lt out q out.length (Nat.le_refl _)
  unfold refI
  generalize refK lt out q out.length=k at *
  refine ⟨?_,?_⟩
  · refine List.perm_middle.trans ?_
    rw [List.take_append_drop]
    exact (List.perm_append_comm (l₁:=[q]) (l₂:=out))
  · rw [List.pairwise_append,List.pairwise_cons]
    have h1:∀ p∈out.take k,R p q:=by
      intro p hp
      have k0 : 0 < k := by rcases Nat.eq_zero_or_pos k with e | e; · rw [e] at hp; simp at hp
                            · exact e
      have hl:k - 1 < out.length:=by omega
      have b:=(hc _ (List.getElem_mem hl)).2 (s2 k0 hl)
      rcases tk_last hl (show p∈out.take (k - 1+1) by rw [Nat.sub_add_cancel k0];exact hp) with h | h
      · exact tr _ _ _ (pw_take ho hl h) b
      · rw [h];exact b
    have h2:∀ p∈out.drop k,R q p:=by
      intro p hp
      obtain ⟨i,hi,rfl⟩:=List.mem_iff_getElem.1 hp
      rw [List.getElem_drop]
      rw [List.length_drop] at hi
      exact (hc _ (List.getElem_mem _)).1 (s1 (k+i) (by omega) (by omega) (by omega))
    refine ⟨ho.sublist (List.take_sublist _ _),⟨h2,ho.sublist (List.drop_sublist _ _)⟩,fun p hp r hr=>?_⟩
    rcases List.mem_cons.1 hr with h | h
    · rw [h];exact h1 p hp
    · exact tr _ _ _ (h1 p hp) (h2 r h)
theorem refS_sorted' (lt:α→α→Bool) (R:α→α→Prop) (tr:∀ p q r,R p q→R q r→R p r):∀ (l out:List α),out.Pairwise R→(∀ y∈out,∀ q∈l,(lt q y=true→R q y)∧(lt q y=false→R y q))→l.Pairwise (fun y q=>(lt q y=true→R q y)∧(lt q y=false→R y q)) →
  (l.foldl (refI lt) out).Perm (out++l)∧(l.foldl (refI lt) out).Pairwise R
 | [],out,ho,hc,hl=>by simp [ho]
 | q::l,out,ho,hc,hl=>by
  rw [List.pairwise_cons] at hl
  obtain ⟨pm,pw⟩:=refI_sorted lt R tr out q ho (fun y hy=>hc y hy q (by simp))
  obtain ⟨pm',pw'⟩:=refS_sorted' lt R tr l (refI lt out q) pw (fun y hy q' hq'=>by
   rcases List.mem_append.1 (pm.mem_iff.1 hy) with h | h
   ·exact hc y h q' (by simp [hq'])
   ·rw [List.mem_singleton] at h;rw [h];exact hl.1 q' hq') hl.2
  refine ⟨?_,pw'⟩
  rw [List.foldl_cons]
  refine pm'.trans ((pm.append_right l).trans ?_)
  simp
theorem refS_sorted (lt:α→α→Bool) (R:α→α→Prop) (tr:∀ p q r,R p q→R q r→R p r) (l:List α) (hl:l.Pairwise (fun y q=>(lt q y=true→R q y)∧(lt q y=false→R y q))):(refS lt l).Perm l∧(refS lt l).Pairwise R:=by
 have:=refS_sorted' lt R tr l [] .nil (fun y hy=>by simp at hy) hl
 rw [List.nil_append] at this
 exact this
theorem perm_uniq {R:α→α→Prop} (asy:∀ p q,R p q→R q p→False):∀ {a b:List α},a.Perm b→a.Pairwise R→b.Pairwise R→a=b
 | [],b,h,_,_=>(List.nil_perm.1 h).symm
 | p::a,[],h,_,_=>absurd h.length_eq (by simp)
 | p::a,q::b,h,ha,hb=>by
  rw [List.pairwise_cons] at ha hb
  have hp:p∈q::b:=h.mem_iff.1 (by simp)
  have hq:q∈p::a:=h.mem_iff.2 (by simp)
  have e:p=q:=by
   rcases List.mem_cons.1 hp with h1 | h1
   ·exact h1
   ·rcases List.mem_cons.1 hq with h2 | h2
    ·exact h2.symm
    ·exact (asy _ _ (ha.1 q h2) (hb.1 p h1)).elim
  subst e
  rw [perm_uniq asy (List.perm_cons p |>.1 h) ha.2 hb.2]
structure Ord3 (c:α→α→Int):Prop where
 neg:∀ x y,c y x=- c x y
 lt:∀ x y z,c x y < 0→c y z < 0→c x z < 0
 el:∀ x y z,c x y=0→c y z < 0→c x z < 0
 le:∀ x y z,c x y < 0→c y z=0→c x z < 0
 ee:∀ x y z,c x y=0→c y z=0→c x z=0
def tagR (c:α→α→Int) (p q:α×Nat):Prop:=c p.1 q.1 < 0∨(c p.1 q.1=0∧p.2 < q.2)
theorem tag_pw (c:α→α→Int) (hc:Ord3 c) (l:List α) (n:Nat):(l.zipIdx n).Pairwise (fun y q=>((fun p q:α×Nat=>decide (c p.1 q.1 < 0)) q y=true→tagR c q y)∧((fun p q:α×Nat=>decide (c p.1 q.1 < 0)) q y=false→tagR c y q)):=by
 rw [List.pairwise_iff_getElem]
 intro i j hi hj hij
 have hi':i < l.length:=by simpa using hi
 have hj':j < l.length:=by simpa using hj
 simp only [List.getElem_zipIdx,decide_eq_true_eq,decide_eq_false_iff_not,tagR]
 refine ⟨fun h=>.inl h,fun h=>?_⟩
 have:=hc.neg l[j] l[i]
 rcases Int.lt_trichotomy (c l[j] l[i]) 0 with h1 | h1 | h1
 ·exact absurd h1 h
 ·exact .inr ⟨by omega,by omega⟩
 ·exact .inl (by omega)
theorem tag_tr (c:α→α→Int) (hc:Ord3 c):∀ p q r,tagR c p q→tagR c q r→tagR c p r:=by
 rintro p q r (h1 | ⟨h1,e1⟩) (h2 | ⟨h2,e2⟩)
 ·exact .inl (hc.lt _ _ _ h1 h2)
 ·exact .inl (hc.le _ _ _ h1 h2)
 ·exact .inl (hc.el _ _ _ h1 h2)
 ·exact .inr ⟨hc.ee _ _ _ h1 h2,by omega⟩
theorem tag_as (c:α→α→Int) (hc:Ord3 c):∀ p q,tagR c p q→tagR c q p→False:=by
 intro p q
 have:=hc.neg p.1 q.1
 rintro (h1 | ⟨h1,e1⟩) (h2 | ⟨h2,e2⟩)<;>omega
theorem st_ref (c:α→α→Int) (hc:Ord3 c) (l:List α):stF (fun x y=>decide (c x y < 0)) l=refS (fun x y=>decide (c x y < 0)) l:=by
 obtain ⟨p1,w1⟩:=stF_sorted (fun p q:α×Nat=>decide (c p.1 q.1 < 0)) (tagR c) (tag_tr c hc) l.zipIdx (tag_pw c hc l 0)
 obtain ⟨p2,w2⟩:=refS_sorted (fun p q:α×Nat=>decide (c p.1 q.1 < 0)) (tagR c) (tag_tr c hc) l.zipIdx (tag_pw c hc l 0)
 have e:=perm_uniq (tag_as c hc) (p1.trans p2.symm) w1 w2
 have m1:=stF_map (Prod.fst:α×Nat→α) (fun x y=>decide (c x y < 0)) l.zipIdx
 have m2:=refS_map (Prod.fst:α×Nat→α) (fun x y=>decide (c x y < 0)) l.zipIdx
 rw [List.zipIdx_map_fst] at m1 m2
 rw [m1,m2,e]
theorem refS_head (c:α→α→Int) (hc:Ord3 c) (l:List α) (n:Nat) (hn:n < l.length) (hb:∀ i (hi:i < l.length),c l[n] l[i] < 0∨(c l[n] l[i]=0∧n≤i)):∃ r,refS (fun x y=>decide (c x y < 0)) l=l[n]::r:=by
 obtain ⟨p2,w2⟩:=refS_sorted (fun p q:α×Nat=>decide (c p.1 q.1 < 0)) (tagR c) (tag_tr c hc) l.zipIdx (tag_pw c hc l 0)
 have m2:=refS_map (Prod.fst:α×Nat→α) (fun x y=>decide (c x y < 0)) l.zipIdx
 rw [List.zipIdx_map_fst] at m2
 rw [m2]
 generalize refS (fun p q:α×Nat=>decide (c p.1 q.1 < 0)) l.zipIdx=s at *
 have hmem:(l[n],n)∈s:=p2.mem_iff.2 (by rw [List.mem_iff_getElem];exact ⟨n,by simpa using hn,by simp⟩)
 cases s with
 | nil=>simp at hmem
 | cons y s =>
  refine ⟨s.map Prod.fst,?_⟩
  rw [List.map_cons]
  rcases List.mem_cons.1 hmem with h | h
  ·rw [← h]
  ·exfalso
   have h1:=(List.pairwise_cons.1 w2).1 _ h
   have hy:y∈l.zipIdx:=p2.mem_iff.1 (by simp)
   obtain ⟨i,hi,rfl⟩:=List.mem_iff_getElem.1 hy
   have hi':i < l.length:=by simpa using hi
   simp only [List.getElem_zipIdx,tagR,Nat.zero_add] at h1
   have hbi:=hb i hi'
   have ng:=hc.neg l[n] l[i]
   rcases h1 with h1 | ⟨h1,h2⟩<;>rcases hbi with h3 | ⟨h3,h4⟩<;>omega
end
theorem ccmp_ord:Ord3 ccmp where
 neg:=ccmp_is.neg
 lt x y z h1 h2:=(ccmp_is.trans x y z (by omega) (by omega)).2 (.inl h1)
 el x y z h1 h2:=(ccmp_is.trans x y z (by omega) (by omega)).2 (.inr h2)
 le x y z h1 h2:=(ccmp_is.trans x y z (by omega) (by omega)).2 (.inl h1)
 ee x y z h1 h2:=by
  have a:=(ccmp_is.trans x y z (by omega) (by omega)).1
  have n1:=ccmp_is.neg x y
  have n2:=ccmp_is.neg y z
  have b:=(ccmp_is.trans z y x (by omega) (by omega)).1
  have n3:=ccmp_is.neg x z
  omega
theorem few_no (k:Nat) (l:List S_api_Choice):∀ (kk:Nat) (x:Int),vinerylaw16_few.l0 k l kk x≠some (.inl true)
 | 0,_=>by rw [vinerylaw16_few.l0];simp
 | kk+1,x=>by
  rw [vinerylaw16_few.l0]
  split
  ·split
   ·cases hf:vinerylaw09_Few.f k (((rd l x).Route).Attrs) with
    | none=>simp
    | some b =>
     rw [Option.bind_some]
     split
     ·simp
     ·exact few_no k l kk _
   ·simp
  ·simp
theorem few_30 {k:Nat} {l:List S_api_Choice} (h:vinerylaw16_few.f k l=some true):l.length≤30:=by
 unfold vinerylaw16_few.f at h
 cases h0:vinerylaw16_few.l0 k l k 0 with
 | none=>rw [h0] at h;cases h
 | some r =>
  rw [h0,Option.bind_some] at h
  cases r with
  | inl b =>
   simp only [Option.some.injEq] at h
   subst h
   exact absurd h0 (few_no k l k 0)
  | inr u =>
   simp only [Option.some.injEq,decide_eq_true_eq] at h
   omega
def cltB (x y:S_api_Choice):Bool:=decide (ccmp x y < 0)
theorem stF_congr {α:Type} (lt lt':α→α→Bool) (l:List α) (h:∀ x∈l,∀ y∈l,lt x y=lt' x y):stF lt l=stF lt' l:=by
 have e1:=stF_map (Subtype.val:{x // x∈l}→α) lt l.attach
 have e2:=stF_map (Subtype.val:{x // x∈l}→α) lt' l.attach
 rw [List.attach_map_subtype_val] at e1 e2
 rw [e1,e2]
 congr 2
 funext x y
 exact h x.1 x.2 y.1 y.2
theorem dsort_f (k:Nat) (hk:26 < k) (l:List S_api_Choice) (hl:l.length≤30) (hf:∀ c∈l,Fit k c):decide_Sort.f k l=some (refS cltB l):=by
 have hc:∀ x∈l,∀ y∈l,decide_Compare.f k x y=some (ccmp x y):=fun x hx y hy=>dccmp_f k hk x y (hf x hx) (hf y hy)
 have e1:slices_CloneC.f l=some l:=by unfold slices_CloneC.f;rw [if_pos (by omega)]
 have e2:slices_SortStableFunc_Choice.f k l=some (stF (ltD k) l):=by
  unfold slices_SortStableFunc_Choice.f
  rw [if_pos]
  simp only [Bool.and_eq_true,decide_eq_true_eq,List.all_eq_true]
  refine ⟨by omega,fun x hx y hy=>?_⟩
  rw [hc x hx y hy];rfl
 have e3:stF (ltD k) l=stF cltB l:=stF_congr _ _ _ fun x hx y hy=>by unfold ltD cltB;rw [hc x hx y hy];rfl
 have e4:stF cltB l=refS cltB l:=st_ref ccmp ccmp_ord l
 unfold decide_Sort.f
 rw [e1,Option.bind_some,e2,e3,e4]
 rfl
def BestAt (l:List S_api_Choice) (n i:Nat):Prop:=∃ h:n < l.length,n < i∧∀ j (hj:j < l.length),j < i→ccmp l[n] l[j] < 0∨(ccmp l[n] l[j]=0∧n≤j)
def BestR (l:List S_api_Choice) (r:Int) (i:Nat):Prop:=(i=0∧r=-1)∨∃ n:Nat,r=(n:Int)∧BestAt l n i
theorem BestR.step {l:List S_api_Choice} {r:Int} {i:Nat} (hi:i < l.length) (h:BestR l r i):(r < 0→BestR l i (i+1))∧(∀ n (hn:n < l.length),r=(n:Int)→(ccmp l[i] l[n] < 0→BestR l i (i+1))∧(¬ ccmp l[i] l[n] < 0→BestR l r (i+1))):=by
 have rf:=ccmp_is.refl l[i]
 rcases h with ⟨h0,hr⟩ | ⟨n,hr,hn,hni,hb⟩
 ·refine ⟨fun _=>.inr ⟨i,rfl,hi,by omega,fun j hj hji=>.inr ?_⟩,fun n _ e=>by omega⟩
  have:j=i:=by omega
  subst this
  exact ⟨rf,Nat.le_refl _⟩
 ·refine ⟨fun h=>by omega,fun m hm e=>?_⟩
  have:m=n:=by omega
  subst this
  refine ⟨fun hc=>.inr ⟨i,rfl,hi,by omega,fun j hj hji=>?_⟩,fun hc=>.inr ⟨m,hr,hm,by omega,fun j hj hji=>?_⟩⟩
  ·rcases Nat.lt_or_ge j i with h1 | h1
   ·have:=hb j hj h1
    exact .inl ((ccmp_is.trans l[i] l[m] l[j] (by omega) (by omega)).2 (.inl hc))
   ·have:j=i:=by omega
    subst this
    exact .inr ⟨rf,Nat.le_refl _⟩
  ·rcases Nat.lt_or_ge j i with h1 | h1
   ·exact hb j hj h1
   ·have:j=i:=by omega
    subst this
    have ng:=ccmp_is.neg l[m] l[j]
    rcases Int.lt_or_le (ccmp l[m] l[j]) 0 with h2 | h2
    ·exact .inl h2
    ·exact .inr ⟨by omega,by omega⟩
theorem BestR.uniq {l:List S_api_Choice} {r r':Int} {i:Nat} (hi:i≤l.length) (h:BestR l r i) (h':BestR l r' i):r=r':=by
 rcases h with ⟨h0,hr⟩ | ⟨n,hr,hn,hni,hb⟩<;>rcases h' with ⟨h0',hr'⟩ | ⟨n',hr',hn',hni',hb'⟩
 ·omega
 ·omega
 ·omega
 ·have a:=hb n' hn' hni'
  have b:=hb' n hn hni
  have ng:=ccmp_is.neg l[n] l[n']
  omega
theorem dbest_l0 (k:Nat) (hk:26 < k) (l:List S_api_Choice) (hl:l.length≤140737488355328) (hf:∀ c∈l,Fit k c):∀ (m kk i:Nat) (r:Int),i+m=l.length→m < kk→BestR l r i→∃ q,decide_Best.l0 k l kk r (i:Int)=some q∧BestR l q l.length
 | 0,kk+1,i,r,h,_,hb=>by
  have:i=l.length:=by omega
  subst this
  exact ⟨r,by rw [decide_Best.l0,if_neg (by simp)],hb⟩
 | m+1,kk+1,i,r,h,hkk,hb=>by
  have hi:i < l.length:=by omega
  have r1:0≤(i:Int)∧(i:Int) < (l.length:Int):=by omega
  have st:=hb.step hi
  rw [decide_Best.l0,if_pos (by simpa using hi),if_pos r1]
  by_cases hr:r < 0
  ·rw [if_pos (by simpa using hr),Option.bind_some,if_pos rfl,incD i (by omega)]
   exact dbest_l0 k hk l hl hf m kk (i+1) _ (by omega) (by omega) (st.1 hr)
  ·rw [if_neg (by simpa using hr)]
   obtain ⟨n,hrn,hn,hni⟩:∃ n:Nat,r=(n:Int)∧n < l.length∧n < i:=by
    rcases hb with ⟨h0,hr0⟩ | ⟨n,hr,hn,hni,_⟩
    ·omega
    ·exact ⟨n,hr,hn,hni⟩
   subst hrn
   have st2:=st.2 n hn rfl
   rw [if_pos (by omega),rdD l i hi,rdD l n hn,dccmp_f k hk _ _ (hf _ (List.getElem_mem hi)) (hf _ (List.getElem_mem hn))]
   simp only [Option.bind_some,incD i (show i≤140737488355328 by omega)]
   by_cases hc:ccmp l[i] l[n] < 0
   ·rw [if_pos (by simpa using hc)]
    exact dbest_l0 k hk l hl hf m kk (i+1) _ (by omega) (by omega) (st2.1 hc)
   ·rw [if_neg (by simpa using hc)]
    exact dbest_l0 k hk l hl hf m kk (i+1) _ (by omega) (by omega) (st2.2 hc)
theorem dbest_f (k:Nat) (hk:26 < k) (l:List S_api_Choice) (hl:l.length≤140737488355328) (hlk:l.length < k) (hf:∀ c∈l,Fit k c):∃ q,decide_Best.f k l=some q∧BestR l q l.length:=by
 obtain ⟨q,h1,h2⟩:=dbest_l0 k hk l hl hf l.length k 0 (-1) (by omega) hlk (.inl ⟨rfl,rfl⟩)
 refine ⟨q,?_,h2⟩
 unfold decide_Best.f
 rw [show ((0:Nat):Int)=(0:Int) from rfl] at h1
 rw [h1];rfl
/-! fuel enough -/
def wtD (c:S_api_Choice):Nat:=c.Route.Attrs.Path.length+c.Route.Attrs.Tunnels.length+c.Route.Attrs.Clusters.length+c.Route.Attrs.Exts.length+(c.Route.Attrs.Path.map fun s=>s.AS.length).sum
theorem sum_mem {α:Type} (f:α→Nat):∀ (l:List α) (x:α),x∈l→f x≤(l.map f).sum
 | [],x,h=>by simp at h
 | y::l,x,h=>by
  rw [List.map_cons,List.sum_cons]
  rcases List.mem_cons.1 h with rfl | h
  ·omega
  ·have:=sum_mem f l x h;omega
theorem okA_isB {x:List Int} (h:okA .u8 16 x):isB x:=fun y hy=>by
 have:=h.2 y hy
 have e1:IntKind.u8.min=0:=rfl
 have e2:IntKind.u8.max=255:=rfl
 unfold okI at this
 omega
theorem fit_ok {k:Nat} {c:S_api_Choice} (h:okS_api_Choice c) (hk:wtD c < k):Fit k c:=by
 obtain ⟨⟨_,_,_,_,_,_,hp,_,_,ho,hcl,he,ht⟩,_,hid⟩:=h
 have h1:=hp.1
 have h2:=ht.1
 have h3:=hcl.1
 have h4:=he.1
 unfold reachBytes at h1 h2 h3 h4
 unfold wtD at hk
 refine ⟨by omega,by omega,by omega,by omega,by omega,by omega,by omega,by omega,fun s hs=>?_,arL_isB (okA_isB ho.2) 16,arL_isB (okA_isB hid.2) 16⟩
 have h5:=(hp.2 s hs).2.1
 unfold reachBytes at h5
 have:=sum_mem (fun s:S_api_Segment=>s.AS.length) _ s hs
 exact ⟨by omega,by omega⟩
def wtL (l:List S_api_Choice):Nat:=(l.map wtD).sum+l.length+2000
theorem fit_all {k:Nat} {l:List S_api_Choice} (h:∀ c∈l,okS_api_Choice c) (hk:wtL l≤k):∀ c∈l,Fit k c:=fun c hc=>fit_ok (h c hc) (by
 have:=sum_mem wtD l c hc
 unfold wtL at hk
 omega)
theorem small_tt:∀ k,vinerylaw16_small.f (k+12)=some true:=fun k=>by kernel_rfl
theorem refS_perm' {α:Type} (lt:α→α→Bool):∀ (l out:List α),(l.foldl (refI lt) out).Perm (out++l)
 | [],out=>by simp
 | q::l,out=>by
  rw [List.foldl_cons]
  refine (refS_perm' lt l _).trans ?_
  have h1:(refI lt out q).Perm (out++[q]):=by
   unfold refI
   refine List.perm_middle.trans ?_
   rw [List.take_append_drop]
   exact (List.perm_append_comm (l₁:=[q]) (l₂:=out))
  refine (h1.append_right l).trans ?_
  simp
theorem refS_perm (l:List S_api_Choice):(refS cltB l).Perm l:=by
 have:=refS_perm' cltB l []
 rw [List.nil_append] at this
 exact this
theorem stays_l1 (l:List S_api_Choice) (hl:l.length≤30):∀ (i kk:Nat) (out:List S_api_Choice),i≤l.length→i < kk→out.length+i≤100→vinerylaw16_DecideStays.l1 l kk out ((i:Int) - 1)=some (out++(l.take i).reverse)
 | 0,kk+1,out,_,_,_=>by rw [vinerylaw16_DecideStays.l1,if_neg (by simp)];simp
 | i+1,kk+1,out,hi,hk,ho=>by
  have hi':i < l.length:=by omega
  have e:(((i+1:Nat):Int) - 1)=(i:Int):=by omega
  have r1:0≤(i:Int)∧(i:Int) < (l.length:Int):=by omega
  have ew:IntKind.i64.wrap ((i:Int) - 1)=(i:Int) - 1:=by rw [IntKind.wrap_i64];omega
  rw [e,vinerylaw16_DecideStays.l1,if_pos (by simp),if_pos r1,if_pos (by simp;omega),ew,rdD l i hi',stays_l1 l hl i kk _ (by omega) (by omega) (by simp;omega),List.take_succ_eq_append_getElem hi',List.reverse_append]
  simp
theorem stays_l0 (k:Nat) (hk:26 < k) (l:List S_api_Choice) (hl:l.length≤140737488355328) (hf:∀ c∈l,Fit k c) (n:Nat) (hb:BestAt l n l.length):∀ (m kk i:Nat) (al:Bool),i+m=l.length→m < kk →
  ∃ r,vinerylaw16_DecideStays.l0 k l (n:Int) kk al (i:Int)=some (.inr r)∧(r=false→al=false∧∀ j (hj:j < l.length),i≤j→j≠n→ccmp (l[n]'hb.1) l[j]≠0)
 | 0,kk+1,i,al,h,_=>⟨al,by rw [vinerylaw16_DecideStays.l0,if_neg (by simp;omega)],fun h=>⟨h,fun j hj hij=>by omega⟩⟩
 | m+1,kk+1,i,al,h,hkk=>by
  have hi:i < l.length:=by omega
  obtain ⟨hn,_,hbb⟩:=id hb
  have r1:0≤(i:Int)∧(i:Int) < (l.length:Int):=by omega
  have r2:0≤(n:Int)∧(n:Int) < (l.length:Int):=by omega
  have hb1:=hbb i hi (by omega)
  rw [vinerylaw16_DecideStays.l0,if_pos (by simpa using hi),if_pos r2,if_pos r1,rdD l n hn,rdD l i hi,dccmp_f k hk _ _ (hf _ (List.getElem_mem hn)) (hf _ (List.getElem_mem hi)),Option.bind_some,incD i (by omega)]
  have c1:(if (decide (ccmp l[n] l[i] > (0:Int)))=true then true else (if (ccmp l[n] l[i]==(0:Int))=true then (decide ((i:Int) < (n:Int))) else false))=false:=by
   rw [if_neg (by simp;omega)]
   split
   ·rename_i h0
    have h0:=beq_iff_eq.1 h0
    rw [decide_eq_false_iff_not]
    omega
   ·rfl
  rw [c1,if_neg (by simp)]
  obtain ⟨r,h1,h2⟩:=stays_l0 k hk l hl hf n hb m kk (i+1) (if al=true then true else (if (ccmp l[n] l[i]==(0:Int))=true then ((i:Int) != (n:Int)) else false)) (by omega) (by omega)
  refine ⟨r,h1,fun hr=>?_⟩
  obtain ⟨h3,h4⟩:=h2 hr
  cases al with
  | true=>simp at h3
  | false =>
   refine ⟨rfl,fun j hj hij hjn=>?_⟩
   rcases Nat.lt_or_ge i j with h5 | h5
   ·exact h4 j hj (by omega) hjn
   ·have:j=i:=by omega
    subst this
    intro h0
    rw [if_neg (by simp),if_pos (by simpa using h0)] at h3
    simp at h3
    omega
theorem gone_ok (g:Int) (n:Nat) (hn:0 < n):∃ p:Nat,Int.tmod (IntKind.i64.wrap (BitVec.ofInt IntKind.i64.bits g &&& BitVec.ofInt IntKind.i64.bits (31:Int)).toNat) (n:Int)=(p:Int)∧p < n:=by
 have h1:(BitVec.ofInt IntKind.i64.bits g &&& BitVec.ofInt IntKind.i64.bits (31:Int)).toNat≤31:=by
  rw [BitVec.toNat_and]
  exact Nat.and_le_right
 generalize (BitVec.ofInt IntKind.i64.bits g &&& BitVec.ofInt IntKind.i64.bits (31:Int)).toNat=x at h1
 have e:IntKind.i64.wrap (x:Int)=(x:Int):=by rw [IntKind.wrap_i64];omega
 rw [e,Int.tmod_eq_emod_of_nonneg (by omega)]
 have:=Int.emod_nonneg (x:Int) (show (n:Int)≠0 by omega)
 have:=Int.emod_lt_of_pos (x:Int) (show (0:Int) < n by omega)
 exact ⟨((x:Int) % n).toNat,by omega,by omega⟩
theorem best_gone {l:List S_api_Choice} {n p:Nat} (hp:p < l.length) (hpn:p≠n) (h:BestAt l n l.length):BestAt (l.eraseIdx p) (if p < n then n - 1 else n) (l.eraseIdx p).length:=by
 obtain ⟨hn,_,hb⟩:=h
 have hl:(l.eraseIdx p).length=l.length - 1:=List.length_eraseIdx_of_lt hp
 have hw:(if p < n then n - 1 else n) < (l.eraseIdx p).length:=by rw [hl];split<;>omega
 have ew:(l.eraseIdx p)[if p < n then n - 1 else n]=l[n]:=by
  rw [List.getElem_eraseIdx]
  by_cases h1:p < n
  ·simp only [if_pos h1]
   rw [dif_neg (by omega)]
   congr 1
   omega
  ·simp only [if_neg h1]
   rw [dif_pos (by omega)]
 refine ⟨hw,hw,fun j hj _=>?_⟩
 rw [ew,List.getElem_eraseIdx]
 by_cases h1:j < p
 ·rw [dif_pos h1]
  rcases hb j (by omega) (by omega) with h2 | ⟨h2,h3⟩
  ·exact .inl h2
  ·exact .inr ⟨h2,by split<;>omega⟩
 ·rw [dif_neg h1]
  rcases hb (j+1) (by omega) (by omega) with h2 | ⟨h2,h3⟩
  ·exact .inl h2
  ·exact .inr ⟨h2,by split<;>omega⟩
theorem best_rev {l:List S_api_Choice} {n:Nat} (h:BestAt l n l.length) (hs:∀ j (hj:j < l.length),0≤j→j≠n→ccmp (l[n]'h.1) l[j]≠0):BestAt l.reverse (l.length - 1 - n) l.reverse.length:=by
 obtain ⟨hn,_,hb⟩:=id h
 have hw:l.length - 1 - n < l.reverse.length:=by rw [List.length_reverse];omega
 refine ⟨hw,hw,fun j hj _=>?_⟩
 have hj':j < l.length:=by rw [List.length_reverse] at hj;exact hj
 rw [List.getElem_reverse,List.getElem_reverse]
 have e:l[l.length - 1 - (l.length - 1 - n)]=l[n]:=by congr 1;omega
 rw [e]
 by_cases h1:l.length - 1 - j=n
 ·refine .inr ⟨?_,by omega⟩
  have e2:l[l.length - 1 - j]=l[n]:=by congr 1
  rw [e2]
  exact ccmp_is.refl _
 ·rcases hb (l.length - 1 - j) (by omega) (by omega) with h2 | ⟨h2,_⟩
  ·exact .inl h2
  ·exact absurd h2 (hs _ (by omega) (Nat.zero_le _) h1)
theorem DecideStays.law (l:List S_api_Choice) (hl:okL 376 okS_api_Choice l) (g:Int) (hg:okI .i64 g):∃ k,vinerylaw16_DecideStays.f k l g=some true:=by
 obtain ⟨K,hK⟩:∃ K,K=wtL l+12:=⟨_,rfl⟩
 have hlen:l.length≤140737488355328:=by
  have:=hl.1
  unfold reachBytes at this
  omega
 have hf:∀ c∈l,Fit K c:=fit_all hl.2 (by omega)
 have hk:1026 < K:=by unfold wtL at hK;omega
 have hlk:l.length < K:=by unfold wtL at hK;omega
 refine ⟨K,?_⟩
 obtain ⟨K',hK'⟩:∃ K',K=K'+12:=⟨wtL l,hK⟩
 unfold vinerylaw16_DecideStays.f
 rw [hK',small_tt,← hK',Option.bind_some]
 obtain ⟨r,hr⟩:=few_f K l hlen (fun c hc=>⟨(hf c hc).p,(hf c hc).t,(hf c hc).pk,(hf c hc).tk⟩) hlk
 obtain ⟨q,hq,bq⟩:=dbest_f K (by omega) l hlen hlk hf
 rw [hr,Option.bind_some,hq,Option.bind_some]
 rcases Nat.eq_zero_or_pos l.length with h0 | h0
 ·have hq1:q=-1:=by
   rcases bq with ⟨_,h⟩ | ⟨n,_,hn,_⟩
   ·exact h
   ·omega
  cases r<;>simp [h0,hq1]
 cases r with
 | false=>simp;omega
 | true =>
  have h30:=few_30 hr
  obtain ⟨n,rfl,hb⟩:∃ n:Nat,q=(n:Int)∧BestAt l n l.length:=by
   rcases bq with ⟨h,_⟩ | ⟨n,hn,hb⟩
   ·omega
   ·exact ⟨n,hn,hb⟩
  obtain ⟨hn,_,hbb⟩:=id hb
  obtain ⟨al,ha,hal⟩:=stays_l0 K (by omega) l hlen hf n hb l.length K 0 false (by omega) hlk
  rw [show ((0:Nat):Int)=(0:Int) from rfl] at ha
  obtain ⟨p,hp,hpl⟩:=gone_ok g l.length h0
  have e1:=stays_l1 l h30 l.length K [] (Nat.le_refl _) hlk (by simp;omega)
  rw [List.take_length,List.nil_append] at e1
  have ew1:IntKind.i64.wrap ((l.length:Int) - 1)=(l.length:Int) - 1:=by rw [IntKind.wrap_i64];omega
  have ew2:IntKind.i64.wrap (((l.length:Int) - 1) - (n:Int))=((l.length - 1 - n:Nat):Int):=by rw [IntKind.wrap_i64];omega
  have ew3:IntKind.i64.wrap ((p:Int)+1)=((p+1:Nat):Int):=by rw [IntKind.wrap_i64];omega
  have ew4:IntKind.i64.wrap ((n:Int)+1)=((n+1:Nat):Int):=by rw [IntKind.wrap_i64];omega
  have ew5:0 < n→IntKind.i64.wrap ((n:Int) - 1)=((n - 1:Nat):Int):=fun h=>by rw [IntKind.wrap_i64];omega
  have hs:=dsort_f K (by omega) l h30 hf
  have hperm:=refS_perm l
  obtain ⟨rr,hrr⟩:∃ rr,refS cltB l=l[n]::rr:=refS_head ccmp ccmp_ord l n hn (fun i hi=>hbb i hi hi)
  have hsl:(refS cltB l).length=l.length:=hperm.length_eq
  obtain ⟨m',hm',bm'⟩:=dbest_f K (by omega) l.reverse (by simp;omega) (by simpa using hlk) (fun c hc=>hf c (by simpa using hc))
  have hsame:vinerylaw16_same.f K (((refS cltB l).take (Int.toNat (1:Int))).drop (Int.toNat (0:Int))) ((l.take (Int.toNat ((n+1:Nat):Int))).drop (Int.toNat (n:Int)))=some true:=by
   have x1:((refS cltB l).take (Int.toNat (1:Int))).drop (Int.toNat (0:Int))=[l[n]]:=by rw [hrr];rfl
   have x2:(l.take (Int.toNat ((n+1:Nat):Int))).drop (Int.toNat (n:Int))=[l[n]]:=by
    rw [Int.toNat_natCast,Int.toNat_natCast,List.take_succ_eq_append_getElem hn,List.drop_left' (by simp;omega)]
   rw [x1,x2]
   exact same_f K [l[n]] (by simp) (by simp;omega) (fun c hc=>by rw [List.mem_singleton] at hc;rw [hc];exact hf _ (List.getElem_mem hn))
  have hrest:(l.take p++l.drop (p+1))=l.eraseIdx p:=(List.eraseIdx_eq_take_drop_succ l p).symm
  have hgone:p≠n→∃ q',decide_Best.f K (l.eraseIdx p)=some q'∧q'=(((if p < n then n - 1 else n:Nat)):Int):=fun hpn=>by
   have hle:(l.eraseIdx p).length=l.length - 1:=List.length_eraseIdx_of_lt hpl
   obtain ⟨q',h1,h2⟩:=dbest_f K (by omega) (l.eraseIdx p) (by omega) (by omega) (fun c hc=>hf c (List.mem_of_mem_eraseIdx hc))
   exact ⟨q',h1,h2.uniq (Nat.le_refl _) (.inr ⟨_,rfl,best_gone hpl hpn hb⟩)⟩
  have hback:al=false→m'=((l.length - 1 - n:Nat):Int):=fun h=>by
   have:=best_rev hb (fun j hj _ hjn=>(hal h).2 j hj (Nat.zero_le _) hjn)
   exact bm'.uniq (Nat.le_refl _) (.inr ⟨_,rfl,this⟩)
  have c0:(if (!true)=true then true else ((l.length:Int)==(0:Int)))=false:=by rw [if_neg (by simp)];exact beq_eq_false_iff_ne.2 (by omega)
  rw [if_neg (by rw [c0];simp),if_neg (by simp;omega),ha]
  simp only [Option.bind_some,hp]
  rw [if_pos (by omega)]
  have hfin:(if true=true then (if al=true then (if (((refS cltB l).length:Int)==(l.length:Int))=true then (if 0≤(0:Int)∧(0:Int)≤(1:Int)∧(1:Int)≤((refS cltB l).length:Int) then (if 0≤(n:Int)∧(n:Int)≤(IntKind.i64.wrap ((n:Int)+(1:Int)))∧(IntKind.i64.wrap ((n:Int)+(1:Int)))≤(l.length:Int) then (vinerylaw16_same.f K (((refS cltB l).take (Int.toNat (1:Int))).drop (Int.toNat (0:Int))) ((l.take (Int.toNat (IntKind.i64.wrap ((n:Int)+(1:Int))))).drop (Int.toNat (n:Int)))).bind fun t49=>some (t49:Bool) else none) else none) else some (false:Bool)) else (if (m'==(IntKind.i64.wrap ((IntKind.i64.wrap ((l.length:Int) - (1:Int))) - (n:Int))))=true then (if (((refS cltB l).length:Int)==(l.length:Int))=true then (if 0≤(0:Int)∧(0:Int)≤(1:Int)∧(1:Int)≤((refS cltB l).length:Int) then (if 0≤(n:Int)∧(n:Int)≤(IntKind.i64.wrap ((n:Int)+(1:Int)))∧(IntKind.i64.wrap ((n:Int)+(1:Int)))≤(l.length:Int) then (vinerylaw16_same.f K (((refS cltB l).take (Int.toNat (1:Int))).drop (Int.toNat (0:Int))) ((l.take (Int.toNat (IntKind.i64.wrap ((n:Int)+(1:Int))))).drop (Int.toNat (n:Int)))).bind fun t60=>some (t60:Bool) else none) else none) else some (false:Bool)) else some (false:Bool))) else some (false:Bool))=some true:=by
   rw [if_pos rfl,ew4,ew1,ew2,hsame,hsl]
   have c1:0≤(0:Int)∧(0:Int)≤(1:Int)∧(1:Int)≤(l.length:Int):=by omega
   have c2:0≤(n:Int)∧(n:Int)≤((n+1:Nat):Int)∧((n+1:Nat):Int)≤(l.length:Int):=by omega
   cases al with
   | true=>rw [if_pos rfl,if_pos (by simp),if_pos c1,if_pos c2];rfl
   | false=>rw [if_neg (by simp),hback rfl,if_pos (by simp),if_pos (by simp),if_pos c1,if_pos c2];rfl
  by_cases hpn:p=n
  ·rw [if_neg (by simp;omega)]
   simp only [lv,Option.bind_some,ew1]
   rw [e1]
   simp only [Option.bind_some,hm',hs,ew1] at hfin ⊢
   rw [hfin];rfl
  ·obtain ⟨q',hq',eq'⟩:=hgone hpn
   have el:(([]:List S_api_Choice)++((l.take (Int.toNat (p:Int))).drop (Int.toNat (0:Int))))++((l.take (Int.toNat (l.length:Int))).drop (Int.toNat ((p+1:Nat):Int)))=l.eraseIdx p:=by
    rw [← hrest];simp
   rw [if_pos (by simp;omega),ew3,if_pos (by omega),if_pos (by omega),if_pos (by simp;omega),if_pos (by simp;omega),el,hq']
   have c1:(if (decide ((p:Int) < (n:Int)))=true then some (IntKind.i64.wrap ((n:Int) - (1:Int)):Int) else some ((n:Int):Int))=some q':=by
    rw [eq']
    by_cases h:p < n
    ·rw [if_pos (by simpa using h),if_pos h,ew5 (by omega)]
    ·rw [if_neg (by simpa using h),if_neg h]
   rw [c1]
   simp only [lv,Option.bind_some,ew1]
   rw [if_neg (by simp)]
   simp only [e1,Option.bind_some,hm',hs,ew1] at hfin ⊢
   rw [hfin];rfl
end Go.E
