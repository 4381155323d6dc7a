/- What the functions that the law reaches compute, and the walks that show it. -/
import Derived.Test.YtcejhnpncodkjaaGreatDoorEngP
import Derived.Test.YtcejhnpncodkjaaGreatDoorEngU
import Derived.Test.YtcejhnpncodkjaaGreatDoorShelf
import Derived.Test.YtcejhnpncodkjaaGreatDoorEngQ
import Derived.Test.YtcejhnpncodkjaaGreatDoorEngY
import Derived.Test.YtcejhnpncodkjaaGreatDoorProg
set_option linter.unusedVariables false
set_option linter.unusedSimpArgs false
namespace Go.E
open Go.RowKit Go.Proofs
def dbTab : List Int := [0, 1, 56, 2, 57, 49, 28, 3, 61, 58, 42, 50, 38, 29, 17, 4, 62, 47, 59, 36, 45, 43, 51, 22, 53, 39, 33, 30, 24, 18, 12, 5, 63, 55, 48, 27, 60, 41, 37, 16, 46, 35, 44, 21, 52, 32, 23, 11, 54, 26, 40, 15, 34, 20, 31, 10, 25, 14, 19, 9, 13, 8, 7, 6]
def GF (w : World) (M : List Nat) : Prop := TabOk Tryz.prog w M "internal/strconv.uint64pow10" .u64 Lib.pow10Tab 1 ∧ TabOk Tryz.prog w M "math/bits.deBruijn64tab" .u8 dbTab 5 ∧ IntOk w M 0
theorem GF.chg {w w' : World} {M M' gs : List Nat} (h : GF w M) (hc : Chg gs w w') (ho : Ok gs M w.heap.size) (hm : Ok M' M w.heap.size) : GF w' M' :=
  ⟨h.1.chg (by kernel_rfl) hc ho hm, h.2.1.chg (by kernel_rfl) hc ho hm, h.2.2.chg hc ho hm⟩
structure S_api_Addr where
  Size : Int
  B : List Int
  deriving DecidableEq, Inhabited
def cS_api_Addr (x : S_api_Addr) : List Value := ([.int .i64 x.Size] : List Value) ++ (cA .u8 16 x.B)
def rS_api_Addr : Rep S_api_Addr := rIso (fun x : S_api_Addr => (x.Size, x.B)) (rPair (rInt .i64) (rArr .u8 16))
theorem rS_api_Addr.open {w : World} {M : List Nat} {cs : List Value} {x : S_api_Addr} (h : rS_api_Addr.R w M cs x) : cs = cS_api_Addr x := by
  obtain ⟨c0, k0, e0, h0, h1⟩ := h
  obtain rfl := h0
  obtain rfl := h1
  subst e0
  exact rfl
theorem rS_api_Addr.mk {w : World} {M : List Nat} (x : S_api_Addr) : rS_api_Addr.R w M (cS_api_Addr x) x := ⟨_, _, rfl, rfl, rfl⟩
def okS_api_Addr (x : S_api_Addr) : Prop := (okI .i64) x.Size ∧ (okA .u8 16) x.B
structure S_cursor_rest where
  left : List Int
  bad : Bool
  deriving DecidableEq, Inhabited
def cS_cursor_rest (x : S_cursor_rest) (ao1 : Option Addr) (cap1 : Nat) : List Value := ([.slice ao1 x.left.length cap1] : List Value) ++ (([.bool x.bad] : List Value))
def rS_cursor_rest : Rep S_cursor_rest := rIso (fun x : S_cursor_rest => (x.left, x.bad)) (rPair (rSl 5 (rInt .u8)) rBool)
theorem rS_cursor_rest.open {w : World} {M : List Nat} {cs : List Value} {x : S_cursor_rest} (h : rS_cursor_rest.R w M cs x) : ∃ (ao1 : Option Addr) (cap1 : Nat), cs = cS_cursor_rest x ao1 cap1 ∧ RSl (rInt .u8) 5 w M ao1 cap1 x.left := by
  obtain ⟨c0, k0, e0, h0, h1⟩ := h
  obtain ⟨ao1, cap1, rfl, f1⟩ := h0
  obtain rfl := h1
  subst e0
  exact ⟨ao1, cap1, rfl, f1⟩
theorem rS_cursor_rest.mk {w : World} {M : List Nat} (x : S_cursor_rest) {ao1 : Option Addr} {cap1 : Nat} (f1 : RSl (rInt .u8) 5 w M ao1 cap1 x.left) : rS_cursor_rest.R w M (cS_cursor_rest x ao1 cap1) x := ⟨_, _, rfl, ⟨ao1, cap1, rfl, f1⟩, rfl⟩
def okS_cursor_rest (x : S_cursor_rest) : Prop := (okL 1 (okI .u8)) x.left ∧ okB x.bad
structure S_cursor_Reader where
  rest : S_cursor_rest
  deriving DecidableEq, Inhabited
def cS_cursor_Reader (x : S_cursor_Reader) (ao1 : Option Addr) (cap1 : Nat) : List Value := cS_cursor_rest x.rest ao1 cap1
def rS_cursor_Reader : Rep S_cursor_Reader := rIso (fun x : S_cursor_Reader => x.rest) rS_cursor_rest
theorem rS_cursor_Reader.open {w : World} {M : List Nat} {cs : List Value} {x : S_cursor_Reader} (h : rS_cursor_Reader.R w M cs x) : ∃ (ao1 : Option Addr) (cap1 : Nat), cs = cS_cursor_Reader x ao1 cap1 ∧ RSl (rInt .u8) 5 w M ao1 cap1 x.rest.left := by
  have h0 := h
  have h0 := rS_cursor_rest.open h0
  obtain ⟨ao1, cap1, rfl, f1⟩ := h0
  exact ⟨ao1, cap1, rfl, f1⟩
theorem rS_cursor_Reader.mk {w : World} {M : List Nat} (x : S_cursor_Reader) {ao1 : Option Addr} {cap1 : Nat} (f1 : RSl (rInt .u8) 5 w M ao1 cap1 x.rest.left) : rS_cursor_Reader.R w M (cS_cursor_Reader x ao1 cap1) x := (rS_cursor_rest.mk x.rest f1)
def okS_cursor_Reader (x : S_cursor_Reader) : Prop := (okS_cursor_rest) x.rest
def rd_highSize.f (a0:Int):Option (Int×Bool):=(if (a0==(0:Int))=true then some (((2:Int):Int),(true:Bool)) else ((if (a0==(1:Int))=true then some (a0==(1:Int):Bool) else some (a0==(2:Int):Bool))).bind fun s8=>(if s8=true then some (((4:Int):Int),(true:Bool)) else some (((0:Int):Int),(false:Bool))))
set_option maxRecDepth 100000 in
theorem rd_highSize.walk (w:World) (M:List Nat) (hM:MS M w) (a0:Int) (r:Int×Bool) (H:rd_highSize.f a0=some r) :
    To Tryz.prog 77 [.int .i64 a0] w fun v w'=>v=.tuple #[.int .i64 r.1,.bool r.2]∧Chg [] w w'∧MS (M) w':=by
 unfold rd_highSize.f at H;refine ent Tryz.func77 rfl [(0,.int .i64 a0)] rfl (by rfl) fun a ha=>?_;have hC:Chg [] w w:=Chg.refl _ _;refine sqd ha 2 [] [] fun a ha=>?_;refine wp_seq_k fun K2 hK2=>?_;refine sq ha 1 [(4,.int .i64 a0)] fun a ha=>?_;refine wp_block ?_;refine sqd ha 2 [] [(5,.bool (a0==(0:Int)))] fun a ha=>?_;refine cnH H ha (fun hc5 H=>?_) (fun hc5 H=>?_)
 ·refine sq ha 2 [(2,.int .i64 2),(3,.bool true)] fun a ha=>?_;refine wrt ?_;obtain rfl:=oj H;refine rt2 ha rfl rfl rfl ?_;exact ⟨rfl,hC,hM⟩
 ·refine wp_seq_k fun K7 hK7=>?_;obtain ⟨s8,H8,H⟩:=bind_some H;have J8:∀ (a:Act) (w8:World),Has a Tryz.f77.ntmps [(7,.bool s8)]→(Chg [] w w8)→(MS (M) w8)→K7 a w8:=by
   intro a w8 ha hC hM;refine hK7 _ _ ?_;refine cnH H ha (fun hc9 H=>?_) (fun hc9 H=>?_)
   ·refine sq ha 2 [(2,.int .i64 4),(3,.bool true)] fun a ha=>?_;refine wrt ?_;obtain rfl:=oj H;refine rt2 ha rfl rfl rfl ?_;exact ⟨rfl,hC,hM⟩
   ·refine wp_skip ?_;refine hK2 _ _ ?_;refine sq ha 2 [(2,.int .i64 0),(3,.bool false)] fun a ha=>?_;refine wrt ?_;obtain rfl:=oj H;refine rt2 ha rfl rfl rfl ?_;exact ⟨rfl,hC,hM⟩
  have H:=H8;refine sqd ha 2 [5] [(7,.bool (a0==(1:Int)))] fun a ha=>?_;refine cnH H ha (fun hc13 H=>?_) (fun hc13 H=>?_)
  ·refine wp_skip ?_;obtain rfl:=oj H;exact J8 _ _ (ha.sel (by kernel_rfl)) hC hM
  ·refine wp_region_lit ?_;refine sf ha 2 [(7,.bool (a0==(2:Int)))] fun a ha=>?_;obtain rfl:=oj H;exact J8 _ _ (ha.sel (by kernel_rfl)) hC hM

def bytes_Clone.f (a0:List Int):Option (List Int):=if a0.length≤140737488355328 then some a0 else none
theorem bytes_Clone.walk (w:World) (M:List Nat) (hM:MS M w) (a0:List Int) (ao1:Option Addr) (cap1:Nat) (f1:RSl (rInt .u8) 5 w M ao1 cap1 a0) (r:List Int) (H:bytes_Clone.f a0=some r) :
    To Tryz.prog 79 [.slice ao1 a0.length cap1] w fun v w'=>∃ (ao2:Option Addr) (cap2:Nat),v=.slice ao2 r.length cap2∧(Own (rInt .u8) 5 w' (blkL ao2++M) ao2 cap2 r)∧(∀ x∈blkL ao2,w.heap.size≤x)∧Chg [] w w'∧MS (blkL ao2++M) w':=by
  unfold bytes_Clone.f at H;obtain ⟨hb,H⟩:=ite_some H;obtain rfl:=oj H;refine ent Tryz.func79 rfl [(0,.slice ao1 a0.length cap1)] rfl rfl fun a ha=>?_;refine wp_seq_k fun K hK=>?_;refine wp_region_lit ?_;refine sd ha 1 [] [] fun a ha=>?_;refine hK _ _ ?_;clear hK K;refine wp_seq_k fun K hK=>?_;refine wsr fun K2 hK2=>?_;refine sd ha 2 [] [(4,.bool ao1.isNone)] fun a ha=>?_;refine hK2 _ _ ?_;clear hK2 K2;refine cnd ha rfl (fun hc=>?_) (fun hc=>?_)
  · refine wsr fun K2 hK2=>?_;refine sf ha 1 [(2,.slice none 0 0)] fun a ha=>?_;refine hK2 _ _ ?_;clear hK2 K2;refine wp_ret ?_;have hx:a0=[]:=by
      rcases f1 with ⟨_,_,h | ⟨g,o,cur,fr,e,_⟩⟩
      · exact h
      · subst e;simp at hc
    simp only [Exit.then];refine rt1 ha rfl rfl ?_;exact ⟨none,0,by rw [hx];rfl,by rw [hx];exact Own.nil,(fun _ h=>nomatch h),Chg.refl _ _,hM⟩
  · refine wp_skip ?_;refine hK _ _ ?_;clear hK K;refine wp_seq_k fun K hK=>?_;refine wp_region_lit ?_;refine bsl (vals:=[]) (T:=5) ha rfl [] (fun w=>by kernel_rfl) rfl rfl rfl fun a w1 g hN ha=>?_;refine sd ha 1 [4] [(5,.slice (some ⟨g,0,none⟩) 0 0),(6,.slice ao1 a0.length cap1)] fun a ha=>?_;have hO:Own (rInt .u8) 5 w1 ([g]++M) (some ⟨g,0,none⟩) 0 []:=hN.own rfl (Nat.zero_le _);have h1:RSl (rInt .u8) 5 w1 ([g]++M) ao1 cap1 a0:=f1.chg hN.chg (Ok.nil _ _) (Ok.app (hN.ok _) (Ok.refl _ _));refine app (r:=rInt .u8) (xs:=[]) ha (ElemT.mk' (bytes:=1) (by kernel_rfl)) rfl rfl rfl rfl rfl hO h1.src (by simpa using hb) (by decide) fun a w2 ao2 cap2 hO2 hc2 hok hlt ha=>?_;refine sf ha 1 [(2,.slice ao2 ([]++a0).length cap2)] fun a ha=>?_;refine hK _ _ ?_;clear hK K;refine wp_ret ?_;refine rt1 ha rfl rfl ⟨ao2,cap2,rfl,?_,?_,?_,?_⟩
    · exact hO2.chg (Chg.refl [] _) (Ok.nil _ _) (Ok.app (fun g hg=>.inl (ml hg)) (fun g hg=>.inl (mr (mr hg)))) (fun _ _ hh=>nomatch hh) (fun g hg=>ml hg)
    · intro x hx;rcases hok x hx with h | h
      · simp [blkL] at h;subst h;exact hN.ge
      · exact Nat.le_trans hN.chg.size h
    · exact hN.chg.trans hc2 (Ok.one (.inr hN.ge))
    · exact MS.app hlt ((hM.chg hN.chg).chg hc2)

def cursor_Put.l0 (a1:Int):Nat→(List Int)→Int→Option (List Int)
  | 0,_,_=>none
  | kk+1,x20,x21=>(if (decide (x21 ≥ (0:Int)))=true then (if 0≤x21 then (if (x20.length+([IntKind.u8.wrap (Int.fdiv a1 (2^(min (Int.toNat x21) IntKind.i64.bits)))]:List Int).length)*1≤140737488355328 then cursor_Put.l0 a1 kk (x20++([IntKind.u8.wrap (Int.fdiv a1 (2^(min (Int.toNat x21) IntKind.i64.bits)))]:List Int)) (IntKind.i64.wrap (x21 - (8:Int))) else none) else none) else some (x20:List Int))
def cursor_Put.f (k:Nat) (a0:List Int) (a1:Int) (a2:Int):Option (List Int×Int):=(if (if (decide (a2 < (1:Int)))=true then true else (decide (a2 > (4:Int))))=true then some ((([]:List Int):List Int),((1:Int):Int)) else ((if (decide (a1 < (0:Int)))=true then some (true:Bool) else (if 0≤(IntKind.i64.wrap ((8:Int)*a2)) then some ((Int.fdiv a1 (2^(min (Int.toNat (IntKind.i64.wrap ((8:Int)*a2))) IntKind.i64.bits))) != (0:Int):Bool) else none))).bind fun s9=>(if s9=true then some ((([]:List Int):List Int),((5:Int):Int)) else (bytes_Clone.f a0).bind fun t14=>(cursor_Put.l0 a1 k t14 (IntKind.i64.wrap ((8:Int)*(IntKind.i64.wrap (a2 - (1:Int)))))).bind fun s18=>some ((s18:List Int),((0:Int):Int))))
set_option maxRecDepth 100000 in
theorem cursor_Put.walk (w:World) (M:List Nat) (hM:MS M w) (a0:List Int) (ao1:Option Addr) (cap1:Nat) (f1:RSl (rInt .u8) 5 w M ao1 cap1 a0) (a1:Int) (a2:Int) (k:Nat) (r:List Int×Int) (H:cursor_Put.f k a0 a1 a2=some r) :
    To Tryz.prog 40 [.slice ao1 a0.length cap1,.int .i64 a1,.int .i64 a2] w fun v w'=>∃ (ao39:Option Addr) (cap39:Nat),v=.tuple #[.slice ao39 r.1.length cap39,.int .i64 r.2]∧(Own (rInt .u8) 5 w' (blkL ao39++(M)) ao39 cap39 r.1)∧(∀ x∈blkL ao39,w.heap.size≤x)∧Chg [] w w'∧MS (blkL ao39++(M)) w':=by
 unfold cursor_Put.f at H;refine ent Tryz.func40 rfl [(0,.slice ao1 a0.length cap1),(1,.int .i64 a1),(2,.int .i64 a2)] rfl (by rfl) fun a ha=>?_;have hC:Chg [] w w:=Chg.refl _ _;refine sqd ha 2 [] [] fun a ha=>?_;refine wp_seq_k fun K3 hK3=>?_;refine wp_block ?_;refine sqd ha 7 [] [(10,.bool (if (decide (a2 < (1:Int)))=true then true else (decide (a2 > (4:Int)))))] fun a ha=>?_;refine cnH H ha (fun hc5 H=>?_) (fun hc5 H=>?_)
 ·refine sq ha 2 [(6,.slice none 0 0),(7,.int .i64 1)] fun a ha=>?_;refine wrt ?_;have e_z7:∀ x∈blkL none,w.heap.size≤x:=fun x hx=>Nat.le_trans hC.size ((fun _ h=>nomatch h) x hx);have hM:MS (blkL none++(M)) w:=(MS.app (fun _ h=>nomatch h) (hM.chg (Chg.refl [] _)))
  obtain rfl:=oj H;refine rt2 ha rfl rfl rfl ?_;exact ⟨none,0,rfl,Own.nil,e_z7,hC,hM⟩
 ·refine wsr fun K8 hK8=>?_;obtain ⟨s9,H9,H⟩:=bind_some H;have J9:∀ (a:Act) (w9:World),Has a Tryz.f40.ntmps [(0,.slice ao1 a0.length cap1),(1,.int .i64 a1),(2,.int .i64 a2),(17,.bool s9)]→(RSl (rInt .u8) 5 w9 (M) ao1 cap1 a0)→(Chg [] w w9)→(MS (M) w9)→K8 a w9:=by
   intro a w9 ha f1 hC hM;refine hK8 _ _ ?_;refine cnH H ha (fun hc10 H=>?_) (fun hc10 H=>?_)
   ·refine sq ha 2 [(6,.slice none 0 0),(7,.int .i64 5)] fun a ha=>?_;refine wrt ?_;have e_z12:∀ x∈blkL none,w.heap.size≤x:=fun x hx=>Nat.le_trans hC.size ((fun _ h=>nomatch h) x hx);have hM:MS (blkL none++(M)) w9:=(MS.app (fun _ h=>nomatch h) (hM.chg (Chg.refl [] _)))
    obtain rfl:=oj H;refine rt2 ha rfl rfl rfl ?_;exact ⟨none,0,rfl,Own.nil,e_z12,hC,hM⟩
   ·refine wp_skip ?_;refine hK3 _ _ ?_;refine wsr fun K13 hK13=>?_;refine sd ha 1 [0,17] [(27,.slice ao1 a0.length cap1)] fun a ha=>?_;obtain ⟨t14,H14,H⟩:=bind_some H;refine cL ha (bytes_Clone.walk w9 _ hM a0 ao1 cap1 f1 _ H14) ?_;rintro _ w14 ⟨ao15,cap15,rfl,f15,ne_i15,hc14,hMn⟩ a ha;have o1:=oN M w9;have o2:Ok (blkL ao15++(M)) (M) w9.heap.size:=(Ok.app (fun x h=>.inr (ne_i15 x h)) (Ok.refl _ _))
    have p_i15_M:=pn (B:=M) hM ne_i15 fun _ hy=>hy;have e_i15:=eN hC ne_i15;have hM:MS (blkL ao15++(M)) w14:=(MS.app (fun x h=>hMn x (ml h)) (hM.chg hc14))
    have hC:=hC.t0 hc14;refine sd ha 1 [27] [(8,.slice ao15 t14.length cap15)] fun a ha=>?_;refine hK13 _ _ ?_;refine wp_seq_k fun K16 hK16=>?_;refine sqd ha 4 [2] [(9,.int .i64 (IntKind.i64.wrap ((8:Int)*(IntKind.i64.wrap (a2 - (1:Int))))))] fun a ha=>?_;refine wp_block ?_;obtain ⟨s18,H18,H⟩:=bind_some H;have J18:∀ (a:Act) (wx18:World) (ao22:Option Addr) (cap22:Nat),Has a Tryz.f40.ntmps [(8,.slice ao22 s18.length cap22)]→(Own (rInt .u8) 5 wx18 (blkL ao22++(M)) ao22 cap22 s18)→(∀ x∈blkL ao22,w.heap.size≤x)→(∀ x∈blkL ao22,x∉M)→(Chg [] w wx18)→(MS (blkL ao22++(M)) wx18)→K16 a wx18:=by
     intro a wx18 ao22 cap22 ha f22 e_i22 p_i22_M hC hM;refine hK16 _ _ ?_;refine sq ha 3 [(6,.slice ao22 s18.length cap22),(7,.int .i64 0)] fun a ha=>?_;refine wrt ?_;obtain rfl:=oj H;refine rt2 ha rfl rfl rfl ?_;exact ⟨ao22,cap22,rfl,f22,e_i22,hC,hM⟩
    have Hc18:=H;have H:=H18;refine wp_loop_ghost (fun kk a w18=>∃ (x20:List Int) (x21:Int) (ao19:Option Addr) (cap19:Nat),cursor_Put.l0 a1 kk x20 x21=some s18∧Has a Tryz.f40.ntmps [(1,.int .i64 a1),(8,.slice ao19 x20.length cap19),(9,.int .i64 x21)]∧(Own (rInt .u8) 5 w18 (blkL ao19++(M)) ao19 cap19 x20)∧(∀ x∈blkL ao19,w.heap.size≤x)∧(∀ x∈blkL ao19,x∉M)∧(Chg [] w w18)∧(MS (blkL ao19++(M)) w18)) k ?_ ?_
    ·skip;exact ⟨t14,IntKind.i64.wrap ((8:Int)*(IntKind.i64.wrap (a2 - (1:Int)))),ao15,cap15,H,(ha.sel (by kernel_rfl)),f15,e_i15,p_i15_M,hC,hM⟩
    ·rintro kk a w18 ⟨x20,x21,ao19,cap19,H,ha,f19,e_i19,p_i19_M,hC,hM⟩;obtain _ | kk:=kk
     ·exact nomatch (show none=some _ from H)
     rw [cursor_Put.l0] at H;refine wp_seq_k fun K24 hK24=>?_;refine sqd ha 2 [] [(33,.bool (decide (x21 ≥ (0:Int))))] fun a ha=>?_;refine cnH H ha (fun hc26 H=>?_) (fun hc26 H=>?_)
     ·refine wp_skip ?_;refine hK24 _ _ ?_;refine wp_seq_k fun K27 hK27=>?_;refine wp_block ?_;refine wp_region_lit ?_;refine sd ha 3 [8,33] [(36,.slice ao19 x20.length cap19),(37,.int .i64 a1),(38,.int .i64 x21)] fun a ha=>?_;obtain ⟨hx28,H⟩:=ite_some H;refine hop (v:=.int .i64 (Int.fdiv a1 (2^(min (Int.toNat x21) IntKind.i64.bits)))) (w':=w18) ha rfl rfl rfl (shr_run ha (by rfl) (by rfl) hx28 _) fun a ha=>?_;refine sd ha 1 [37,38] [(40,.int .u8 (IntKind.u8.wrap (Int.fdiv a1 (2^(min (Int.toNat x21) IntKind.i64.bits)))))] fun a ha=>?_;refine bsl (vals:=([.int .u8 (IntKind.u8.wrap (Int.fdiv a1 (2^(min (Int.toNat x21) IntKind.i64.bits))))]:List Value)) (T:=5) ha rfl (([.int .u8 (IntKind.u8.wrap (Int.fdiv a1 (2^(min (Int.toNat x21) IntKind.i64.bits))))]:List Value)++([]:List Value)) (fun w=>by kernel_rfl) rfl rfl rfl fun a w29 g30 hN31 ha=>?_;have o1:=oN (blkL ao19++(M)) w18;have o2:=oA hN31 (blkL ao19++(M));have f19:=f19.chg hN31.chg o1 o2 (fun _ _ h=>nomatch h) (fun _ h=>mr (ml h));have hM:=MS.app hN31.ms (hM.chg hN31.chg);have hC:=hC.t0 hN31.chg;have f33:Own (rInt .u8) 5 w29 ([g30]++(blkL ao19++(M))) (some ⟨g30,0,none⟩) 1 ([IntKind.u8.wrap (Int.fdiv a1 (2^(min (Int.toNat x21) IntKind.i64.bits)))]:List Int):=hN31.own ⟨([.int .u8 (IntKind.u8.wrap (Int.fdiv a1 (2^(min (Int.toNat x21) IntKind.i64.bits))))]:List Value),_,rfl,rfl,rfl⟩ (Nat.le_of_ble_eq_true rfl);obtain ⟨hx34,H⟩:=ite_some H;refine app (r:=(rInt .u8)) (xs:=x20) (ys:=([IntKind.u8.wrap (Int.fdiv a1 (2^(min (Int.toNat x21) IntKind.i64.bits)))]:List Int)) ha (ElemT.mk' (bytes:=1) (by kernel_rfl)) rfl rfl rfl rfl rfl f19 f33.src hx34 (by decide) fun a w35 ao36 cap36 hO36 hc36 hk36 hl36 ha=>?_;have p_i36_M:=pf (B:=M) hk36 p_i19_M hM fun _ hy=>mr (mr (hy));have e_i36:=ef hk36 e_i19 hC;have hM:MS (blkL ao36++([g30]++(M))) w35:=(MS.app hl36 (MS.app (fun x h=>hM.chg hc36 x (ml h)) (fun x h=>hM.chg hc36 x (mr (mr (h))))))
      have hC:=hC.t1 hc36 e_i19;have f36:=hO36.chg (M':=blkL ao36++([g30]++(M))) (Chg.refl [] _) (Ok.nil _ _) (Ok.app (fun _ h=>.inl (ml h)) (Ok.to (Ok.app (fun _ h=>.inl (ml h)) (fun _ h=>.inl (mr (mr (h))))) (fun _ h=>mr h))) (fun _ _ h=>nomatch h) (fun _ h=>ml h);refine sd ha 1 [36,40] [(8,.slice ao36 (x20++([IntKind.u8.wrap (Int.fdiv a1 (2^(min (Int.toNat x21) IntKind.i64.bits)))]:List Int)).length cap36)] fun a ha=>?_;refine hK27 _ _ ?_;refine wp_region_lit ?_;refine sd ha 3 [] [(9,.int .i64 (IntKind.i64.wrap (x21 - (8:Int))))] fun a ha=>?_;have o1:=oN (blkL ao36++([g30]++(M))) w35;have o2:Ok (blkL ao36++(M)) (blkL ao36++([g30]++(M))) w35.heap.size:=(Ok.app (fun _ h=>.inl (ml h)) (fun _ h=>.inl (mr (mr (h)))))
      have f36:=f36.chg (Chg.refl [] _) o1 o2 (fun _ _ h=>nomatch h) (fun _ h=>ml h);have hM:MS (blkL ao36++(M)) w35:=(MS.app (fun x h=>hM.chg (Chg.refl [] _) x (ml h)) (fun x h=>hM.chg (Chg.refl [] _) x (mr (mr (h)))))
      exact ⟨kk,Nat.lt_succ_self _,⟨(x20++([IntKind.u8.wrap (Int.fdiv a1 (2^(min (Int.toNat x21) IntKind.i64.bits)))]:List Int)),IntKind.i64.wrap (x21 - (8:Int)),ao36,cap36,H,(ha.sel (by kernel_rfl)),f36,e_i36,p_i36_M,hC,hM⟩⟩
     ·refine wx ?_;obtain rfl:=oj H;exact J18 _ _ ao19 cap19 (ha.sel (by kernel_rfl)) f19 e_i19 p_i19_M hC hM
  have H:=H9;refine sd ha 3 [10] [(20,.bool (decide (a1 < (0:Int))))] fun a ha=>?_;rcases Bool.eq_false_or_eq_true (decide (a1 < (0:Int))) with hb37 | hb37
  ·have ha:=ha.lit hb37;have H:=ite_t hb37 H;refine sgd ha 7 [1,1,1,1,1,3,0] [20] [(17,.bool true)] fun a ha=>?_;obtain rfl:=oj H;exact J9 _ _ (ha.sel (by kernel_rfl)) f1 hC hM
  ·have ha:=ha.lit hb37;have H:=ite_f hb37 H;refine sgd ha 3 [2,2,2] [] [(20,.bool false),(21,.int .i64 a1),(23,.int .i64 (IntKind.i64.wrap ((8:Int)*a2)))] fun a ha=>?_;obtain ⟨hx38,H⟩:=ite_some H;refine hop (v:=.int .i64 (Int.fdiv a1 (2^(min (Int.toNat (IntKind.i64.wrap ((8:Int)*a2))) IntKind.i64.bits)))) (w':=w) ha rfl rfl rfl (shr_run ha (by rfl) (by rfl) hx38 _) fun a ha=>?_;refine sgd ha 3 [2,4,0] [20,21,23] [(17,.bool ((Int.fdiv a1 (2^(min (Int.toNat (IntKind.i64.wrap ((8:Int)*a2))) IntKind.i64.bits))) != (0:Int)))] fun a ha=>?_;obtain rfl:=oj H;exact J9 _ _ (ha.sel (by kernel_rfl)) f1 hC hM
def rd_Make.f (k:Nat) (a0:Int) (a1:Int) (a2:Int):Option (List Int×Int):=(rd_highSize.f a0).bind fun t7=>(if (!t7.2)=true then some ((([(0:Int),(0:Int),(0:Int),(0:Int),(0:Int),(0:Int),(0:Int),(0:Int)]:List Int):List Int),((1:Int):Int)) else (cursor_Put.f k ([]:List Int) a0 (2:Int)).bind fun t15=>(cursor_Put.f k t15.1 a1 t7.1).bind fun t18=>((if (t18.2==(0:Int))=true then (cursor_Put.f k t18.1 a2 (IntKind.i64.wrap ((6:Int) - t7.1))).bind fun t42=>some ((t42.1:List Int),(t42.2:Int)) else some ((t18.1:List Int),(t18.2:Int)))).bind fun s21=>(if (s21.2 != (0:Int))=true then some ((([(0:Int),(0:Int),(0:Int),(0:Int),(0:Int),(0:Int),(0:Int),(0:Int)]:List Int):List Int),(s21.2:Int)) else some (((arC 8 (List.replicate 8 (0:Int)) s21.1):List Int),((0:Int):Int))))
set_option maxRecDepth 100000 in
theorem rd_Make.walk (w:World) (M:List Nat) (hM:MS M w) (a0:Int) (a1:Int) (a2:Int) (k:Nat) (r:List Int×Int) (H:rd_Make.f k a0 a1 a2=some r) :
    To Tryz.prog 37 [.int .i64 a0,.int .i64 a1,.int .i64 a2] w fun v w'=>v=.tuple #[.agg (cA .u8 8 r.1).toArray,.int .i64 r.2]∧Chg [] w w'∧MS (M) w':=by
 unfold rd_Make.f at H;refine ent Tryz.func37 rfl [(0,.int .i64 a0),(1,.int .i64 a1),(2,.int .i64 a2)] rfl (by rfl) fun a ha=>?_;have hC:Chg [] w w:=Chg.refl _ _;refine wsr fun K1 hK1=>?_;refine alE (cA .u8 8 (List.replicate 8 (0:Int))) ha fun a w2 g3 hN4 ha=>?_;have e_i5:=eN hC (hN4.ge1);have hM:=MS.app hN4.ms (hM.chg hN4.chg);have hC:=hC.t0 hN4.chg;have hBg3:=hN4.box;refine sd ha 1 [] [(6,pt g3 0)] fun a ha=>?_;refine hK1 _ _ ?_;refine wsr fun K6 hK6=>?_;refine sd ha 1 [] [(15,.int .i64 a0)] fun a ha=>?_;obtain ⟨t7,H7,H⟩:=bind_some H;refine cL ha (rd_highSize.walk w2 _ hM a0 _ H7) ?_;rintro _ w7 ⟨rfl,hc7,hMn⟩ a ha;have hBg3:=hBg3.c0 hc7;have hM:=hM.chg hc7;have hC:=hC.t0 hc7;refine sd ha 5 [15] [(8,.int .i64 t7.1),(9,.bool t7.2)] fun a ha=>?_;refine hK6 _ _ ?_;refine wp_seq_k fun K8 hK8=>?_;refine sqd ha 2 [9] [(20,.bool (!t7.2))] fun a ha=>?_;refine cnH H ha (fun hc10 H=>?_) (fun hc10 H=>?_)
 ·refine wsr fun K11 hK11=>?_;refine oP (.agg (cA .u8 8 ([(0:Int),(0:Int),(0:Int),(0:Int),(0:Int),(0:Int),(0:Int),(0:Int)]:List Int)).toArray) ha fun a ha=>?_;refine stE (cA .u8 8 ([(0:Int),(0:Int),(0:Int),(0:Int),(0:Int),(0:Int),(0:Int),(0:Int)]:List Int)) ha hBg3 fun a w12 ha hBg3 hc13 _=>?_;have hM:=hM.chg hc13;have hC:=hC.t1 hc13 e_i5;refine sf ha 1 [(6,pt g3 0),(7,.int .i64 1)] fun a ha=>?_;refine hK11 _ _ ?_;refine wrt ?_;have hM:MS M w12:=hM.sb fun _ h=>mr (h);obtain rfl:=oj H;refine rtr ha (res2 rfl (roA ha rfl hBg3 (by kernel_rfl)) (roT ha rfl)) ?_;exact ⟨rfl,hC,hM⟩
 ·refine wp_skip ?_;refine hK8 _ _ ?_;refine wsr fun K14 hK14=>?_;refine sd ha 1 [0,20] [(23,.int .i64 a0)] fun a ha=>?_;obtain ⟨t15,H15,H⟩:=bind_some H;refine cL ha (cursor_Put.walk w7 _ hM ([]:List Int) none 0 (RSl.nil (Nat.zero_le _)) a0 (2:Int) k _ H15) ?_;rintro _ w15 ⟨ao16,cap16,rfl,f16,ne_i16,hc15,hMn⟩ a ha;have hBg3:=hBg3.c0 hc15;have p_i16_i5:=pn (B:=[g3]) hM ne_i16 fun _ hy=>ml hy;have p_i16_M:=pn (B:=M) hM ne_i16 fun _ hy=>mr (hy);have hM:MS (blkL ao16++([g3]++(M))) w15:=(MS.app (fun x h=>hMn x (ml h)) (hM.chg hc15))
  have hC:=hC.t0 hc15;refine sd ha 5 [23] [(10,.slice ao16 t15.1.length cap16)] fun a ha=>?_;refine hK14 _ _ ?_;refine wsr fun K17 hK17=>?_;refine sd ha 3 [1,10] [(28,.slice ao16 t15.1.length cap16),(29,.int .i64 a1),(30,.int .i64 t7.1)] fun a ha=>?_;have hML:MS ([g3]++(M)) w15:=MS.rest hM (fun _ h=>(List.mem_append.1 h).elim (fun h=>mr (ml h)) (fun h=>mr (mr (h))));have oL:Ok ([g3]++(M)) (blkL ao16++([g3]++(M))) w15.heap.size:=(fun _ h=>.inl (mr (h)))
  obtain ⟨t18,H18,H⟩:=bind_some H;refine cL ha (cursor_Put.walk w15 _ hML t15.1 ao16 cap16 (Own.toRSl (M':=[g3]++(M)) f16 oL (fun x hx hm=>(List.mem_append.1 hm).elim (fun h=>p_i16_i5 x hx h) (fun h=>p_i16_M x hx h))) a1 t7.1 k _ H18) ?_;rintro _ w18 ⟨ao19,cap19,rfl,f19,ne_i19,hc18,hMn⟩ a ha;have o1:=oN (blkL ao16++([g3]++(M))) w15;have o2:Ok (blkL ao19++(blkL ao16++([g3]++(M)))) (blkL ao16++([g3]++(M))) w15.heap.size:=(Ok.app (fun x h=>.inr (ne_i19 x h)) (Ok.refl _ _))
  have hBg3:=hBg3.c0 hc18;have p_i19_i16:=pn (B:=(blkL ao16)) hM ne_i19 fun _ hy=>ml hy;have p_i19_i5:=pn (B:=[g3]) hM ne_i19 fun _ hy=>mr (ml hy);have p_i19_M:=pn (B:=M) hM ne_i19 fun _ hy=>mr (mr (hy));have e_i19:=eN hC ne_i19;have hM:MS (blkL ao19++(blkL ao16++([g3]++(M)))) w18:=(MS.app (fun x h=>hMn x (ml h)) (hM.chg hc18))
  have hC:=hC.t0 hc18;have f19:=Own.re (M':=blkL ao19++(blkL ao16++([g3]++(M)))) (fun _ _ _ _ _ h=>h) f19 (fun _ h=>ml h);refine sd ha 5 [28,29,30] [(10,.slice ao19 t18.1.length cap19),(12,.int .i64 t18.2)] fun a ha=>?_;refine hK17 _ _ ?_;refine wp_seq_k fun K20 hK20=>?_;obtain ⟨s21,H21,H⟩:=bind_some H;have J21:∀ (a:Act) (w21:World) (ao22:Option Addr) (cap22:Nat),Has a Tryz.f37.ntmps [(6,pt g3 0),(10,.slice ao22 s21.1.length cap22),(12,.int .i64 s21.2)]→(Own (rInt .u8) 5 w21 (blkL ao22++([g3]++(M))) ao22 cap22 s21.1)→(Box w21 g3 (cA .u8 8 (List.replicate 8 (0:Int))))→(∀ x∈blkL ao22,w.heap.size≤x)→(∀ x∈blkL ao22,x∉[g3])→(∀ x∈blkL ao22,x∉M)→(Chg [] w w21)→(MS (blkL ao22++([g3]++(M))) w21)→K20 a w21:=by
   intro a w21 ao22 cap22 ha f22 hBg3 e_i22 p_i22_i5 p_i22_M hC hM;refine hK20 _ _ ?_;refine wp_seq_k fun K23 hK23=>?_;refine sqd ha 2 [] [(45,.bool (s21.2 != (0:Int)))] fun a ha=>?_;refine cnH H ha (fun hc25 H=>?_) (fun hc25 H=>?_)
   ·refine wsr fun K26 hK26=>?_;refine oP (.agg (cA .u8 8 ([(0:Int),(0:Int),(0:Int),(0:Int),(0:Int),(0:Int),(0:Int),(0:Int)]:List Int)).toArray) ha fun a ha=>?_;refine sf ha 1 [(6,pt g3 0),(46,.agg (cA .u8 8 ([(0:Int),(0:Int),(0:Int),(0:Int),(0:Int),(0:Int),(0:Int),(0:Int)]:List Int)).toArray),(47,.int .i64 s21.2)] fun a ha=>?_;refine stE (cA .u8 8 ([(0:Int),(0:Int),(0:Int),(0:Int),(0:Int),(0:Int),(0:Int),(0:Int)]:List Int)) ha hBg3 fun a w27 ha hBg3 hc28 _=>?_;have hM:=hM.chg hc28;have hC:=hC.t1 hc28 e_i5;refine sd ha 1 [46,47] [(7,.int .i64 s21.2)] fun a ha=>?_;refine hK26 _ _ ?_;refine wrt ?_;have hM:MS M w27:=hM.sb fun _ h=>mr (mr (h));obtain rfl:=oj H;refine rtr ha (res2 rfl (roA ha rfl hBg3 (by kernel_rfl)) (roT ha rfl)) ?_;exact ⟨rfl,hC,hM⟩
   ·refine wp_skip ?_;refine hK23 _ _ ?_;refine wsr fun K29 hK29=>?_;refine alE (cA .u8 8 (List.replicate 8 (0:Int))) ha fun a w30 g31 hN32 ha=>?_;have o1:=oN (blkL ao22++([g3]++(M))) w21;have o2:=oA hN32 (blkL ao22++([g3]++(M)));have f22:=f22.chg hN32.chg o1 o2 (fun _ _ h=>nomatch h) (fun _ h=>mr (ml h));have hBg3:=hBg3.c0 hN32.chg;have p_i33_i5:=pn (B:=[g3]) hM (hN32.ge1) fun _ hy=>mr (ml hy);have e_i33:=eN hC (hN32.ge1);have hM:=MS.app hN32.ms (hM.chg hN32.chg);have hC:=hC.t0 hN32.chg;have hBg31:=hN32.box;refine hK29 _ _ ?_;refine wsr fun K34 hK34=>?_;refine oP (.slice (some ⟨g31,0,none⟩) 8 8) ha fun a ha=>?_;refine sf ha 1 [(6,pt g3 0),(13,pt g31 0),(48,.slice (some ⟨g31,0,none⟩) 8 8),(49,.slice ao22 s21.1.length cap22)] fun a ha=>?_;refine cpyA (T:=5) (k:=.u8) (x0:=(List.replicate 8 (0:Int))) (N:=8) ([]:List Value) ([]:List Value) ha (by kernel_rfl) (by kernel_rfl) rfl rfl rfl rfl rfl hBg31 (by kernel_rfl) (Own.toRSl (M':=[]) f22 (Ok.nil _ _) (fun _ _ h=>nomatch h)) fun a w35 hb2 hc36 ha=>?_;have hBg3:=hBg3.chg hc36 ((fun x (hx:x∈[g3]) (hy:x∈[g31])=>p_i33_i5 x hy hx) g3 (by simp));have hM:=hM.chg hc36;have hC:=hC.t1 hc36 e_i33;have hBg31:Box w35 g31 (cA .u8 8 (arC 8 (List.replicate 8 (0:Int)) s21.1)):=hb2.cast (by kernel_rfl);refine hK34 _ _ ?_;refine wsr fun K37 hK37=>?_;refine ldE (Box.cells hBg31) ha fun a ha=>?_;refine stE (cA .u8 8 (arC 8 (List.replicate 8 (0:Int)) s21.1)) ha hBg3 fun a w38 ha hBg3 hc39 _=>?_;have hM:=hM.chg hc39;have hC:=hC.t1 hc39 e_i5;refine sf ha 1 [(6,pt g3 0),(7,.int .i64 0)] fun a ha=>?_;refine hK37 _ _ ?_;refine wrt ?_;have hM:MS M w38:=hM.sb fun _ h=>mr (mr (mr (h)));obtain rfl:=oj H;refine rtr ha (res2 rfl (roA ha rfl hBg3 (by kernel_rfl)) (roT ha rfl)) ?_;exact ⟨rfl,hC,hM⟩
  have H:=H21;refine sqd ha 2 [] [(35,.bool (t18.2==(0:Int)))] fun a ha=>?_;refine cnH H ha (fun hc41 H=>?_) (fun hc41 H=>?_)
  ·refine wp_region_lit ?_;refine sf ha 4 [(6,pt g3 0),(37,.slice ao19 t18.1.length cap19),(38,.int .i64 a2),(40,.int .i64 (IntKind.i64.wrap ((6:Int) - t7.1)))] fun a ha=>?_;have hML:MS (blkL ao16++([g3]++(M))) w18:=MS.rest hM (fun _ h=>(List.mem_append.1 h).elim (fun h=>mr (ml h)) (fun h=>(List.mem_append.1 h).elim (fun h=>mr (mr (ml h))) (fun h=>mr (mr (mr (h))))));have oL:Ok (blkL ao16++([g3]++(M))) (blkL ao19++(blkL ao16++([g3]++(M)))) w18.heap.size:=(fun _ h=>.inl (mr (h)))
   obtain ⟨t42,H42,H⟩:=bind_some H;refine cL ha (cursor_Put.walk w18 _ hML t18.1 ao19 cap19 (Own.toRSl (M':=blkL ao16++([g3]++(M))) f19 oL (fun x hx hm=>(List.mem_append.1 hm).elim (fun h=>p_i19_i16 x hx h) (fun h=>(List.mem_append.1 h).elim (fun h=>p_i19_i5 x hx h) (fun h=>p_i19_M x hx h)))) a2 (IntKind.i64.wrap ((6:Int) - t7.1)) k _ H42) ?_;rintro _ w42 ⟨ao43,cap43,rfl,f43,ne_i43,hc42,hMn⟩ a ha;have o1:=oN (blkL ao19++(blkL ao16++([g3]++(M)))) w18;have o2:Ok (blkL ao43++(blkL ao19++(blkL ao16++([g3]++(M))))) (blkL ao19++(blkL ao16++([g3]++(M)))) w18.heap.size:=(Ok.app (fun x h=>.inr (ne_i43 x h)) (Ok.refl _ _))
   have f19:=f19.chg hc42 o1 o2 (fun _ _ h=>nomatch h) (fun _ h=>mr (ml h));have hBg3:=hBg3.c0 hc42;have p_i43_i5:=pn (B:=[g3]) hM ne_i43 fun _ hy=>mr (mr (ml hy));have p_i43_M:=pn (B:=M) hM ne_i43 fun _ hy=>mr (mr (mr (hy)));have e_i43:=eN hC ne_i43;have hM:MS (blkL ao43++(blkL ao19++(blkL ao16++([g3]++(M))))) w42:=(MS.app (fun x h=>hMn x (ml h)) (hM.chg hc42))
   have hC:=hC.t0 hc42;have f43:=Own.re (M':=blkL ao43++(blkL ao19++(blkL ao16++([g3]++(M))))) (fun _ _ _ _ _ h=>h) f43 (fun _ h=>ml h);refine sf ha 5 [(6,pt g3 0),(10,.slice ao43 t42.1.length cap43),(12,.int .i64 t42.2)] fun a ha=>?_;obtain rfl:=oj H;have o1:=oN (blkL ao43++(blkL ao19++(blkL ao16++([g3]++(M))))) w42;have o2:Ok (blkL ao43++([g3]++(M))) (blkL ao43++(blkL ao19++(blkL ao16++([g3]++(M))))) w42.heap.size:=(Ok.app (fun _ h=>.inl (ml h)) (fun _ h=>.inl (mr (mr (mr (h))))))
   have f43:=f43.chg (Chg.refl [] _) o1 o2 (fun _ _ h=>nomatch h) (fun _ h=>ml h);have hM:MS (blkL ao43++([g3]++(M))) w42:=(MS.app (fun x h=>hM.chg (Chg.refl [] _) x (ml h)) (fun x h=>hM.chg (Chg.refl [] _) x (mr (mr (mr (h))))))
   exact J21 _ _ ao43 cap43 (ha.sel (by kernel_rfl)) f43 hBg3 e_i43 p_i43_i5 p_i43_M hC hM
  ·refine wp_skip ?_;obtain rfl:=oj H;have o1:=oN (blkL ao19++(blkL ao16++([g3]++(M)))) w18;have o2:Ok (blkL ao19++([g3]++(M))) (blkL ao19++(blkL ao16++([g3]++(M)))) w18.heap.size:=(Ok.app (fun _ h=>.inl (ml h)) (fun _ h=>.inl (mr (mr (h)))))
   have f19:=f19.chg (Chg.refl [] _) o1 o2 (fun _ _ h=>nomatch h) (fun _ h=>ml h);have hM:MS (blkL ao19++([g3]++(M))) w18:=(MS.app (fun x h=>hM.chg (Chg.refl [] _) x (ml h)) (fun x h=>hM.chg (Chg.refl [] _) x (mr (mr (h)))))
   exact J21 _ _ ao19 cap19 (ha.sel (by kernel_rfl)) f19 hBg3 e_i19 p_i19_i5 p_i19_M hC hM
def community_of.f (a0:Int) (a1:Int) (a2:List Int):Option (List Int):=some ((((arL 8 ((arL 8 ((arL 8 (List.replicate 8 (0:Int))).set 0 a0)).set 1 a1)).take 2++arC 6 ((arL 8 ((arL 8 ((arL 8 (List.replicate 8 (0:Int))).set 0 a0)).set 1 a1)).drop 2) a2):List Int))
set_option maxRecDepth 100000 in
theorem community_of.walk (w:World) (M:List Nat) (hM:MS M w) (a0:Int) (a1:Int) (a2:List Int) (ao1:Option Addr) (cap1:Nat) (f1:RSl (rInt .u8) 5 w M ao1 cap1 a2) (r:List Int) (H:community_of.f a0 a1 a2=some r) :
    To Tryz.prog 38 [.int .u8 a0,.int .u8 a1,.slice ao1 a2.length cap1] w fun v w'=>v=.agg (cA .u8 8 r).toArray∧Chg [] w w'∧MS (M) w':=by
 unfold community_of.f at H;refine ent Tryz.func38 rfl [(0,.int .u8 a0),(1,.int .u8 a1),(2,.slice ao1 a2.length cap1)] rfl (by rfl) fun a ha=>?_;have hC:Chg [] w w:=Chg.refl _ _;refine wsr fun K2 hK2=>?_;refine alE (cA .u8 8 (List.replicate 8 (0:Int))) ha fun a w3 g4 hN5 ha=>?_;have o1:=oN M w;have o2:=oA hN5 M;have f1:=f1.chg hN5.chg o1 o2;have e_i6:=eN hC (hN5.ge1);have hM:=MS.app hN5.ms (hM.chg hN5.chg);have hC:=hC.t0 hN5.chg;have hBg4:=hN5.box;refine hK2 _ _ ?_;refine wsr fun K7 hK7=>?_;refine sd ha 2 [0,1] [(6,pt g4 0),(7,.int .u8 a0),(8,.int .u8 a1)] fun a ha=>?_;have hi8:0 < 8:=by decide
 refine iA 5 8 g4 0 .i64 ((0:Int)) (by decide) (by decide) ha fun a ha=>?_;refine st (o':=0+0) ha rfl rfl rfl (by kernel_rfl) rfl rfl hBg4 (arr_lt (k:=.u8) (m:=8) (x:=(List.replicate 8 (0:Int))) ([]:List Value) ([]:List Value) (by kernel_rfl) hi8) fun a w9 ha hb2 hc10 _=>?_;have o1:Ok [g4] ([g4]++(M)) w3.heap.size:=(fun _ h=>.inl (ml h))
 have o2:=oR ([g4]++(M)) w3;have f1:=f1.chg hc10 o1 o2;have hM:=hM.chg hc10;have hC:=hC.t1 hc10 e_i6;have hBg4:Box w9 g4 (cA .u8 8 ((arL 8 (List.replicate 8 (0:Int))).set 0 a0)):=Box.setA (k:=.u8) (m:=8) (x:=(List.replicate 8 (0:Int))) ([]:List Value) ([]:List Value) hb2 (by kernel_rfl) hi8 (by kernel_rfl);have hi11:1 < 8:=by decide
 refine iA 5 8 g4 0 .i64 ((1:Int)) (by decide) (by decide) ha fun a ha=>?_;refine st (o':=0+1) ha rfl rfl rfl (by kernel_rfl) rfl rfl hBg4 (arr_lt (k:=.u8) (m:=8) (x:=((arL 8 (List.replicate 8 (0:Int))).set 0 a0)) ([]:List Value) ([]:List Value) (by kernel_rfl) hi11) fun a w12 ha hb2 hc13 _=>?_;have o1:Ok [g4] ([g4]++(M)) w9.heap.size:=(fun _ h=>.inl (ml h))
 have o2:=oR ([g4]++(M)) w9;have f1:=f1.chg hc13 o1 o2;have hM:=hM.chg hc13;have hC:=hC.t1 hc13 e_i6;have hBg4:Box w12 g4 (cA .u8 8 ((arL 8 ((arL 8 (List.replicate 8 (0:Int))).set 0 a0)).set 1 a1)):=Box.setA (k:=.u8) (m:=8) (x:=((arL 8 (List.replicate 8 (0:Int))).set 0 a0)) ([]:List Value) ([]:List Value) hb2 (by kernel_rfl) hi11 (by kernel_rfl);refine hK7 _ _ ?_;refine wsr fun K14 hK14=>?_;refine oP (.slice (some ⟨g4,2,none⟩) 6 6) ha fun a ha=>?_;refine sd ha 1 [2,7,8] [(11,.slice (some ⟨g4,2,none⟩) 6 6),(12,.slice ao1 a2.length cap1)] fun a ha=>?_;refine cpyA (T:=5) (k:=.u8) (x0:=((arL 8 ((arL 8 ((arL 8 (List.replicate 8 (0:Int))).set 0 a0)).set 1 a1)).drop 2)) (N:=6) ([.int .u8 (ar ((arL 8 ((arL 8 (List.replicate 8 (0:Int))).set 0 a0)).set 1 a1) 0),.int .u8 (ar ((arL 8 ((arL 8 (List.replicate 8 (0:Int))).set 0 a0)).set 1 a1) 1)]:List Value) ([]:List Value) ha (by kernel_rfl) (by kernel_rfl) rfl rfl rfl rfl rfl hBg4 (by kernel_rfl) f1 fun a w15 hb2 hc16 ha=>?_;have hM:=hM.chg hc16;have hC:=hC.t1 hc16 e_i6;have hBg4:Box w15 g4 (cA .u8 8 ((arL 8 ((arL 8 ((arL 8 (List.replicate 8 (0:Int))).set 0 a0)).set 1 a1)).take 2++arC 6 ((arL 8 ((arL 8 ((arL 8 (List.replicate 8 (0:Int))).set 0 a0)).set 1 a1)).drop 2) a2)):=hb2.cast (by kernel_rfl);refine hK14 _ _ ?_;refine wsr fun K17 hK17=>?_;refine ldE (Box.cells hBg4) ha fun a ha=>?_;refine stE (cA .u8 8 ((arL 8 ((arL 8 ((arL 8 (List.replicate 8 (0:Int))).set 0 a0)).set 1 a1)).take 2++arC 6 ((arL 8 ((arL 8 ((arL 8 (List.replicate 8 (0:Int))).set 0 a0)).set 1 a1)).drop 2) a2)) ha hBg4 fun a w18 ha hBg4 hc19 _=>?_;have hM:=hM.chg hc19;have hC:=hC.t1 hc19 e_i6;refine hK17 _ _ ?_;refine wrt ?_;have hM:MS M w18:=hM.sb fun _ h=>mr (h);obtain rfl:=oj H;refine rtr ha (res1 rfl (roA ha rfl hBg4 (by kernel_rfl))) ?_;exact ⟨rfl,hC,hM⟩
def community_Target.f (k:Nat) (a0:Int) (a1:Int) (a2:Int):Option (List Int×Int):=(rd_Make.f k a0 a1 a2).bind fun t7=>(if (t7.2 != (0:Int))=true then some ((([(0:Int),(0:Int),(0:Int),(0:Int),(0:Int),(0:Int),(0:Int),(0:Int)]:List Int):List Int),(t7.2:Int)) else (if 0≤(2:Int)∧(2:Int)≤(8:Int)∧(8:Int)≤(8:Int) then (community_of.f (IntKind.u8.wrap a0) (2:Int) (((arL 8 t7.1).take (Int.toNat (8:Int))).drop (Int.toNat (2:Int)))).bind fun t23=>some ((t23:List Int),((0:Int):Int)) else none))
set_option maxRecDepth 100000 in
theorem community_Target.walk (w:World) (M:List Nat) (hM:MS M w) (a0:Int) (a1:Int) (a2:Int) (k:Nat) (r:List Int×Int) (H:community_Target.f k a0 a1 a2=some r) :
    To Tryz.prog 9 [.int .i64 a0,.int .i64 a1,.int .i64 a2] w fun v w'=>v=.tuple #[.agg (cA .u8 8 r.1).toArray,.int .i64 r.2]∧Chg [] w w'∧MS (M) w':=by
 unfold community_Target.f at H;refine ent Tryz.func9 rfl [(0,.int .i64 a0),(1,.int .i64 a1),(2,.int .i64 a2)] rfl (by rfl) fun a ha=>?_;have hC:Chg [] w w:=Chg.refl _ _;refine wsr fun K1 hK1=>?_;refine alE (cA .u8 8 (List.replicate 8 (0:Int))) ha fun a w2 g3 hN4 ha=>?_;have e_i5:=eN hC (hN4.ge1);have hM:=MS.app hN4.ms (hM.chg hN4.chg);have hC:=hC.t0 hN4.chg;have hBg3:=hN4.box;refine sd ha 1 [] [(6,pt g3 0)] fun a ha=>?_;refine hK1 _ _ ?_;refine wsr fun K6 hK6=>?_;refine sd ha 3 [1,2] [(11,.int .i64 a0),(12,.int .i64 a1),(13,.int .i64 a2)] fun a ha=>?_;obtain ⟨t7,H7,H⟩:=bind_some H;refine cL ha (rd_Make.walk w2 _ hM a0 a1 a2 k _ H7) ?_;rintro _ w7 ⟨rfl,hc7,hMn⟩ a ha;have hBg3:=hBg3.c0 hc7;have hM:=hM.chg hc7;have hC:=hC.t0 hc7;refine sd ha 3 [11,12,13] [(15,.agg (cA .u8 8 t7.1).toArray),(16,.int .i64 t7.2)] fun a ha=>?_;refine alE (cA .u8 8 (List.replicate 8 (0:Int))) ha fun a w8 g9 hN10 ha=>?_;have hBg3:=hBg3.c0 hN10.chg;have p_i11_i5:=pn (B:=[g3]) hM (hN10.ge1) fun _ hy=>ml hy;have p_i11_M:=pn (B:=M) hM (hN10.ge1) fun _ hy=>mr (hy);have e_i11:=eN hC (hN10.ge1);have hM:=MS.app hN10.ms (hM.chg hN10.chg);have hC:=hC.t0 hN10.chg;have hBg9:=hN10.box;refine stE (cA .u8 8 t7.1) ha hBg9 fun a w12 ha hBg9 hc13 _=>?_;have hBg3:=hBg3.chg hc13 ((fun x (hx:x∈[g3]) (hy:x∈[g9])=>p_i11_i5 x hy hx) g3 (by simp));have hM:=hM.chg hc13;have hC:=hC.t1 hc13 e_i11;refine sd ha 1 [15,16] [(8,pt g9 0),(9,.int .i64 t7.2)] fun a ha=>?_;refine hK6 _ _ ?_;refine wp_seq_k fun K14 hK14=>?_;refine sqd ha 2 [] [(18,.bool (t7.2 != (0:Int)))] fun a ha=>?_;refine cnH H ha (fun hc16 H=>?_) (fun hc16 H=>?_)
 ·refine wsr fun K17 hK17=>?_;refine oP (.agg (cA .u8 8 ([(0:Int),(0:Int),(0:Int),(0:Int),(0:Int),(0:Int),(0:Int),(0:Int)]:List Int)).toArray) ha fun a ha=>?_;refine sf ha 1 [(6,pt g3 0),(19,.agg (cA .u8 8 ([(0:Int),(0:Int),(0:Int),(0:Int),(0:Int),(0:Int),(0:Int),(0:Int)]:List Int)).toArray),(20,.int .i64 t7.2)] fun a ha=>?_;refine stE (cA .u8 8 ([(0:Int),(0:Int),(0:Int),(0:Int),(0:Int),(0:Int),(0:Int),(0:Int)]:List Int)) ha hBg3 fun a w18 ha hBg3 hc19 _=>?_;have hBg9:=hBg9.chg hc19 (p_i11_i5 g9 (by simp));have hM:=hM.chg hc19;have hC:=hC.t1 hc19 e_i5;refine sd ha 1 [19,20] [(7,.int .i64 t7.2)] fun a ha=>?_;refine hK17 _ _ ?_;refine wrt ?_;have hM:MS M w18:=hM.sb fun _ h=>mr (mr (h));obtain rfl:=oj H;refine rtr ha (res2 rfl (roA ha rfl hBg3 (by kernel_rfl)) (roT ha rfl)) ?_;exact ⟨rfl,hC,hM⟩
 ·refine wp_skip ?_;refine hK14 _ _ ?_;refine wsr fun K20 hK20=>?_;refine sd ha 2 [0,9,18] [(22,.int .u8 (IntKind.u8.wrap a0))] fun a ha=>?_;have fw21:RSl (rInt .u8) 5 w12 (butL g9 w12) (some ⟨g9,0,none⟩) 8 (arL 8 t7.1):=RSl.ofA ([]:List Value) ([]:List Value) (Box.cells hBg9) butL_self (by kernel_rfl) rfl;obtain ⟨⟨hx22,hx22',hx22''⟩,H⟩:=ite_some H;obtain ⟨ao22,cap22,f22,hr22⟩:=slA_run (kk:=.u8) (T:=5) (N:=8) (g:=g9) (o':=0) (xs:=(arL 8 t7.1)) (t:=56) (lo:=(Option.some (Operand.const (Value.int IntKind.i64 2)))) (hi:=Option.none) (l:=(2:Int)) (h:=(8:Int)) (dd:=some 23) (ty:=36) (pos := "community.go:34") (af:=#[]) (gd:=Option.none) ha (by kernel_rfl) (by kernel_rfl) (x:=(Operand.tmp 8)) rfl (arL_length _ _) rfl rfl fw21 hx22 hx22' (by rw [arL_length];exact hx22'');refine hop (v:=.slice ao22 (((arL 8 t7.1).take (Int.toNat (8:Int))).drop (Int.toNat (2:Int))).length cap22) (w':=w12) ha rfl rfl rfl (hr22 _) fun a ha=>?_;have hML:MS ([g3]++(M)) w12:=MS.rest hM (fun _ h=>(List.mem_append.1 h).elim (fun h=>mr (ml h)) (fun h=>mr (mr (h))));obtain ⟨t23,H23,H⟩:=bind_some H;refine cL ha (community_of.walk w12 _ hML (IntKind.u8.wrap a0) (2:Int) (((arL 8 t7.1).take (Int.toNat (8:Int))).drop (Int.toNat (2:Int))) ao22 cap22 (RSl.chg (M':=[g3]++(M)) f22 (Chg.refl [] _) (Ok.nil _ _) (butL_ok (fun x hm e0=>(fun (hx:x∈[g9])=>(List.mem_append.1 hm).elim (fun h=>p_i11_i5 x hx h) (fun h=>p_i11_M x hx h)) (by rw [e0];exact List.mem_singleton.2 rfl)))) _ H23) ?_;rintro _ w23 ⟨rfl,hc23,hMn⟩ a ha;have hBg3:=hBg3.c0 hc23;have hM:=hM.chg hc23;have hC:=hC.t0 hc23;refine stE (cA .u8 8 t23) ha hBg3 fun a w24 ha hBg3 hc25 _=>?_;have hM:=hM.chg hc25;have hC:=hC.t1 hc25 e_i5;refine sd ha 1 [8,22] [(7,.int .i64 0)] fun a ha=>?_;refine hK20 _ _ ?_;refine wrt ?_;have hM:MS M w24:=hM.sb fun _ h=>mr (mr (h));obtain rfl:=oj H;refine rtr ha (res2 rfl (roA ha rfl hBg3 (by kernel_rfl)) (roT ha rfl)) ?_;exact ⟨rfl,hC,hM⟩
def bytes_trimRightByte.l0 (a1:Int):Nat→(List Int)→Option (List Int)
  | 0,_=>none
  | kk+1,x6=>((if (decide ((x6.length:Int) > (0:Int)))=true then (if 0≤(IntKind.i64.wrap ((x6.length:Int) - (1:Int)))∧(IntKind.i64.wrap ((x6.length:Int) - (1:Int))) < (x6.length:Int) then some ((rd x6 (IntKind.i64.wrap ((x6.length:Int) - (1:Int))))==a1:Bool) else none) else some (false:Bool))).bind fun s11=>(if s11=true then (if 0≤(0:Int)∧(0:Int)≤(IntKind.i64.wrap ((x6.length:Int) - (1:Int)))∧(IntKind.i64.wrap ((x6.length:Int) - (1:Int)))≤(x6.length:Int) then bytes_trimRightByte.l0 a1 kk ((x6.take (Int.toNat (IntKind.i64.wrap ((x6.length:Int) - (1:Int))))).drop (Int.toNat (0:Int))) else none) else some (x6:List Int))
def bytes_trimRightByte.f (k:Nat) (a0:List Int) (a1:Int):Option (List Int):=(bytes_trimRightByte.l0 a1 k a0).bind fun s4=>some ((s4:List Int))
set_option maxRecDepth 100000 in
theorem bytes_trimRightByte.walk (w:World) (M:List Nat) (hM:MS M w) (a0:List Int) (ao1:Option Addr) (cap1:Nat) (f1:RSl (rInt .u8) 5 w M ao1 cap1 a0) (a1:Int) (k:Nat) (r:List Int) (H:bytes_trimRightByte.f k a0 a1=some r) :
    To Tryz.prog 105 [.slice ao1 a0.length cap1,.int .u8 a1] w fun v w'=>∃ (ao23:Option Addr) (cap23:Nat),v=.slice ao23 r.length cap23∧(RSl (rInt .u8) 5 w' (M) ao23 cap23 r)∧Chg [] w w'∧MS (M) w':=by
 unfold bytes_trimRightByte.f at H;refine ent Tryz.func105 rfl [(0,.slice ao1 a0.length cap1),(1,.int .u8 a1)] rfl (by rfl) fun a ha=>?_;have hC:Chg [] w w:=Chg.refl _ _;refine sqd ha 1 [] [] fun a ha=>?_;refine wp_seq_k fun K3 hK3=>?_;refine wp_block ?_;obtain ⟨s4,H4,H⟩:=bind_some H;have J4:∀ (a:Act) (wx4:World) (ao7:Option Addr) (cap7:Nat),Has a Tryz.f105.ntmps [(0,.slice ao7 s4.length cap7)]→(RSl (rInt .u8) 5 wx4 (M) ao7 cap7 s4)→(Chg [] w wx4)→(MS (M) wx4)→K3 a wx4:=by
  intro a wx4 ao7 cap7 ha f7 hC hM;refine hK3 _ _ ?_;refine sq ha 2 [(4,.slice ao7 s4.length cap7)] fun a ha=>?_;refine wrt ?_;obtain rfl:=oj H;refine rt1 ha rfl rfl ?_;exact ⟨ao7,cap7,rfl,f7,hC,hM⟩
 have Hc4:=H;have H:=H4;refine wp_loop_ghost (fun kk a w4=>∃ (x6:List Int) (ao5:Option Addr) (cap5:Nat),bytes_trimRightByte.l0 a1 kk x6=some s4∧Has a Tryz.f105.ntmps [(0,.slice ao5 x6.length cap5),(1,.int .u8 a1)]∧(RSl (rInt .u8) 5 w4 (M) ao5 cap5 x6)∧(Chg [] w w4)∧(MS (M) w4)) k ?_ ?_
 ·skip;exact ⟨a0,ao1,cap1,H,(ha.sel (by kernel_rfl)),f1,hC,hM⟩
 ·rintro kk a w4 ⟨x6,ao5,cap5,H,ha,f5,hC,hM⟩;obtain _ | kk:=kk
  ·exact nomatch (show none=some _ from H)
  rw [bytes_trimRightByte.l0] at H;refine wp_seq_k fun K9 hK9=>?_;refine wsr fun K10 hK10=>?_;obtain ⟨s11,H11,H⟩:=bind_some H;have J11:∀ (a:Act) (w11:World),Has a Tryz.f105.ntmps [(0,.slice ao5 x6.length cap5),(1,.int .u8 a1),(17,.bool s11)]→(RSl (rInt .u8) 5 w11 (M) ao5 cap5 x6)→(Chg [] w w11)→(MS (M) w11)→K10 a w11:=by
   intro a w11 ha f5 hC hM;refine hK10 _ _ ?_;refine cnH H ha (fun hc12 H=>?_) (fun hc12 H=>?_)
   ·refine wp_skip ?_;refine hK9 _ _ ?_;refine wp_block ?_;refine wp_region_lit ?_;refine sd ha 4 [0,17] [(18,.slice ao5 x6.length cap5),(21,.int .i64 (IntKind.i64.wrap ((x6.length:Int) - (1:Int))))] fun a ha=>?_;obtain ⟨⟨hx13,hx13',hx13''⟩,H⟩:=ite_some H;refine slc (r:=(rInt .u8)) (l:=(0:Int)) (h:=(IntKind.i64.wrap ((x6.length:Int) - (1:Int)))) ha (by kernel_rfl) (by kernel_rfl) rfl rfl rfl rfl rfl rfl f5 hx13 hx13' hx13'' fun a ao14 cap14 f14 ha=>?_;refine sd ha 1 [18,21] [(0,.slice ao14 ((x6.take (Int.toNat (IntKind.i64.wrap ((x6.length:Int) - (1:Int))))).drop (Int.toNat (0:Int))).length cap14)] fun a ha=>?_;exact ⟨kk,Nat.lt_succ_self _,⟨((x6.take (Int.toNat (IntKind.i64.wrap ((x6.length:Int) - (1:Int))))).drop (Int.toNat (0:Int))),ao14,cap14,H,(ha.sel (by kernel_rfl)),f14,hC,hM⟩⟩
   ·refine wx ?_;obtain rfl:=oj H;exact J4 _ _ ao5 cap5 (ha.sel (by kernel_rfl)) f5 hC hM
  have H:=H11;refine sd ha 4 [] [(8,.bool (decide ((x6.length:Int) > (0:Int))))] fun a ha=>?_;rcases Bool.eq_false_or_eq_true (decide ((x6.length:Int) > (0:Int))) with hb15 | hb15
  ·have ha:=ha.lit hb15;have H:=ite_t hb15 H;refine sgd ha 4 [2,2,2,2] [] [(8,.bool true),(9,.slice ao5 x6.length cap5),(12,.int .i64 (IntKind.i64.wrap ((x6.length:Int) - (1:Int))))] fun a ha=>?_;obtain ⟨⟨hx16,hx16'⟩,H⟩:=ite_some H;refine ix (r:=(rInt .u8)) ha (by kernel_rfl) (by kernel_rfl) rfl rfl rfl rfl rfl f5 hx16 hx16' fun a ge17 oe18 cs19 hn22 hR20 hE21 ha=>?_;rw [rd_get] at hR20;obtain rfl:=hR20;have hE21:Cs w4 ge17 oe18 ([.int .u8 (rd x6 (IntKind.i64.wrap ((x6.length:Int) - (1:Int))))]:List Value):=hE21;refine ld ha rfl (by kernel_rfl) rfl rfl rfl (hE21 0 (.int .u8 (rd x6 (IntKind.i64.wrap ((x6.length:Int) - (1:Int))))) (by kernel_rfl)) fun a ha=>?_;refine sgd ha 3 [2,2,3] [8,9,12] [(17,.bool ((rd x6 (IntKind.i64.wrap ((x6.length:Int) - (1:Int))))==a1))] fun a ha=>?_;obtain rfl:=oj H;exact J11 _ _ (ha.sel (by kernel_rfl)) f5 hC hM
  ·have ha:=ha.lit hb15;have H:=ite_f hb15 H;refine sgd ha 9 [1,1,1,1,1,1,1,1,4] [8] [(17,.bool false)] fun a ha=>?_;obtain rfl:=oj H;exact J11 _ _ (ha.sel (by kernel_rfl)) f5 hC hM
def bytes_trimLeftByte.l0 (a1:Int):Nat→(List Int)→Option (List Int)
  | 0,_=>none
  | kk+1,x6=>((if (decide ((x6.length:Int) > (0:Int)))=true then (if 0≤(0:Int)∧(0:Int) < (x6.length:Int) then some ((rd x6 (0:Int))==a1:Bool) else none) else some (false:Bool))).bind fun s15=>(if s15=true then (if 0≤(1:Int)∧(1:Int)≤(x6.length:Int)∧(x6.length:Int)≤(x6.length:Int) then bytes_trimLeftByte.l0 a1 kk ((x6.take (Int.toNat (x6.length:Int))).drop (Int.toNat (1:Int))) else none) else some (x6:List Int))
def bytes_trimLeftByte.f (k:Nat) (a0:List Int) (a1:Int):Option (List Int):=(bytes_trimLeftByte.l0 a1 k a0).bind fun s4=>(if ((s4.length:Int)==(0:Int))=true then some ((([]:List Int):List Int)) else some ((s4:List Int)))
set_option maxRecDepth 100000 in
theorem bytes_trimLeftByte.walk (w:World) (M:List Nat) (hM:MS M w) (a0:List Int) (ao1:Option Addr) (cap1:Nat) (f1:RSl (rInt .u8) 5 w M ao1 cap1 a0) (a1:Int) (k:Nat) (r:List Int) (H:bytes_trimLeftByte.f k a0 a1=some r) :
    To Tryz.prog 104 [.slice ao1 a0.length cap1,.int .u8 a1] w fun v w'=>∃ (ao27:Option Addr) (cap27:Nat),v=.slice ao27 r.length cap27∧(RSl (rInt .u8) 5 w' (M) ao27 cap27 r)∧Chg [] w w'∧MS (M) w':=by
 unfold bytes_trimLeftByte.f at H;refine ent Tryz.func104 rfl [(0,.slice ao1 a0.length cap1),(1,.int .u8 a1)] rfl (by rfl) fun a ha=>?_;have hC:Chg [] w w:=Chg.refl _ _;refine sqd ha 1 [] [] fun a ha=>?_;refine wp_seq_k fun K3 hK3=>?_;refine wp_block ?_;obtain ⟨s4,H4,H⟩:=bind_some H;have J4:∀ (a:Act) (wx4:World) (ao7:Option Addr) (cap7:Nat),Has a Tryz.f104.ntmps [(0,.slice ao7 s4.length cap7)]→(RSl (rInt .u8) 5 wx4 (M) ao7 cap7 s4)→(Chg [] w wx4)→(MS (M) wx4)→K3 a wx4:=by
  intro a wx4 ao7 cap7 ha f7 hC hM;refine hK3 _ _ ?_;refine wp_seq_k fun K8 hK8=>?_;refine sqd ha 3 [] [(19,.bool ((s4.length:Int)==(0:Int)))] fun a ha=>?_;refine cnH H ha (fun hc10 H=>?_) (fun hc10 H=>?_)
  ·refine sq ha 1 [(4,.slice none 0 0)] fun a ha=>?_;refine wrt ?_;obtain rfl:=oj H;refine rt1 ha rfl rfl ?_;exact ⟨none,0,rfl,(RSl.nil (Nat.zero_le _)),hC,hM⟩
  ·refine wp_skip ?_;refine hK8 _ _ ?_;refine sq ha 2 [(4,.slice ao7 s4.length cap7)] fun a ha=>?_;refine wrt ?_;obtain rfl:=oj H;refine rt1 ha rfl rfl ?_;exact ⟨ao7,cap7,rfl,f7,hC,hM⟩
 have Hc4:=H;have H:=H4;refine wp_loop_ghost (fun kk a w4=>∃ (x6:List Int) (ao5:Option Addr) (cap5:Nat),bytes_trimLeftByte.l0 a1 kk x6=some s4∧Has a Tryz.f104.ntmps [(0,.slice ao5 x6.length cap5),(1,.int .u8 a1)]∧(RSl (rInt .u8) 5 w4 (M) ao5 cap5 x6)∧(Chg [] w w4)∧(MS (M) w4)) k ?_ ?_
 ·skip;exact ⟨a0,ao1,cap1,H,(ha.sel (by kernel_rfl)),f1,hC,hM⟩
 ·rintro kk a w4 ⟨x6,ao5,cap5,H,ha,f5,hC,hM⟩;obtain _ | kk:=kk
  ·exact nomatch (show none=some _ from H)
  rw [bytes_trimLeftByte.l0] at H;refine wp_seq_k fun K13 hK13=>?_;refine wsr fun K14 hK14=>?_;obtain ⟨s15,H15,H⟩:=bind_some H;have J15:∀ (a:Act) (w15:World),Has a Tryz.f104.ntmps [(0,.slice ao5 x6.length cap5),(1,.int .u8 a1),(14,.bool s15)]→(RSl (rInt .u8) 5 w15 (M) ao5 cap5 x6)→(Chg [] w w15)→(MS (M) w15)→K14 a w15:=by
   intro a w15 ha f5 hC hM;refine hK14 _ _ ?_;refine cnH H ha (fun hc16 H=>?_) (fun hc16 H=>?_)
   ·refine wp_skip ?_;refine hK13 _ _ ?_;refine wp_block ?_;refine wp_region_lit ?_;refine sd ha 1 [0,14] [(15,.slice ao5 x6.length cap5)] fun a ha=>?_;obtain ⟨⟨hx17,hx17',hx17''⟩,H⟩:=ite_some H;refine slc (r:=(rInt .u8)) (l:=(1:Int)) (h:=(x6.length:Int)) ha (by kernel_rfl) (by kernel_rfl) rfl rfl rfl rfl rfl rfl f5 hx17 hx17' hx17'' fun a ao18 cap18 f18 ha=>?_;refine sd ha 1 [15] [(0,.slice ao18 ((x6.take (Int.toNat (x6.length:Int))).drop (Int.toNat (1:Int))).length cap18)] fun a ha=>?_;exact ⟨kk,Nat.lt_succ_self _,⟨((x6.take (Int.toNat (x6.length:Int))).drop (Int.toNat (1:Int))),ao18,cap18,H,(ha.sel (by kernel_rfl)),f18,hC,hM⟩⟩
   ·refine wx ?_;obtain rfl:=oj H;exact J4 _ _ ao5 cap5 (ha.sel (by kernel_rfl)) f5 hC hM
  have H:=H15;refine sd ha 4 [] [(8,.bool (decide ((x6.length:Int) > (0:Int))))] fun a ha=>?_;rcases Bool.eq_false_or_eq_true (decide ((x6.length:Int) > (0:Int))) with hb19 | hb19
  ·have ha:=ha.lit hb19;have H:=ite_t hb19 H;refine sgd ha 1 [2] [] [(8,.bool true),(9,.slice ao5 x6.length cap5)] fun a ha=>?_;obtain ⟨⟨hx20,hx20'⟩,H⟩:=ite_some H;refine ix (r:=(rInt .u8)) ha (by kernel_rfl) (by kernel_rfl) rfl rfl rfl rfl rfl f5 hx20 hx20' fun a ge21 oe22 cs23 hn26 hR24 hE25 ha=>?_;rw [rd_get] at hR24;obtain rfl:=hR24;have hE25:Cs w4 ge21 oe22 ([.int .u8 (rd x6 (0:Int))]:List Value):=hE25;refine ld ha rfl (by kernel_rfl) rfl rfl rfl (hE25 0 (.int .u8 (rd x6 (0:Int))) (by kernel_rfl)) fun a ha=>?_;refine sgd ha 3 [2,2,3] [8,9] [(14,.bool ((rd x6 (0:Int))==a1))] fun a ha=>?_;obtain rfl:=oj H;exact J15 _ _ (ha.sel (by kernel_rfl)) f5 hC hM
  ·have ha:=ha.lit hb19;have H:=ite_f hb19 H;refine sgd ha 6 [1,1,1,1,1,4] [8] [(14,.bool false)] fun a ha=>?_;obtain rfl:=oj H;exact J15 _ _ (ha.sel (by kernel_rfl)) f5 hC hM
def bytes_Trim.f (k:Nat) (a0:List Int) (a1:List UInt8):Option (List Int):=(if ((a0.length:Int)==(0:Int))=true then some ((([]:List Int):List Int)) else (if ((bstr a1).toList==(bstr ([]:List UInt8)).toList)=true then some ((a0:List Int)) else ((if (((bstr a1).size:Int)==(1:Int))=true then (if 0≤(0:Int)∧(0:Int) < (a1.length:Int) then some (decide (((a1.getD (Int.toNat (0:Int)) 0).toNat:Int) < (128:Int)):Bool) else none) else some (false:Bool))).bind fun s13=>(if s13=true then (if 0≤(0:Int)∧(0:Int) < (a1.length:Int) then (if 0≤(0:Int)∧(0:Int) < (a1.length:Int) then (bytes_trimRightByte.f k a0 ((a1.getD (Int.toNat (0:Int)) 0).toNat:Int)).bind fun t21=>(bytes_trimLeftByte.f k t21 ((a1.getD (Int.toNat (0:Int)) 0).toNat:Int)).bind fun t24=>some ((t24:List Int)) else none) else none) else none)))
set_option maxRecDepth 100000 in
theorem bytes_Trim.walk (w:World) (M:List Nat) (hM:MS M w) (a0:List Int) (ao1:Option Addr) (cap1:Nat) (f1:RSl (rInt .u8) 5 w M ao1 cap1 a0) (a1:List UInt8) (k:Nat) (r:List Int) (H:bytes_Trim.f k a0 a1=some r) :
    To Tryz.prog 78 [.slice ao1 a0.length cap1,.string (bstr a1)] w fun v w'=>∃ (ao28:Option Addr) (cap28:Nat),v=.slice ao28 r.length cap28∧(RSl (rInt .u8) 5 w' (M) ao28 cap28 r)∧Chg [] w w'∧MS (M) w':=by
 unfold bytes_Trim.f at H;refine ent Tryz.func78 rfl [(0,.slice ao1 a0.length cap1),(1,.string (bstr a1))] rfl (by rfl) fun a ha=>?_;have hC:Chg [] w w:=Chg.refl _ _;refine sqd ha 1 [] [] fun a ha=>?_;refine wp_seq_k fun K3 hK3=>?_;refine sqd ha 3 [] [(9,.bool ((a0.length:Int)==(0:Int)))] fun a ha=>?_;refine cnH H ha (fun hc5 H=>?_) (fun hc5 H=>?_)
 ·refine sq ha 1 [(4,.slice none 0 0)] fun a ha=>?_;refine wrt ?_;obtain rfl:=oj H;refine rt1 ha rfl rfl ?_;exact ⟨none,0,rfl,(RSl.nil (Nat.zero_le _)),hC,hM⟩
 ·refine wp_skip ?_;refine hK3 _ _ ?_;refine wp_seq_k fun K7 hK7=>?_;refine sqd ha 2 [9] [(11,.bool ((bstr a1).toList==(bstr ([]:List UInt8)).toList))] fun a ha=>?_;refine cnH H ha (fun hc9 H=>?_) (fun hc9 H=>?_)
  ·refine sq ha 2 [(4,.slice ao1 a0.length cap1)] fun a ha=>?_;refine wrt ?_;obtain rfl:=oj H;refine rt1 ha rfl rfl ?_;exact ⟨ao1,cap1,rfl,f1,hC,hM⟩
  ·refine wp_skip ?_;refine hK7 _ _ ?_;refine wp_seq_k fun K11 hK11=>?_;refine wsr fun K12 hK12=>?_;obtain ⟨s13,H13,H⟩:=bind_some H;have J13:∀ (a:Act) (w13:World),Has a Tryz.f78.ntmps [(0,.slice ao1 a0.length cap1),(1,.string (bstr a1)),(20,.bool s13)]→(RSl (rInt .u8) 5 w13 (M) ao1 cap1 a0)→(Chg [] w w13)→(MS (M) w13)→K12 a w13:=by
    intro a w13 ha f1 hC hM;refine hK12 _ _ ?_;refine cnH H ha (fun hc14 H=>?_) (fun hc14 H=>?_)
    ·refine wp_seq_k fun K15 hK15=>?_;have okS:Ok [] (M) w13.heap.size:=Ok.nil _ _;refine drw (fun w'=>Chg [] w13 w') (by kernel_rfl) fun w16 hc17 _=>?_;have hS:Chg [] w13 w16:=(Chg.refl [] _).trans hc17 (Ok.nil _ _);have o1:=oN M w13;have o2:=oR M w13;have f1:=f1.chg hc17 o1 o2;have hM:=hM.chg hc17;have hC:=hC.t0 hc17;refine tp 0 0 (.slice ao1 a0.length cap1) ha hS fun a ha=>?_;refine tp 1 0 (.string (bstr a1)) ha hS fun a ha=>?_;obtain ⟨⟨hx18,hx18'⟩,H⟩:=ite_some H;refine tz 2 ha rfl (fun w' hs=>sidx_run (l:=a1) (k:=.i64) (i:=(0:Int)) ha (by kernel_rfl) (by rfl) (by rfl) hx18 hx18' w') hS fun a ha=>?_;refine tp 4 0 (.string (bstr a1)) ha hS fun a ha=>?_;obtain ⟨⟨hx19,hx19'⟩,H⟩:=ite_some H;refine tz 5 ha rfl (fun w' hs=>sidx_run (l:=a1) (k:=.i64) (i:=(0:Int)) ha (by kernel_rfl) (by rfl) (by rfl) hx19 hx19' w') hS fun a ha=>?_;refine ac 3 (by kernel_rfl) (by rfl) fun K20 hK20=>?_;obtain ⟨t21,H21,H⟩:=bind_some H;refine cL ha (bytes_trimRightByte.walk w16 _ hM a0 ao1 cap1 f1 ((a1.getD (Int.toNat (0:Int)) 0).toNat:Int) k _ H21) ?_;rintro _ w21 ⟨ao22,cap22,rfl,f22,hc21,hMn⟩ a ha;have hM:=hM.chg hc21;have hC:=hC.t0 hc21;have hS:=hS.trans hc21 (Ok.nil _ _);refine ae hK20 hS ?_;clear hK20 K20;refine ac 6 (by kernel_rfl) (by rfl) fun K23 hK23=>?_;obtain ⟨t24,H24,H⟩:=bind_some H;refine cL ha (bytes_trimLeftByte.walk w21 _ hM t21 ao22 cap22 f22 ((a1.getD (Int.toNat (0:Int)) 0).toNat:Int) k _ H24) ?_;rintro _ w24 ⟨ao25,cap25,rfl,f25,hc24,hMn⟩ a ha;have hM:=hM.chg hc24;have hC:=hC.t0 hc24;have hS:=hS.trans hc24 (Ok.nil _ _);refine ae hK23 hS ?_;clear hK23 K23;refine tp 7 0 (.slice ao25 t24.length cap25) ha hS fun a ha=>?_;refine dn (by kernel_rfl) ?_;refine hK15 _ _ ?_;refine wrt ?_;obtain rfl:=oj H;refine rt1 ha rfl rfl ?_;exact ⟨ao25,cap25,rfl,f25,hC,hM⟩
    ·exact nomatch (show none=some _ from H)
   have H:=H13;refine sd ha 4 [11] [(16,.bool (((bstr a1).size:Int)==(1:Int)))] fun a ha=>?_;rcases Bool.eq_false_or_eq_true (((bstr a1).size:Int)==(1:Int)) with hb26 | hb26
   ·have ha:=ha.lit hb26;have H:=ite_t hb26 H;refine sgd ha 1 [2] [] [(16,.bool true),(17,.string (bstr a1))] fun a ha=>?_;obtain ⟨⟨hx27,hx27'⟩,H⟩:=ite_some H;refine hop (w':=w) ha rfl rfl rfl (sidx_run (l:=a1) (k:=.i64) (i:=(0:Int)) ha (by kernel_rfl) (by rfl) (by rfl) hx27 hx27' _) fun a ha=>?_;refine sgd ha 2 [2,3] [16,17] [(20,.bool (decide (((a1.getD (Int.toNat (0:Int)) 0).toNat:Int) < (128:Int))))] fun a ha=>?_;obtain rfl:=oj H;exact J13 _ _ (ha.sel (by kernel_rfl)) f1 hC hM
   ·have ha:=ha.lit hb26;have H:=ite_f hb26 H;refine sgd ha 4 [1,1,1,4] [16] [(20,.bool false)] fun a ha=>?_;obtain rfl:=oj H;exact J13 _ _ (ha.sel (by kernel_rfl)) f1 hC hM
def addr_Right.f (k:Nat) (a0:S_api_Addr):Option (Bool):=((if (a0.Size==(0:Int))=true then some (a0.Size==(0:Int):Bool) else (if (a0.Size==(4:Int))=true then some (a0.Size==(4:Int):Bool) else some (a0.Size==(16:Int):Bool)))).bind fun s10=>(if s10=true then (if 0≤a0.Size∧a0.Size≤(16:Int)∧(16:Int)≤(16:Int) then (bytes_Trim.f k (((arL 16 a0.B).take (Int.toNat (16:Int))).drop (Int.toNat a0.Size)) ([0]:List UInt8)).bind fun t15=>some (((t15.length:Int)==(0:Int):Bool)) else none) else some ((false:Bool)))
set_option maxRecDepth 100000 in
theorem addr_Right.walk (w:World) (M:List Nat) (hM:MS M w) (a0:S_api_Addr) (k:Nat) (r:Bool) (H:addr_Right.f k a0=some r) :
    To Tryz.prog 39 [.agg (cS_api_Addr a0).toArray] w fun v w'=>v=.bool r∧Chg [] w w'∧MS (M) w':=by
 unfold addr_Right.f at H;refine ent Tryz.func39 rfl [(0,.agg (cS_api_Addr a0).toArray)] rfl (by rfl) fun a ha=>?_;have hC:Chg [] w w:=Chg.refl _ _;refine wsr fun K1 hK1=>?_;refine bx (cs:=(cS_api_Addr a0)) ha rfl rfl rfl rfl rfl fun a w2 g3 hN4 ha=>?_;have hn6:=hN4.notin hM;have hM:=hM.chg hN4.chg;have hC:=hC.t0 hN4.chg;have hE5:Cs w2 g3 0 (cS_api_Addr a0):=Box.cells (New.box hN4);refine sf ha 1 [(1,pt g3 0)] fun a ha=>?_;refine hK1 _ _ ?_;refine wp_seq_k fun K7 hK7=>?_;refine wsr fun K8 hK8=>?_;refine sd ha 1 [] [(3,pt g3 0)] fun a ha=>?_;refine ld ha rfl (by kernel_rfl) rfl rfl rfl (hE5 0 (.int .i64 a0.Size) (by kernel_rfl)) fun a ha=>?_;refine hK8 _ _ ?_;refine wp_block ?_;refine wp_seq_k fun K9 hK9=>?_;obtain ⟨s10,H10,H⟩:=bind_some H;have J10:∀ (a:Act) (w10:World),Has a Tryz.f39.ntmps [(1,pt g3 0),(5,.bool s10)]→(Cs w10 g3 0 (cS_api_Addr a0))→(g3∉(M))→(Chg [] w w10)→(MS (M) w10)→K9 a w10:=by
  intro a w10 ha hE5 hn6 hC hM;refine hK9 _ _ ?_;refine cnH H ha (fun hc11 H=>?_) (fun hc11 H=>?_)
  ·refine wsr fun K12 hK12=>?_;refine sf ha 2 [(9,.pointer (some ⟨g3,0+1,none⟩)),(10,pt g3 0)] fun a ha=>?_;refine ld ha rfl (by kernel_rfl) rfl rfl rfl (hE5 0 (.int .i64 a0.Size) (by kernel_rfl)) fun a ha=>?_;have f13:RSl (rInt .u8) 5 w10 (M) (some ⟨g3,0+1,none⟩) 16 (arL 16 a0.B):=RSl.ofA [.int .i64 a0.Size] [] hE5 hn6 (by kernel_rfl) rfl;obtain ⟨⟨hx14,hx14',hx14''⟩,H⟩:=ite_some H;obtain ⟨ao14,cap14,f14,hr14⟩:=slA_run (kk:=.u8) (T:=5) (N:=16) (g:=g3) (o':=0+1) (xs:=(arL 16 a0.B)) (t:=22) (lo:=(Option.some (Operand.tmp 11))) (hi:=Option.none) (l:=a0.Size) (h:=(16:Int)) (dd:=some 12) (ty:=36) (pos := "addr.go:24") (af:=#[{ on:=0,ground:=Ground.data },{ on:=2,ground:=Ground.data }]) (gd:=Option.none) ha (by kernel_rfl) (by kernel_rfl) (x:=(Operand.tmp 9)) rfl (arL_length _ _) rfl rfl f13 hx14 hx14' (by rw [arL_length];exact hx14'');refine hop (v:=.slice ao14 (((arL 16 a0.B).take (Int.toNat (16:Int))).drop (Int.toNat a0.Size)).length cap14) (w':=w10) ha rfl rfl rfl (hr14 _) fun a ha=>?_;obtain ⟨t15,H15,H⟩:=bind_some H;refine cL ha (bytes_Trim.walk w10 _ hM (((arL 16 a0.B).take (Int.toNat (16:Int))).drop (Int.toNat a0.Size)) ao14 cap14 f14 ([0]:List UInt8) k _ H15) ?_;rintro _ w15 ⟨ao16,cap16,rfl,f16,hc15,hMn⟩ a ha;have hM:=hM.chg hc15;have hC:=hC.t0 hc15;refine sf ha 3 [(2,.bool ((t15.length:Int)==(0:Int)))] fun a ha=>?_;refine hK12 _ _ ?_;refine wrt ?_;obtain rfl:=oj H;refine rt1 ha rfl rfl ?_;exact ⟨rfl,hC,hM⟩
  ·refine wp_skip ?_;refine hK7 _ _ ?_;refine sq ha 1 [(2,.bool false)] fun a ha=>?_;refine wrt ?_;obtain rfl:=oj H;refine rt1 ha rfl rfl ?_;exact ⟨rfl,hC,hM⟩
 have H:=H10;refine sqd ha 2 [3] [(4,.int .i64 a0.Size),(5,.bool (a0.Size==(0:Int)))] fun a ha=>?_;refine cnH H ha (fun hc19 H=>?_) (fun hc19 H=>?_)
 ·refine wp_skip ?_;obtain rfl:=oj H;exact J10 _ _ (ha.sel (by kernel_rfl)) hE5 hn6 hC hM
 ·refine sqd ha 2 [] [(5,.bool (a0.Size==(4:Int)))] fun a ha=>?_;refine cnH H ha (fun hc21 H=>?_) (fun hc21 H=>?_)
  ·refine wp_skip ?_;obtain rfl:=oj H;exact J10 _ _ (ha.sel (by kernel_rfl)) hE5 hn6 hC hM
  ·refine wp_region_lit ?_;refine sd ha 2 [4] [(5,.bool (a0.Size==(16:Int)))] fun a ha=>?_;obtain rfl:=oj H;exact J10 _ _ (ha.sel (by kernel_rfl)) hE5 hn6 hC hM
def addr_Bytes.f (k:Nat) (a0:S_api_Addr):Option (List Int):=(addr_Right.f k a0).bind fun t9=>(if (!t9)=true then some ((([]:List Int):List Int)) else (if 0≤(0:Int)∧(0:Int)≤a0.Size∧a0.Size≤(16:Int) then (bytes_Clone.f (((arL 16 a0.B).take (Int.toNat a0.Size)).drop (Int.toNat (0:Int)))).bind fun t16=>some ((t16:List Int)) else none))
set_option maxRecDepth 100000 in
theorem addr_Bytes.walk (w:World) (M:List Nat) (hM:MS M w) (a0:S_api_Addr) (k:Nat) (r:List Int) (H:addr_Bytes.f k a0=some r) :
    To Tryz.prog 41 [.agg (cS_api_Addr a0).toArray] w fun v w'=>∃ (ao18:Option Addr) (cap18:Nat),v=.slice ao18 r.length cap18∧(Own (rInt .u8) 5 w' (blkL ao18++(M)) ao18 cap18 r)∧(∀ x∈blkL ao18,w.heap.size≤x)∧Chg [] w w'∧MS (blkL ao18++(M)) w':=by
 unfold addr_Bytes.f at H;refine ent Tryz.func41 rfl [(0,.agg (cS_api_Addr a0).toArray)] rfl (by rfl) fun a ha=>?_;have hC:Chg [] w w:=Chg.refl _ _;refine wsr fun K1 hK1=>?_;refine bx (cs:=(cS_api_Addr a0)) ha rfl rfl rfl rfl rfl fun a w2 g3 hN4 ha=>?_;have hn6:=hN4.notin hM;have hM:=hM.chg hN4.chg;have hC:=hC.t0 hN4.chg;have hE5:Cs w2 g3 0 (cS_api_Addr a0):=Box.cells (New.box hN4);refine sf ha 1 [(1,pt g3 0)] fun a ha=>?_;refine hK1 _ _ ?_;refine wp_seq_k fun K7 hK7=>?_;refine wsr fun K8 hK8=>?_;refine ldE hE5 ha fun a ha=>?_;obtain ⟨t9,H9,H⟩:=bind_some H;refine cL ha (addr_Right.walk w2 _ hM a0 k _ H9) ?_;rintro _ w9 ⟨rfl,hc9,hMn⟩ a ha;have o1:=oN M w2;have o2:=oR M w2;have q_hn6:=qn o2 hn6 (hE5 0 _ rfl);have hE5:=ck hc9 o1 hn6 hE5;have hn6:=q_hn6;have hM:=hM.chg hc9;have hC:=hC.t0 hc9;refine sd ha 1 [] [(5,.bool (!t9))] fun a ha=>?_;refine hK8 _ _ ?_;refine cnH H ha (fun hc10 H=>?_) (fun hc10 H=>?_)
 ·refine sq ha 1 [(2,.slice none 0 0)] fun a ha=>?_;refine wrt ?_;have e_z12:∀ x∈blkL none,w.heap.size≤x:=fun x hx=>Nat.le_trans hC.size ((fun _ h=>nomatch h) x hx);have hM:MS (blkL none++(M)) w9:=(MS.app (fun _ h=>nomatch h) (hM.chg (Chg.refl [] _)))
  obtain rfl:=oj H;refine rt1 ha rfl rfl ?_;exact ⟨none,0,rfl,Own.nil,e_z12,hC,hM⟩
 ·refine wp_skip ?_;refine hK7 _ _ ?_;refine wsr fun K13 hK13=>?_;refine sf ha 2 [(6,.pointer (some ⟨g3,0+1,none⟩)),(7,pt g3 0)] fun a ha=>?_;refine ld ha rfl (by kernel_rfl) rfl rfl rfl (hE5 0 (.int .i64 a0.Size) (by kernel_rfl)) fun a ha=>?_;have f14:RSl (rInt .u8) 5 w9 (M) (some ⟨g3,0+1,none⟩) 16 (arL 16 a0.B):=RSl.ofA [.int .i64 a0.Size] [] hE5 hn6 (by kernel_rfl) rfl;obtain ⟨⟨hx15,hx15',hx15''⟩,H⟩:=ite_some H;obtain ⟨ao15,cap15,f15,hr15⟩:=slA_run (kk:=.u8) (T:=5) (N:=16) (g:=g3) (o':=0+1) (xs:=(arL 16 a0.B)) (t:=22) (lo:=Option.none) (hi:=(Option.some (Operand.tmp 8))) (l:=(0:Int)) (h:=a0.Size) (dd:=some 9) (ty:=36) (pos := "addr.go:45") (af:=#[{ on:=0,ground:=Ground.data },{ on:=2,ground:=Ground.data }]) (gd:=Option.none) ha (by kernel_rfl) (by kernel_rfl) (x:=(Operand.tmp 6)) rfl (arL_length _ _) rfl rfl f14 hx15 hx15' (by rw [arL_length];exact hx15'');refine hop (v:=.slice ao15 (((arL 16 a0.B).take (Int.toNat a0.Size)).drop (Int.toNat (0:Int))).length cap15) (w':=w9) ha rfl rfl rfl (hr15 _) fun a ha=>?_;obtain ⟨t16,H16,H⟩:=bind_some H;refine cL ha (bytes_Clone.walk w9 _ hM (((arL 16 a0.B).take (Int.toNat a0.Size)).drop (Int.toNat (0:Int))) ao15 cap15 f15 _ H16) ?_;rintro _ w16 ⟨ao17,cap17,rfl,f17,ne_i17,hc16,hMn⟩ a ha;have e_i17:=eN hC ne_i17;have hM:MS (blkL ao17++(M)) w16:=(MS.app (fun x h=>hMn x (ml h)) (hM.chg hc16))
  have hC:=hC.t0 hc16;refine sf ha 1 [(2,.slice ao17 t16.length cap17)] fun a ha=>?_;refine hK13 _ _ ?_;refine wrt ?_;obtain rfl:=oj H;refine rt1 ha rfl rfl ?_;exact ⟨ao17,cap17,rfl,f17,e_i17,hC,hM⟩
def community_Import.f (k:Nat) (a0:S_api_Addr) (a1:Int):Option (List Int×Int):=((addr_Right.f k a0).bind fun t33=>(if (!t33)=true then some (true:Bool) else some (a0.Size != (4:Int):Bool))).bind fun s13=>(if s13=true then some ((([(0:Int),(0:Int),(0:Int),(0:Int),(0:Int),(0:Int),(0:Int),(0:Int)]:List Int):List Int),((1:Int):Int)) else (addr_Bytes.f k a0).bind fun t19=>(cursor_Put.f k t19 a1 (2:Int)).bind fun t21=>(if (t21.2 != (0:Int))=true then some ((([(0:Int),(0:Int),(0:Int),(0:Int),(0:Int),(0:Int),(0:Int),(0:Int)]:List Int):List Int),(t21.2:Int)) else (community_of.f (1:Int) (11:Int) t21.1).bind fun t30=>some ((t30:List Int),((0:Int):Int))))
set_option maxRecDepth 100000 in
theorem community_Import.walk (w:World) (M:List Nat) (hM:MS M w) (a0:S_api_Addr) (a1:Int) (k:Nat) (r:List Int×Int) (H:community_Import.f k a0 a1=some r) :
    To Tryz.prog 10 [.agg (cS_api_Addr a0).toArray,.int .i64 a1] w fun v w'=>v=.tuple #[.agg (cA .u8 8 r.1).toArray,.int .i64 r.2]∧Chg [] w w'∧MS (M) w':=by
 unfold community_Import.f at H;refine ent Tryz.func10 rfl [(0,.agg (cS_api_Addr a0).toArray),(1,.int .i64 a1)] rfl (by rfl) fun a ha=>?_;have hC:Chg [] w w:=Chg.refl _ _;refine wsr fun K1 hK1=>?_;refine bx (cs:=(cS_api_Addr a0)) ha rfl rfl rfl rfl rfl fun a w2 g3 hN4 ha=>?_;have hn6:=hN4.notin hM;have hM:=hM.chg hN4.chg;have hC:=hC.t0 hN4.chg;have hE5:Cs w2 g3 0 (cS_api_Addr a0):=Box.cells (New.box hN4);refine alE (cA .u8 8 (List.replicate 8 (0:Int))) ha fun a w7 g8 hN9 ha=>?_;have o1:=oN M w2;have o2:=oA hN9 M;have q_hn6:=qn o2 hn6 (hE5 0 _ rfl);have hE5:=ck hN9.chg o1 hn6 hE5;have hn6:=q_hn6;have e_i10:=eN hC (hN9.ge1);have hM:=MS.app hN9.ms (hM.chg hN9.chg);have hC:=hC.t0 hN9.chg;have hBg8:=hN9.box;refine sd ha 1 [0] [(2,pt g3 0),(4,pt g8 0)] fun a ha=>?_;refine hK1 _ _ ?_;refine wp_seq_k fun K11 hK11=>?_;refine wsr fun K12 hK12=>?_;obtain ⟨s13,H13,H⟩:=bind_some H;have J13:∀ (a:Act) (w13:World),Has a Tryz.f10.ntmps [(1,.int .i64 a1),(2,pt g3 0),(4,pt g8 0),(15,.bool s13)]→(Box w13 g8 (cA .u8 8 (List.replicate 8 (0:Int))))→(Cs w13 g3 0 (cS_api_Addr a0))→(g3∉([g8]++(M)))→(Chg [] w w13)→(MS ([g8]++(M)) w13)→K12 a w13:=by
  intro a w13 ha hBg8 hE5 hn6 hC hM;refine hK12 _ _ ?_;refine cnH H ha (fun hc14 H=>?_) (fun hc14 H=>?_)
  ·refine wsr fun K15 hK15=>?_;refine oP (.agg (cA .u8 8 ([(0:Int),(0:Int),(0:Int),(0:Int),(0:Int),(0:Int),(0:Int),(0:Int)]:List Int)).toArray) ha fun a ha=>?_;refine stE (cA .u8 8 ([(0:Int),(0:Int),(0:Int),(0:Int),(0:Int),(0:Int),(0:Int),(0:Int)]:List Int)) ha hBg8 fun a w16 ha hBg8 hc17 _=>?_;have hM:=hM.chg hc17;have hC:=hC.t1 hc17 e_i10;refine sf ha 1 [(4,pt g8 0),(5,.int .i64 1)] fun a ha=>?_;refine hK15 _ _ ?_;refine wrt ?_;have hM:MS M w16:=hM.sb fun _ h=>mr (h);obtain rfl:=oj H;refine rtr ha (res2 rfl (roA ha rfl hBg8 (by kernel_rfl)) (roT ha rfl)) ?_;exact ⟨rfl,hC,hM⟩
  ·refine wp_skip ?_;refine hK11 _ _ ?_;refine wsr fun K18 hK18=>?_;refine ldE hE5 ha fun a ha=>?_;obtain ⟨t19,H19,H⟩:=bind_some H;refine cL ha (addr_Bytes.walk w13 _ hM a0 k _ H19) ?_;rintro _ w19 ⟨ao20,cap20,rfl,f20,ne_i20,hc19,hMn⟩ a ha;have hBg8:=hBg8.c0 hc19;have p_i20_i10:=pn (B:=[g8]) hM ne_i20 fun _ hy=>ml hy;have p_i20_M:=pn (B:=M) hM ne_i20 fun _ hy=>mr (hy);have hM:MS (blkL ao20++([g8]++(M))) w19:=(MS.app (fun x h=>hMn x (ml h)) (hM.chg hc19))
   have hC:=hC.t0 hc19;refine sf ha 1 [(4,pt g8 0),(19,.slice ao20 t19.length cap20),(20,.int .i64 a1)] fun a ha=>?_;have hML:MS ([g8]++(M)) w19:=MS.rest hM (fun _ h=>(List.mem_append.1 h).elim (fun h=>mr (ml h)) (fun h=>mr (mr (h))));have oL:Ok ([g8]++(M)) (blkL ao20++([g8]++(M))) w19.heap.size:=(fun _ h=>.inl (mr (h)))
   obtain ⟨t21,H21,H⟩:=bind_some H;refine cL ha (cursor_Put.walk w19 _ hML t19 ao20 cap20 (Own.toRSl (M':=[g8]++(M)) f20 oL (fun x hx hm=>(List.mem_append.1 hm).elim (fun h=>p_i20_i10 x hx h) (fun h=>p_i20_M x hx h))) a1 (2:Int) k _ H21) ?_;rintro _ w21 ⟨ao22,cap22,rfl,f22,ne_i22,hc21,hMn⟩ a ha;have hBg8:=hBg8.c0 hc21;have p_i22_i20:=pn (B:=(blkL ao20)) hM ne_i22 fun _ hy=>ml hy;have p_i22_i10:=pn (B:=[g8]) hM ne_i22 fun _ hy=>mr (ml hy);have p_i22_M:=pn (B:=M) hM ne_i22 fun _ hy=>mr (mr (hy));have hM:MS (blkL ao22++(blkL ao20++([g8]++(M)))) w21:=(MS.app (fun x h=>hMn x (ml h)) (hM.chg hc21))
   have hC:=hC.t0 hc21;have f22:=Own.re (M':=blkL ao22++(blkL ao20++([g8]++(M)))) (fun _ _ _ _ _ h=>h) f22 (fun _ h=>ml h);refine sd ha 5 [19,20] [(6,.slice ao22 t21.1.length cap22),(7,.int .i64 t21.2)] fun a ha=>?_;refine hK18 _ _ ?_;refine wp_seq_k fun K23 hK23=>?_;refine sqd ha 2 [] [(25,.bool (t21.2 != (0:Int)))] fun a ha=>?_;refine cnH H ha (fun hc25 H=>?_) (fun hc25 H=>?_)
   ·refine wsr fun K26 hK26=>?_;refine oP (.agg (cA .u8 8 ([(0:Int),(0:Int),(0:Int),(0:Int),(0:Int),(0:Int),(0:Int),(0:Int)]:List Int)).toArray) ha fun a ha=>?_;refine sf ha 1 [(4,pt g8 0),(26,.agg (cA .u8 8 ([(0:Int),(0:Int),(0:Int),(0:Int),(0:Int),(0:Int),(0:Int),(0:Int)]:List Int)).toArray),(27,.int .i64 t21.2)] fun a ha=>?_;refine stE (cA .u8 8 ([(0:Int),(0:Int),(0:Int),(0:Int),(0:Int),(0:Int),(0:Int),(0:Int)]:List Int)) ha hBg8 fun a w27 ha hBg8 hc28 _=>?_;have hM:=hM.chg hc28;have hC:=hC.t1 hc28 e_i10;refine sd ha 1 [26,27] [(5,.int .i64 t21.2)] fun a ha=>?_;refine hK26 _ _ ?_;refine wrt ?_;have hM:MS M w27:=hM.sb fun _ h=>mr (mr (mr (h)));obtain rfl:=oj H;refine rtr ha (res2 rfl (roA ha rfl hBg8 (by kernel_rfl)) (roT ha rfl)) ?_;exact ⟨rfl,hC,hM⟩
   ·refine wp_skip ?_;refine hK23 _ _ ?_;refine wsr fun K29 hK29=>?_;refine sf ha 1 [(4,pt g8 0),(28,.slice ao22 t21.1.length cap22)] fun a ha=>?_;have hML:MS (blkL ao20++([g8]++(M))) w21:=MS.rest hM (fun _ h=>(List.mem_append.1 h).elim (fun h=>mr (ml h)) (fun h=>(List.mem_append.1 h).elim (fun h=>mr (mr (ml h))) (fun h=>mr (mr (mr (h))))));have oL:Ok (blkL ao20++([g8]++(M))) (blkL ao22++(blkL ao20++([g8]++(M)))) w21.heap.size:=(fun _ h=>.inl (mr (h)))
    obtain ⟨t30,H30,H⟩:=bind_some H;refine cL ha (community_of.walk w21 _ hML (1:Int) (11:Int) t21.1 ao22 cap22 (Own.toRSl (M':=blkL ao20++([g8]++(M))) f22 oL (fun x hx hm=>(List.mem_append.1 hm).elim (fun h=>p_i22_i20 x hx h) (fun h=>(List.mem_append.1 h).elim (fun h=>p_i22_i10 x hx h) (fun h=>p_i22_M x hx h)))) _ H30) ?_;rintro _ w30 ⟨rfl,hc30,hMn⟩ a ha;have hBg8:=hBg8.c0 hc30;have hM:=hM.chg hc30;have hC:=hC.t0 hc30;refine stE (cA .u8 8 t30) ha hBg8 fun a w31 ha hBg8 hc32 _=>?_;have hM:=hM.chg hc32;have hC:=hC.t1 hc32 e_i10;refine sd ha 1 [28] [(5,.int .i64 0)] fun a ha=>?_;refine hK29 _ _ ?_;refine wrt ?_;have hM:MS M w31:=hM.sb fun _ h=>mr (mr (mr (h)));obtain rfl:=oj H;refine rtr ha (res2 rfl (roA ha rfl hBg8 (by kernel_rfl)) (roT ha rfl)) ?_;exact ⟨rfl,hC,hM⟩
 have H:=H13;refine ldE hE5 ha fun a ha=>?_;obtain ⟨t33,H33,H⟩:=bind_some H;refine cL ha (addr_Right.walk w7 _ hM a0 k _ H33) ?_;rintro _ w33 ⟨rfl,hc33,hMn⟩ a ha;have o1:=oN ([g8]++(M)) w7;have o2:=oR ([g8]++(M)) w7;have hBg8:=hBg8.c0 hc33;have q_hn6:=qn o2 hn6 (hE5 0 _ rfl);have hE5:=ck hc33 o1 hn6 hE5;have hn6:=q_hn6;have hM:=hM.chg hc33;have hC:=hC.t0 hc33;refine sd ha 2 [] [(11,.bool (!t33))] fun a ha=>?_;rcases Bool.eq_false_or_eq_true (!t33) with hb34 | hb34
 ·have ha:=ha.lit hb34;have H:=ite_t hb34 H;refine sgd ha 4 [1,1,1,3] [11] [(15,.bool true)] fun a ha=>?_;obtain rfl:=oj H;exact J13 _ _ (ha.sel (by kernel_rfl)) hBg8 hE5 hn6 hC hM
 ·have ha:=ha.lit hb34;have H:=ite_f hb34 H;refine sgd ha 1 [2] [] [(11,.bool false),(12,pt g3 0)] fun a ha=>?_;refine ld ha rfl (by kernel_rfl) rfl rfl rfl (hE5 0 (.int .i64 a0.Size) (by kernel_rfl)) fun a ha=>?_;refine sgd ha 2 [2,4] [11,12] [(15,.bool (a0.Size != (4:Int)))] fun a ha=>?_;obtain rfl:=oj H;exact J13 _ _ (ha.sel (by kernel_rfl)) hBg8 hE5 hn6 hC hM
def community_Source.f (k:Nat) (a0:Int):Option (List Int×Int):=(cursor_Put.f k ([]:List Int) a0 (4:Int)).bind fun t7=>(if (t7.2 != (0:Int))=true then some ((([(0:Int),(0:Int),(0:Int),(0:Int),(0:Int),(0:Int),(0:Int),(0:Int)]:List Int):List Int),(t7.2:Int)) else (community_of.f (2:Int) (9:Int) t7.1).bind fun t16=>some ((t16:List Int),((0:Int):Int)))
set_option maxRecDepth 100000 in
theorem community_Source.walk (w:World) (M:List Nat) (hM:MS M w) (a0:Int) (k:Nat) (r:List Int×Int) (H:community_Source.f k a0=some r) :
    To Tryz.prog 11 [.int .i64 a0] w fun v w'=>v=.tuple #[.agg (cA .u8 8 r.1).toArray,.int .i64 r.2]∧Chg [] w w'∧MS (M) w':=by
 unfold community_Source.f at H;refine ent Tryz.func11 rfl [(0,.int .i64 a0)] rfl (by rfl) fun a ha=>?_;have hC:Chg [] w w:=Chg.refl _ _;refine wsr fun K1 hK1=>?_;refine alE (cA .u8 8 (List.replicate 8 (0:Int))) ha fun a w2 g3 hN4 ha=>?_;have e_i5:=eN hC (hN4.ge1);have hM:=MS.app hN4.ms (hM.chg hN4.chg);have hC:=hC.t0 hN4.chg;have hBg3:=hN4.box;refine sd ha 1 [] [(2,pt g3 0)] fun a ha=>?_;refine hK1 _ _ ?_;refine wsr fun K6 hK6=>?_;refine sd ha 1 [0] [(7,.int .i64 a0)] fun a ha=>?_;obtain ⟨t7,H7,H⟩:=bind_some H;refine cL ha (cursor_Put.walk w2 _ hM ([]:List Int) none 0 (RSl.nil (Nat.zero_le _)) a0 (4:Int) k _ H7) ?_;rintro _ w7 ⟨ao8,cap8,rfl,f8,ne_i8,hc7,hMn⟩ a ha;have hBg3:=hBg3.c0 hc7;have p_i8_i5:=pn (B:=[g3]) hM ne_i8 fun _ hy=>ml hy;have p_i8_M:=pn (B:=M) hM ne_i8 fun _ hy=>mr (hy);have hM:MS (blkL ao8++([g3]++(M))) w7:=(MS.app (fun x h=>hMn x (ml h)) (hM.chg hc7))
 have hC:=hC.t0 hc7;refine sd ha 5 [7] [(4,.slice ao8 t7.1.length cap8),(5,.int .i64 t7.2)] fun a ha=>?_;refine hK6 _ _ ?_;refine wp_seq_k fun K9 hK9=>?_;refine sqd ha 2 [] [(12,.bool (t7.2 != (0:Int)))] fun a ha=>?_;refine cnH H ha (fun hc11 H=>?_) (fun hc11 H=>?_)
 ·refine wsr fun K12 hK12=>?_;refine oP (.agg (cA .u8 8 ([(0:Int),(0:Int),(0:Int),(0:Int),(0:Int),(0:Int),(0:Int),(0:Int)]:List Int)).toArray) ha fun a ha=>?_;refine sf ha 1 [(2,pt g3 0),(13,.agg (cA .u8 8 ([(0:Int),(0:Int),(0:Int),(0:Int),(0:Int),(0:Int),(0:Int),(0:Int)]:List Int)).toArray),(14,.int .i64 t7.2)] fun a ha=>?_;refine stE (cA .u8 8 ([(0:Int),(0:Int),(0:Int),(0:Int),(0:Int),(0:Int),(0:Int),(0:Int)]:List Int)) ha hBg3 fun a w13 ha hBg3 hc14 _=>?_;have hM:=hM.chg hc14;have hC:=hC.t1 hc14 e_i5;refine sd ha 1 [13,14] [(3,.int .i64 t7.2)] fun a ha=>?_;refine hK12 _ _ ?_;refine wrt ?_;have hM:MS M w13:=hM.sb fun _ h=>mr (mr (h));obtain rfl:=oj H;refine rtr ha (res2 rfl (roA ha rfl hBg3 (by kernel_rfl)) (roT ha rfl)) ?_;exact ⟨rfl,hC,hM⟩
 ·refine wp_skip ?_;refine hK9 _ _ ?_;refine wsr fun K15 hK15=>?_;refine sf ha 1 [(2,pt g3 0),(15,.slice ao8 t7.1.length cap8)] fun a ha=>?_;have hML:MS ([g3]++(M)) w7:=MS.rest hM (fun _ h=>(List.mem_append.1 h).elim (fun h=>mr (ml h)) (fun h=>mr (mr (h))));have oL:Ok ([g3]++(M)) (blkL ao8++([g3]++(M))) w7.heap.size:=(fun _ h=>.inl (mr (h)))
  obtain ⟨t16,H16,H⟩:=bind_some H;refine cL ha (community_of.walk w7 _ hML (2:Int) (9:Int) t7.1 ao8 cap8 (Own.toRSl (M':=[g3]++(M)) f8 oL (fun x hx hm=>(List.mem_append.1 hm).elim (fun h=>p_i8_i5 x hx h) (fun h=>p_i8_M x hx h))) _ H16) ?_;rintro _ w16 ⟨rfl,hc16,hMn⟩ a ha;have hBg3:=hBg3.c0 hc16;have hM:=hM.chg hc16;have hC:=hC.t0 hc16;refine stE (cA .u8 8 t16) ha hBg3 fun a w17 ha hBg3 hc18 _=>?_;have hM:=hM.chg hc18;have hC:=hC.t1 hc18 e_i5;refine sd ha 1 [15] [(3,.int .i64 0)] fun a ha=>?_;refine hK15 _ _ ?_;refine wrt ?_;have hM:MS M w17:=hM.sb fun _ h=>mr (mr (h));obtain rfl:=oj H;refine rtr ha (res2 rfl (roA ha rfl hBg3 (by kernel_rfl)) (roT ha rfl)) ?_;exact ⟨rfl,hC,hM⟩
section
open Go.Sort
def cmp8 (x y:List Int):Int:=Go.Lib.compareBytes (b2s (arL 8 x)) (b2s (arL 8 y))
def ok8b (x:List Int):Bool:=x.length==8 && x.all (fun b=>decide (0≤b) && decide (b < 256))
abbrev B8:={x:List Int // ok8b x=true}
instance:Inhabited B8:=⟨⟨List.replicate 8 0,rfl⟩⟩
def encB (x:B8):List Value:=cA .u8 8 x.1
def cfB (x y:B8):Int:=cmp8 x.1 y.1
theorem sx_lt:∀ (a b:List UInt8),Go.Lib.compareBytes a b < 0↔a < b
  | [],[]=>by simp [Go.Lib.compareBytes]
  | [],_::_=>by simp [Go.Lib.compareBytes]
  | _::_,[]=>by simp [Go.Lib.compareBytes]
  | x::xs,y::ys=>by
    rw [List.cons_lt_cons_iff]
    unfold Go.Lib.compareBytes
    by_cases h:x < y
    · simp [h]
    · rw [if_neg h]
      by_cases h':y < x
      · rw [if_pos h']
        have:x≠y:=fun e=>by subst e;exact UInt8.lt_irrefl _ h'
        simp [h,this]
      · rw [if_neg h',sx_lt xs ys]
        have:x=y:=UInt8.le_antisymm (UInt8.not_lt.1 h') (UInt8.not_lt.1 h)
        subst this
        simp [h]
theorem sx_swo:Go.Sort.SWO (ltOf cfB) where
  irrefl x:=by
    have:=Go.Sort.swo_ltStr.irrefl (b2s (arL 8 x.1))
    simp only [Go.Sort.ltStr,decide_eq_false_iff_not] at this
    simp only [ltOf,cfB,cmp8,decide_eq_false_iff_not,sx_lt];exact this
  trans x y z h1 h2:=by
    have:=Go.Sort.swo_ltStr.trans (b2s (arL 8 x.1)) (b2s (arL 8 y.1)) (b2s (arL 8 z.1))
    simp only [Go.Sort.ltStr,decide_eq_true_eq] at this
    simp only [ltOf,cfB,cmp8,decide_eq_true_eq,sx_lt] at *;exact this h1 h2
  ntrans x y z h1 h2:=by
    have:=Go.Sort.swo_ltStr.ntrans (b2s (arL 8 x.1)) (b2s (arL 8 y.1)) (b2s (arL 8 z.1))
    simp only [Go.Sort.ltStr,decide_eq_false_iff_not] at this
    simp only [ltOf,cfB,cmp8,decide_eq_false_iff_not,sx_lt] at *;exact this h1 h2
theorem ok8_inj {x y:List Int} (hx:ok8b x=true) (hy:ok8b y=true) (h:b2s (arL 8 x)=b2s (arL 8 y)):x=y:=by
  simp only [ok8b,Bool.and_eq_true,beq_iff_eq,List.all_eq_true,decide_eq_true_eq] at hx hy
  obtain ⟨lx,rx⟩:=hx
  obtain ⟨ly,ry⟩:=hy
  apply List.ext_getElem (by rw [lx,ly])
  intro i h1 h2
  have e:=congrArg (fun l:List UInt8=>l[i]?) h
  have i8:i < 8:=by omega
  have q1:(b2s (arL 8 x))[i]? = some (UInt8.ofNat (x[i]).toNat):=by simp [b2s,arL,ar,i8,h1]
  have q2:(b2s (arL 8 y))[i]? = some (UInt8.ofNat (y[i]).toNat):=by simp [b2s,arL,ar,i8,h2]
  simp only [q1,q2,Option.some.injEq] at e
  have r1:=rx _ (List.getElem_mem h1)
  have r2:=ry _ (List.getElem_mem h2)
  have e2:=congrArg UInt8.toNat e
  rw [UInt8.toNat_ofNat_of_lt' (by show _ < 256;omega),UInt8.toNat_ofNat_of_lt' (by show _ < 256;omega)] at e2
  omega
theorem sx_tot:∀ x y:B8,(ltOf cfB) x y=false→(ltOf cfB) y x=false→x=y:=by
  intro x y h1 h2
  simp only [ltOf,cfB,cmp8,decide_eq_false_iff_not,sx_lt,List.not_lt] at h1 h2
  exact Subtype.ext (ok8_inj x.2 y.2 (List.le_antisymm h2 h1))
def le8 (x y:List Int):Bool:=!decide (cmp8 y x < 0)
def keep8 (xs:List (List Int)) (i:Nat):Bool:=i==0 || !eqA 8 (xs.getD i []) (xs.getD (i - 1) [])
def ddT (xs:List (List Int)) (m:Nat):List (List Int):=((List.range m).filter (keep8 xs)).map fun i=>xs.getD i []
def setE (l:List (List Int)):List (List Int):=ddT (l.mergeSort le8) l.length
def community_Set.f (l:List (List Int)):Option (List (List Int)):=if l.length*8≤140737488355328∧l.all ok8b=true then some (setE l) else none
theorem ddT_succ (xs:List (List Int)) (m:Nat):ddT xs (m+1)=ddT xs m++(if keep8 xs m=true then [xs.getD m []] else []):=by
  unfold ddT
  rw [List.range_succ,List.filter_append,List.map_append]
  by_cases h:keep8 xs m=true<;>simp [h]
theorem ddT_all (xs:List (List Int)):∀ (m:Nat),m≤xs.length→(∀ i,i < m→keep8 xs i=true)→ddT xs m=xs.take m
  | 0,_,_=>by simp [ddT]
  | m+1,hm,h=>by
    rw [ddT_succ,ddT_all xs m (by omega) (fun i hi=>h i (by omega)),if_pos (h m (by omega)),List.take_add_one]
    congr 1
    rw [List.getD_eq_getElem?_getD,List.getElem?_eq_getElem (by omega)];rfl
/-! the comparison, to the letter of the world -/
set_option maxRecDepth 100000 in
theorem bcmp_exact {w:World} {M M':List Nat} {ao ao':Option Addr} {cap cap':Nat} {xs ys:List Int} (f1:RSl (rInt .u8) 5 w M ao cap xs) (f2:RSl (rInt .u8) 5 w M' ao' cap' ys) :
    To Tryz.prog 83 [.slice ao xs.length cap,.slice ao' ys.length cap'] w fun v w'=>v=.int .i64 (Go.Lib.compareBytes (b2s xs) (b2s ys))∧w'=w:=by
  refine ent Tryz.func83 rfl [(0,.slice ao xs.length cap),(1,.slice ao' ys.length cap')] rfl (by rfl) fun a ha=>?_
  refine wp_seq_k fun K hK=>?_
  refine wp_region_lit ?_
  refine sd ha 1 [] [] fun a ha=>?_
  refine hK _ _ ?_;clear hK K
  refine wp_seq_k fun K hK=>?_
  refine wp_region_lit ?_
  refine sf ha 2 [(5,.slice ao xs.length cap),(6,.slice ao' ys.length cap')] fun a ha=>?_
  refine cx (fn:=Tryz.f121) ha (vals:=[.slice ao xs.length cap,.slice ao' ys.length cap']) (by rfl) (by rfl) (by rfl) (by rfl) (by rfl) (by rfl) (by rfl) (by rfl) (by rfl) (run_bcmp f1 f2) fun a ha=>?_
  refine sf ha 1 [(4,.int .i64 (Go.Lib.compareBytes (b2s xs) (b2s ys)))] fun a ha=>?_
  refine hK _ _ ?_;clear hK K
  refine wp_ret ?_
  exact rt1 ha rfl rfl ⟨rfl,rfl⟩
set_option maxRecDepth 100000 in
theorem order_exact {w:World} {M M':List Nat} {ao ao':Option Addr} {cap cap':Nat} {xs ys:List Int} (f1:RSl (rInt .u8) 5 w M ao cap xs) (f2:RSl (rInt .u8) 5 w M' ao' cap' ys) :
    To Tryz.prog 49 [.slice ao xs.length cap,.slice ao' ys.length cap'] w fun v w'=>v=.int .i64 (Go.Lib.compareBytes (b2s xs) (b2s ys))∧w'=w:=by
  refine ent Tryz.func49 rfl [(0,.slice ao xs.length cap),(1,.slice ao' ys.length cap')] rfl (by rfl) fun a ha=>?_
  refine wp_seq_k fun K hK=>?_
  refine wp_region_lit ?_
  refine sd ha 1 [] [] fun a ha=>?_
  refine hK _ _ ?_;clear hK K
  refine wp_seq_k fun K hK=>?_
  refine wp_region_lit ?_
  refine sf ha 2 [(5,.slice ao xs.length cap),(6,.slice ao' ys.length cap')] fun a ha=>?_
  refine cL ha (bcmp_exact f1 f2) ?_
  rintro _ w1 ⟨rfl,rfl⟩ a ha
  refine sf ha 1 [(4,.int .i64 (Go.Lib.compareBytes (b2s xs) (b2s ys)))] fun a ha=>?_
  refine hK _ _ ?_;clear hK K
  refine wp_ret ?_
  exact rt1 ha rfl rfl ⟨rfl,rfl⟩
set_option maxRecDepth 100000 in
theorem set_cmp (x y:List Int) (W:World):Calls Tryz.prog 48 #[.agg (cA .u8 8 x).toArray,.agg (cA .u8 8 y).toArray] W fun e w'=>e=.returned (.int .i64 (cmp8 x y))∧∃ q os',w'=Go.Sort.grow (W.drewN q) os':=by
  have h:To Tryz.prog 48 [.agg (cA .u8 8 x).toArray,.agg (cA .u8 8 y).toArray] W fun v w'=>v=.int .i64 (cmp8 x y)∧∃ q os',w'=Go.Sort.grow (W.drewN q) os':=by
    refine ent Tryz.func48 rfl [(0,.agg (cA .u8 8 x).toArray),(1,.agg (cA .u8 8 y).toArray)] rfl (by rfl) fun a ha=>?_
    refine wp_seq_k fun K hK=>?_
    refine wp_region_lit ?_
    have n1:=New.alloc W (.cells (cA .u8 8 x).toArray 27 (0,0))
    refine bxE (cs:=cA .u8 8 x) ha rfl rfl rfl rfl rfl fun a ha=>?_
    have n2:=New.alloc (W.alloc (.cells (cA .u8 8 x).toArray 27 (0,0))) (.cells (cA .u8 8 y).toArray 27 (0,0))
    refine bxE (cs:=cA .u8 8 y) ha rfl rfl rfl rfl rfl fun a ha=>?_
    have b1:=n1.box.chg n2.chg (fun h=>nomatch h)
    have b2:=n2.box
    have eW:(W.alloc (.cells (cA .u8 8 x).toArray 27 (0,0))).alloc (.cells (cA .u8 8 y).toArray 27 (0,0))=Go.Sort.grow W #[.cells (cA .u8 8 x).toArray 27 (0,0),.cells (cA .u8 8 y).toArray 27 (0,0)]:=by
      rw [Go.Sort.alloc_eq_grow,Go.Sort.alloc_eq_grow,Go.Sort.grow_grow];rfl
    rw [eW] at b1 b2
    rw [eW]
    generalize hg2:(W.alloc (.cells (cA .u8 8 x).toArray 27 (0,0))).heap.size=g2 at *
    generalize hg1:W.heap.size=g1 at *
    generalize hW2:Go.Sort.grow W #[.cells (cA .u8 8 x).toArray 27 (0,0),.cells (cA .u8 8 y).toArray 27 (0,0)]=W2 at *
    refine sf ha 1 [(2,pt g1 0),(3,pt g2 0)] fun a ha=>?_
    refine hK _ _ ?_;clear hK K
    refine wp_seq_k fun K hK=>?_
    refine drqE (fun w'=>∃ q,w'=W2.drewN q) (by kernel_rfl) (by kernel_rfl) ⟨1,rfl⟩ ?_
    refine qV (v:=.slice (some ⟨g1,0,none⟩) (arL 8 x).length 8) ha (fun w' hs=>opk_run ha rfl rfl (fun w=>by kernel_rfl)) fun a ha=>?_
    refine qV (v:=.slice (some ⟨g2,0,none⟩) (arL 8 y).length 8) ha (fun w' hs=>opk_run ha rfl rfl (fun w=>by kernel_rfl)) fun a ha=>?_
    have hf:∀ q,To Tryz.prog 49 [.slice (some ⟨g1,0,none⟩) (arL 8 x).length 8,.slice (some ⟨g2,0,none⟩) (arL 8 y).length 8] (W2.drewN q) fun v w'=>v=.int .i64 (cmp8 x y)∧w'=W2.drewN q:=fun q=>by
      have hc:Chg [] W2 (W2.drewN q):=chg_drewN W2 q
      have f1:RSl (rInt .u8) 5 (W2.drewN q) [] (some ⟨g1,0+0,none⟩) 8 (arL 8 x):=RSl.ofA [] [] (Box.cells (b1.chg hc (fun h=>nomatch h))) (fun h=>nomatch h) (List.append_nil _).symm rfl
      have f2:RSl (rInt .u8) 5 (W2.drewN q) [] (some ⟨g2,0+0,none⟩) 8 (arL 8 y):=RSl.ofA [] [] (Box.cells (b2.chg hc (fun h=>nomatch h))) (fun h=>nomatch h) (List.append_nil _).symm rfl
      exact order_exact f1 f2
    refine qc (vals:=[.slice (some ⟨g1,0,none⟩) (arL 8 x).length 8,.slice (some ⟨g2,0,none⟩) (arL 8 y).length 8]) (.int .i64 (cmp8 x y)) ha (by rfl) (by kernel_rfl) (by rfl) (by rfl) (by rfl) (fun w' hs=>by
      obtain ⟨q,rfl⟩:=hs
      exact (hf q).mono fun v w'' ⟨hv,hw⟩=>⟨hv,q,hw⟩) fun a ha=>?_
    refine qP 0 (.int .i64 (cmp8 x y)) ha fun a ha=>?_
    refine wpQuiet_nil ?_
    rintro w3 ⟨q,rfl⟩
    refine wpl_end ?_
    refine hK _ _ ?_;clear hK K
    refine wp_ret ?_
    refine rt1 ha rfl rfl ⟨rfl,q,#[.cells (cA .u8 8 x).toArray 27 (0,0),.cells (cA .u8 8 y).toArray 27 (0,0)],?_⟩
    rw [← hW2];rfl
  refine Calls.mono h ?_
  rintro e w' ⟨v,rfl,rfl,hw⟩
  exact ⟨rfl,hw⟩
theorem flatK_val (ys:List B8):Go.Sort.flatK encB 8 ys.toArray=Go.Sort.flatK (cA .u8 8) 8 (ys.map Subtype.val).toArray:=by
  apply Array.ext'
  rw [flatK_list (enc:=encB) (fun _=>cA_length),flatK_list (enc:=cA .u8 8) (fun _=>cA_length),List.flatMap_map];rfl
theorem sort_own (w:World) (M:List Nat) (g cap:Nat) (xs:List (List Int)) (hx:xs.all ok8b=true) (hl:xs.length < 4611686018427387904) (h:Own (rArr .u8 8) 27 w M (some ⟨g,0,none⟩) cap xs) :
    To Tryz.prog 47 [.slice (some ⟨g,0,none⟩) xs.length cap,.func (.func 48) #[] #[]] w fun v w'=>v=.tuple #[]∧Own (rArr .u8 8) 27 w' M (some ⟨g,0,none⟩) cap (xs.mergeSort le8)∧Chg [g] w w':=by
  have hx':∀ x∈xs,ok8b x=true:=List.all_eq_true.1 hx
  obtain ⟨ys,rfl⟩:∃ ys:List B8,ys.map Subtype.val=xs:=⟨xs.pmap Subtype.mk hx',by simp [List.map_pmap]⟩
  have hH:HoldsK encB 8 w g 0 ys.toArray:=by
    have:=Own.holds (Flat.arr .u8 8) rfl (fun _=>cA_length) h
    unfold HoldsK at this ⊢
    rw [flatK_val];exact this
  have hlen:(ys.map Subtype.val).length=ys.toArray.size:=by simp
  have hgl:g < w.heap.size:=h.lt g (by simp [blkL])
  have hO:=Tryz.slices_SortFunc (α:=B8) 8 (fun w=>by kernel_rfl) (fun w=>by kernel_rfl) encB (fun _=>cA_length) (fun x v hv=>(rArr .u8 8).one (w:=w) (M:=[]) rfl v hv) cfB sx_swo 48 #[] g 0 cap ys.toArray w (fun args w=>run_callFunc (by kernel_rfl) args w) (fun _ _ _ _ x y=>set_cmp x.1 y.1 _) hH hgl (by rw [← hlen];exact hl)
  rw [hlen]
  refine Calls.mono hO ?_
  rintro e w' ⟨rfl,d',n,os,hp,hs,rfl⟩
  have e1:=Go.Sort.sorted_unique_holds sx_swo sx_tot ys.toArray d' hp hs
  have e2:d'.toList.map Subtype.val=(ys.map Subtype.val).mergeSort le8:=by
    rw [e1]
    exact List.map_mergeSort fun a _ b _=>rfl
  have e3:sortWorldK encB 8 w g 0 n d' os=sortWorldK (cA .u8 8) 8 w g 0 n (d'.toList.map Subtype.val).toArray os:=by
    unfold sortWorldK putRowK
    rw [← flatK_val,Array.toArray_toList]
  rw [e3]
  refine ⟨_,rfl,rfl,?_,sort_chg w g _ n os⟩
  have:=Own.sorted (Flat.arr .u8 8) rfl (fun _=>cA_length) h (d'.toList.map Subtype.val).toArray (by rw [e2];simp) n os
  rw [← e2]
  exact this
theorem fb_pre (xs:List (List Int)) (i:Nat) (hi:i≤xs.length):((xs.take i).flatMap (cA .u8 8)).length=i*8:=by
  rw [flat_len (fun _=>cA_length),List.length_take,Nat.min_eq_left hi]
theorem fb_split (xs:List (List Int)) (i:Nat) (hi:i < xs.length):xs.flatMap (cA .u8 8)=(xs.take i).flatMap (cA .u8 8)++(cA .u8 8 (xs.getD i [])++(xs.drop (i+1)).flatMap (cA .u8 8)):=by
  conv=>lhs;rw [← List.take_append_drop i xs,List.drop_eq_getElem_cons hi]
  rw [List.flatMap_append,List.flatMap_cons,List.getD_eq_getElem?_getD,List.getElem?_eq_getElem hi];rfl
theorem fb_elem {w:World} {g:Nat} {xs:List (List Int)} {tail:List Value} (h:Box w g (xs.flatMap (cA .u8 8)++tail)) (i o:Nat) (hi:i < xs.length) (ho:o=i*8) :
    ∀ j v,(cA .u8 8 (xs.getD i []))[j]? = some v→w.cell? (Addr.add ⟨g,o,none⟩ j)=some v:=by
  have:=cells_sub (Box.cells h) ((xs.take i).flatMap (cA .u8 8)) ((xs.drop (i+1)).flatMap (cA .u8 8)++tail) (sub:=cA .u8 8 (xs.getD i [])) (by rw [fb_split xs i hi];simp only [List.append_assoc])
  rw [fb_pre xs i (by omega),Nat.zero_add,← ho] at this
  exact this
theorem fb_set (xs:List (List Int)) (tail:List Value) (i:Nat) (v:List Int) (hi:i < xs.length) :
    (xs.flatMap (cA .u8 8)++tail).take (i*8)++cA .u8 8 v++(xs.flatMap (cA .u8 8)++tail).drop (i*8+(cA .u8 8 v).length)=(xs.set i v).flatMap (cA .u8 8)++tail:=by
  have hp:=fb_pre xs i (by omega)
  have e:xs.flatMap (cA .u8 8)++tail=(xs.take i).flatMap (cA .u8 8)++(cA .u8 8 (xs.getD i [])++((xs.drop (i+1)).flatMap (cA .u8 8)++tail)):=by
    rw [fb_split xs i hi];simp only [List.append_assoc]
  have e2:(xs.set i v).flatMap (cA .u8 8)=(xs.take i).flatMap (cA .u8 8)++(cA .u8 8 v++(xs.drop (i+1)).flatMap (cA .u8 8)):=by
    rw [List.set_eq_take_append_cons_drop,if_pos hi,List.flatMap_append,List.flatMap_cons]
  have hd:∀ (P Q R:List Value),Q.length=8→(P++(Q++R)).drop (P.length+8)=R:=fun P Q R h=>by rw [← List.append_assoc,List.drop_left' (by simp [h])]
  rw [e,e2,cA_length,← hp,List.take_left,hd _ _ _ cA_length]
  simp only [List.append_assoc]
theorem fb_rsl {w:World} {g cap:Nat} {xs:List (List Int)} {tail:List Value} (h:Box w g (xs.flatMap (cA .u8 8)++tail)) (h1:xs.length≤cap) (h2:cap≤maxLen) (M:List Nat) (hg:g∉M) (T:TypeId):RSl (rArr .u8 8) T w M (some ⟨g,0,none⟩) cap xs:=by
  obtain ⟨T',hb⟩:=h
  refine ⟨h1,h2,.inr ⟨g,0,_,(T',(0,0)),rfl,hg,hb,?_⟩⟩
  rw [RL.flat (Flat.arr .u8 8),List.toList_toArray,List.drop_zero,show (rArr .u8 8).sz=8 from rfl,← flat_len (fun _=>cA_length (k:=.u8) (m:=8)) xs,List.take_left]
theorem fb_own {w:World} {M:List Nat} {T:TypeId} {g cap:Nat} {xs:List (List Int)} (h:Own (rArr .u8 8) T w M (some ⟨g,0,none⟩) cap xs):(∃ tail,BoxT T w g (xs.flatMap (cA .u8 8)++tail)∧(xs.flatMap (cA .u8 8)++tail).length=cap*8)∧xs.length≤cap∧cap≤maxLen:=by
  rcases h with ⟨e,_⟩ | ⟨g',cur,e,hg,hb,h1,h2,h3,hl⟩
  · cases e
  · cases e
    have:=(RL.flat (Flat.arr .u8 8)).1 hl
    refine ⟨⟨cur.toList.drop (xs.length*8),?_,?_⟩,h2,h3⟩
    · rw [← this,show (rArr .u8 8).sz=8 from rfl,List.take_append_drop]
      show w.heap[g]? = _
      simpa using hb
    · rw [← this,show (rArr .u8 8).sz=8 from rfl,List.take_append_drop]
      simpa [rArr] using h1
theorem own_fb {w:World} {M:List Nat} {T:TypeId} {g cap:Nat} {xs:List (List Int)} {tail:List Value} (h:BoxT T w g (xs.flatMap (cA .u8 8)++tail)) (hl:(xs.flatMap (cA .u8 8)++tail).length=cap*8) (h1:xs.length≤cap) (h2:cap≤maxLen) (hM:g∈M):Own (rArr .u8 8) T w M (some ⟨g,0,none⟩) cap xs:=by
  refine .inr ⟨g,_,rfl,hM,h,by simpa [rArr] using hl,h1,h2,?_⟩
  rw [RL.flat (Flat.arr .u8 8),List.toList_toArray,show (rArr .u8 8).sz=8 from rfl,← flat_len (fun _=>cA_length (k:=.u8) (m:=8)) xs,List.take_left]
theorem getD_of_drop {xs cur:List (List Int)} {m r:Nat} (h:cur.drop m=xs.drop m) (hr:m≤r):cur.getD r []=xs.getD r []:=by
  have e:=congrArg (fun l:List (List Int)=>l[r - m]?) h
  simp only [List.getElem?_drop] at e
  rw [show m+(r - m)=r by omega] at e
  rw [List.getD_eq_getElem?_getD,List.getD_eq_getElem?_getD,e]
theorem wrap_nat (n:Nat) (h:n≤9223372036854775807):IntKind.i64.wrap (n:Int)=(n:Int):=by rw [IntKind.wrap_i64];omega
theorem zc_len (T:TypeId) (z:Value) (s n:Nat) (hs:z.cells.size=s):(Builtin.zeroCells z.cells n).toList.length=n*s:=by simp [Builtin.zeroCells,hs]
theorem ddT_len (xs:List (List Int)) (m:Nat):(ddT xs m).length≤m:=by
  unfold ddT
  rw [List.length_map]
  exact Nat.le_trans (List.length_filter_le _ _) (by simp)
set_option maxRecDepth 100000 in
theorem compact_walk (w:World) (g cap:Nat) (xs:List (List Int)) (tail:List Value) (hB:BoxT 27 w g (xs.flatMap (cA .u8 8)++tail)) (hn:xs.length≤cap) (hc:cap≤maxLen) :
    To Tryz.prog 50 [.slice (some ⟨g,0,none⟩) xs.length cap] w fun v w'=>∃ tail',v=.slice (some ⟨g,0,none⟩) (ddT xs xs.length).length cap∧BoxT 27 w' g ((ddT xs xs.length).flatMap (cA .u8 8)++tail')∧((ddT xs xs.length).flatMap (cA .u8 8)++tail').length=(xs.flatMap (cA .u8 8)++tail).length∧Chg [g] w w':=by
  have hmax:maxLen=9223372036854775807:=rfl
  refine ent Tryz.func50 rfl [(0,.slice (some ⟨g,0,none⟩) xs.length cap)] rfl (by rfl) fun a ha=>?_
  refine wp_seq_k fun K hK=>?_
  refine wp_region_lit ?_
  refine sd ha 1 [] [] fun a ha=>?_
  refine hK _ _ ?_;clear hK K
  refine wp_seq_k fun K hK=>?_
  refine wsr fun K2 hK2=>?_
  refine sd ha 3 [] [(8,.bool (decide ((xs.length:Int) < 2)))] fun a ha=>?_
  refine hK2 _ _ ?_;clear hK2 K2
  refine cnd ha rfl (fun h2=>?_) (fun h2=>?_)
  · have h2:xs.length < 2:=by have:=of_decide_eq_true h2;omega
    have e:ddT xs xs.length=xs:=by
      rw [ddT_all xs xs.length (Nat.le_refl _) (fun i hi=>by
      have hi0:i=0:=by omega
      rw [hi0];rfl),List.take_length]
    refine wsr fun K2 hK2=>?_
    refine sf ha 2 [(2,.slice (some ⟨g,0,none⟩) xs.length cap)] fun a ha=>?_
    refine hK2 _ _ ?_;clear hK2 K2
    refine wp_ret ?_
    simp only [Exit.then,Exit.inBlock]
    refine rt1 ha rfl rfl ⟨tail,by rw [e],by rw [e];exact hB,by rw [e],Chg.refl _ _⟩
  have h2:2≤xs.length:=by have:=of_decide_eq_false h2;omega
  refine wp_skip ?_
  refine hK _ _ ?_;clear hK K
  refine wp_seq_k fun K hK=>?_
  refine wsr fun K2 hK2=>?_
  refine sd ha 1 [8] [(3,.int .i64 ((1:Nat):Int))] fun a ha=>?_
  refine hK2 _ _ ?_;clear hK2 K2
  refine wp_block ?_
  have J:∀ (a:Act) (w1:World),Has a Tryz.f50.ntmps [(0,.slice (some ⟨g,0,none⟩) xs.length cap)]→(∀ i,i < xs.length→keep8 xs i=true)→BoxT 27 w1 g (xs.flatMap (cA .u8 8)++tail)→Chg [g] w w1→K a w1:=by
    intro a w1 ha hk hB hC
    refine hK _ _ ?_;clear hK K
    have e:ddT xs xs.length=xs:=by rw [ddT_all xs xs.length (Nat.le_refl _) hk,List.take_length]
    refine wp_seq_k fun K hK=>?_
    refine wp_region_lit ?_
    refine sf ha 2 [(2,.slice (some ⟨g,0,none⟩) xs.length cap)] fun a ha=>?_
    refine hK _ _ ?_;clear hK K
    refine wp_ret ?_
    refine rt1 ha rfl rfl ⟨tail,by rw [e],by rw [e];exact hB,by rw [e],hC⟩
  refine wp_loop_ghost (fun kk a w1=>∃ k:Nat,kk=xs.length - k∧1≤k∧k≤xs.length∧(∀ i,i < k→keep8 xs i=true)∧Has a Tryz.f50.ntmps [(0,.slice (some ⟨g,0,none⟩) xs.length cap),(3,.int .i64 (k:Int))]∧BoxT 27 w1 g (xs.flatMap (cA .u8 8)++tail)∧Chg [g] w w1) (xs.length - 1) ?_ ?_
  · exact ⟨1,rfl,Nat.le_refl _,by omega,fun i hi=>by
      have hi0:i=0:=by omega
      rw [hi0];rfl,ha.sel (by kernel_rfl),hB,Chg.refl _ _⟩
  rintro kk a w1 ⟨k,rfl,k1,kn,hkeep,ha,hB,hC⟩
  refine wp_seq_k fun KA hKA=>?_
  refine wsr fun K2 hK2=>?_
  refine sd ha 4 [] [(3,.int .i64 (k:Int)),(13,.bool (decide ((k:Int) < (xs.length:Int))))] fun a ha=>?_
  refine hK2 _ _ ?_;clear hK2 K2
  refine cnd ha rfl (fun h3=>?_) (fun h3=>?_)
  rotate_left
  · refine wx ?_
    have h3:¬ (k:Int) < xs.length:=of_decide_eq_false h3
    exact J _ _ (ha.sel (by kernel_rfl)) (fun i hi=>hkeep i (by omega)) hB hC
  have h3:(k:Int) < xs.length:=of_decide_eq_true h3
  have k3:k < xs.length:=by omega
  refine wp_skip ?_
  refine hKA _ _ ?_;clear hKA KA
  refine wp_seq_k fun KB hKB=>?_
  refine wp_block ?_
  refine wp_seq_k fun K2 hK2=>?_
  have e22:IntKind.i64.wrap ((k:Int) - 1)=((k - 1:Nat):Int):=by rw [IntKind.wrap_i64];omega
  refine drq0 (fun w'=>Chg [] w1 w') (by kernel_rfl) (by kernel_rfl) (fun _ h=>h) ?_
  refine qP 0 (.slice (some ⟨g,0,none⟩) xs.length cap) ha fun a ha=>?_
  refine qP 0 (.int .i64 (k:Int)) ha fun a ha=>?_
  refine qV ha (fun w' hs=>ix_run (r:=rArr .u8 8) (T:=27) (xs:=xs) (k:=.i64) (i:=(k:Int)) ha (by kernel_rfl) (by kernel_rfl) (by rfl) (by rfl) rfl (by omega) h3) fun a ha=>?_
  refine qV (v:=.agg (cA .u8 8 (xs.getD k [])).toArray) ha (fun w' hs=>ldA_run (cs:=cA .u8 8 (xs.getD k [])) ha rfl (by kernel_rfl) (fb_elem (hB.chg hs (fun h=>nomatch h)).box k _ k3 (by show 0+Int.toNat (k:Int)*8=k*8;simp))) fun a ha=>?_
  refine qP 0 (.slice (some ⟨g,0,none⟩) xs.length cap) ha fun a ha=>?_
  refine qP 0 (.int .i64 (k:Int)) ha fun a ha=>?_
  refine qP 0 (.int .i64 (IntKind.i64.wrap ((k:Int) - 1))) ha fun a ha=>?_
  rw [e22] at ha
  refine qV ha (fun w' hs=>ix_run (r:=rArr .u8 8) (T:=27) (xs:=xs) (k:=.i64) (i:=((k - 1:Nat):Int)) ha (by kernel_rfl) (by kernel_rfl) (by rfl) (by rfl) rfl (by omega) (by omega)) fun a ha=>?_
  refine qV (v:=.agg (cA .u8 8 (xs.getD (k - 1) [])).toArray) ha (fun w' hs=>ldA_run (cs:=cA .u8 8 (xs.getD (k - 1) [])) ha rfl (by kernel_rfl) (fb_elem (hB.chg hs (fun h=>nomatch h)).box (k - 1) _ (by omega) (by show 0+Int.toNat ((k - 1:Nat):Int)*8=(k - 1)*8;simp))) fun a ha=>?_
  refine qV (v:=.bool (eqA 8 (xs.getD k []) (xs.getD (k - 1) []))) ha (fun w' hs=>eqs_run (r:=eqA 8 (xs.getD k []) (xs.getD (k - 1) [])) (m:=9) ha rfl rfl (by kernel_rfl) rfl (by kernel_rfl) w') fun a ha=>?_
  refine wpQuiet_nil ?_
  intro w2 hs
  have hB:=hB.chg hs (fun h=>nomatch h)
  have hC:=hC.t0 hs
  refine wpl_end ?_
  have ha:=ha.sel (env':=[(0,.slice (some ⟨g,0,none⟩) xs.length cap),(3,.int .i64 (k:Int)),(25,.bool (eqA 8 (xs.getD k []) (xs.getD (k - 1) [])))]) (by kernel_rfl)
  refine hK2 _ _ ?_;clear hK2 K2
  have hkk:keep8 xs k=!eqA 8 (xs.getD k []) (xs.getD (k - 1) []):=by
    unfold keep8
    have:(k==0)=false:=by simp;omega
    rw [this];rfl
  refine cnd ha rfl (fun h4=>?_) (fun h4=>?_)
  rotate_left
  · refine wp_skip ?_
    refine hKB _ _ ?_;clear hKB KB
    refine wp_region_lit ?_
    refine sd ha 3 [25] [(3,.int .i64 (IntKind.i64.wrap ((k:Int)+1)))] fun a ha=>?_
    have e:IntKind.i64.wrap ((k:Int)+1)=((k+1:Nat):Int):=by rw [IntKind.wrap_i64];omega
    rw [e] at ha
    exact ⟨xs.length - (k+1),by omega,k+1,rfl,by omega,by omega,fun i hi=>by
      by_cases hik:i=k
      · subst hik;rw [hkk,h4];rfl
      · exact hkeep i (by omega),ha.sel (by kernel_rfl),hB,hC⟩
  have hkf:keep8 xs k=false:=by rw [hkk,h4];rfl
  refine wsr fun K2 hK2=>?_
  refine sd ha 2 [25] [(26,.slice (some ⟨g,0,none⟩) xs.length cap),(27,.int .i64 (k:Int))] fun a ha=>?_
  have hR:RSl (rArr .u8 8) 27 w2 [] (some ⟨g,0,none⟩) cap xs:=fb_rsl hB.box hn hc [] (fun h=>nomatch h) 27
  refine hop (w':=w2) ha rfl rfl rfl (slcE_run (r:=rArr .u8 8) (T:=27) (xs:=xs) (l:=(k:Int)) (h:=(xs.length:Int)) ha (by kernel_rfl) (by kernel_rfl) rfl rfl rfl hR (by omega) (by omega) (by omega) w2) fun a ha=>?_
  have eS:(Value.slice (if cap=(k:Int).toNat then some ⟨g,0,none⟩ else (some (⟨g,0,none⟩:Addr)).map (·.add ((k:Int).toNat*(rArr .u8 8).sz))) ((xs.take (xs.length:Int).toNat).drop (k:Int).toNat).length (cap - (k:Int).toNat))=.slice (some ⟨g,k*8,none⟩) (xs.drop k).length (cap - k):=by
    rw [Int.toNat_natCast,Int.toNat_natCast,if_neg (by omega),List.take_length,Option.map_some,Addr.add_lit,Nat.zero_add];rfl
  rw [eS] at ha
  refine sd ha 1 [26,27] [(4,.slice (some ⟨g,k*8,none⟩) (xs.drop k).length (cap - k))] fun a ha=>?_
  refine hK2 _ _ ?_;clear hK2 K2
  have hdl:(xs.drop k).length=xs.length - k:=List.length_drop
  refine wp_seq_k fun KC hKC=>?_
  refine wsr fun K2 hK2=>?_
  refine sd ha 1 [] [(5,.int .i64 ((1:Nat):Int))] fun a ha=>?_
  refine hK2 _ _ ?_;clear hK2 K2
  refine wp_block ?_
  have JC:∀ (a:Act) (w3:World) (m:Nat) (cur:List (List Int)),Has a Tryz.f50.ntmps [(0,.slice (some ⟨g,0,none⟩) xs.length cap),(3,.int .i64 (m:Int))]→m < xs.length→cur.length=xs.length→cur.take m=ddT xs xs.length→BoxT 27 w3 g (cur.flatMap (cA .u8 8)++tail)→Chg [g] w w3→KC a w3:=by
    intro a w3 m cur ha hm hcl htk hB hC
    refine hKC _ _ ?_;clear hKC KC
    refine wsr fun K2 hK2=>?_
    refine sd ha 2 [4,5] [(3,.int .i64 (m:Int)),(54,.slice (some ⟨g,0,none⟩) xs.length cap),(55,.int .i64 (m:Int))] fun a ha=>?_
    have hR:RSl (rArr .u8 8) 27 w3 [] (some ⟨g,0,none⟩) cap cur:=fb_rsl hB.box (by omega) hc [] (fun h=>nomatch h) 27
    have ha:Has a Tryz.f50.ntmps [(0,.slice (some ⟨g,0,none⟩) cur.length cap),(3,.int .i64 (m:Int)),(54,.slice (some ⟨g,0,none⟩) cur.length cap),(55,.int .i64 (m:Int))]:=by rw [hcl];exact ha.sel (by kernel_rfl)
    refine hop (w':=w3) ha rfl rfl rfl (slcE_run (r:=rArr .u8 8) (T:=27) (xs:=cur) (l:=(m:Int)) (h:=(cur.length:Int)) ha (by kernel_rfl) (by kernel_rfl) rfl rfl rfl hR (by omega) (by omega) (by omega) w3) fun a ha=>?_
    have eS:(Value.slice (if cap=(m:Int).toNat then some ⟨g,0,none⟩ else (some (⟨g,0,none⟩:Addr)).map (·.add ((m:Int).toNat*(rArr .u8 8).sz))) ((cur.take (cur.length:Int).toNat).drop (m:Int).toNat).length (cap - (m:Int).toNat))=.slice (some ⟨g,m*8,none⟩) (cur.drop m).length (cap - m):=by
      rw [Int.toNat_natCast,Int.toNat_natCast,if_neg (by omega),List.take_length,Option.map_some,Addr.add_lit,Nat.zero_add];rfl
    rw [eS] at ha
    refine clr (e:=27) (s:=8) (z:=.agg (cA .u8 8 []).toArray) ha (by kernel_rfl) rfl (fun w=>by kernel_rfl) rfl (fun v hv=>?_) rfl hB ?_ fun a w4 cs' ha hB4 htk4 hl4 hc4=>?_
    · simp only [Builtin.zeroCells,Array.toList_map,List.mem_map] at hv
      obtain ⟨i,_,rfl⟩:=hv
      have:i % (Value.agg (cA .u8 8 []).toArray).cells.size < 8:=Nat.mod_lt _ (by decide)
      generalize i % (Value.agg (cA .u8 8 []).toArray).cells.size=q at this ⊢
      match q,this with
      | 0,_=>rfl
      | 1,_=>rfl
      | 2,_=>rfl
      | 3,_=>rfl
      | 4,_=>rfl
      | 5,_=>rfl
      | 6,_=>rfl
      | 7,_=>rfl
    · rw [zc_len 27 _ 8 _ rfl,List.length_append,flat_len (fun _=>cA_length),List.length_drop];omega
    have hC:=hC.trans hc4 (Ok.refl _ _)
    refine wpl_end ?_
    have ha:Has a Tryz.f50.ntmps [(0,.slice (some ⟨g,0,none⟩) cur.length cap),(3,.int .i64 (m:Int))]:=ha.sel (by kernel_rfl)
    refine hK2 _ _ ?_;clear hK2 K2
    refine wsr fun K2 hK2=>?_
    refine sf ha 2 [(57,.slice (some ⟨g,0,none⟩) cur.length cap),(58,.int .i64 (m:Int))] fun a ha=>?_
    have em:(cur.take m).length=m:=by rw [List.length_take];omega
    have hB5:BoxT 27 w4 g ((cur.take m).flatMap (cA .u8 8)++cs'.drop (m*8)):=by
      have e1:cs'.take (m*8)=(cur.take m).flatMap (cA .u8 8):=by
        have e2:cur.flatMap (cA .u8 8)=(cur.take m).flatMap (cA .u8 8)++(cur.drop m).flatMap (cA .u8 8):=by rw [← List.flatMap_append,List.take_append_drop]
        rw [htk4,List.take_append_of_le_length (by rw [flat_len (fun _=>cA_length)];omega),← fb_pre cur m (by omega),e2,List.take_left]
      rw [← e1,List.take_append_drop];exact hB4
    have hR:RSl (rArr .u8 8) 27 w3 [] (some ⟨g,0,none⟩) cap cur:=hR
    refine hop (w':=w4) ha rfl rfl rfl (slcE_run (r:=rArr .u8 8) (T:=27) (xs:=cur) (l:=0) (h:=(m:Int)) ha (by kernel_rfl) (by kernel_rfl) rfl rfl rfl hR (by omega) (by omega) (by omega) w4) fun a ha=>?_
    have eS:(Value.slice (if cap=(0:Int).toNat then some ⟨g,0,none⟩ else (some (⟨g,0,none⟩:Addr)).map (·.add ((0:Int).toNat*(rArr .u8 8).sz))) ((cur.take (m:Int).toNat).drop (0:Int).toNat).length (cap - (0:Int).toNat))=.slice (some ⟨g,0,none⟩) (cur.take m).length cap:=by
      rw [Int.toNat_natCast]
      show Value.slice (if cap=0 then some ⟨g,0,none⟩ else some (Addr.add ⟨g,0,none⟩ (0*8))) (cur.take m).length cap=_
      split<;>rfl
    rw [eS] at ha
    refine sf ha 1 [(2,.slice (some ⟨g,0,none⟩) (cur.take m).length cap)] fun a ha=>?_
    refine hK2 _ _ ?_;clear hK2 K2
    refine wp_ret ?_
    simp only [Exit.then,Exit.inBlock]
    refine rt1 ha rfl rfl ⟨cs'.drop (m*8),by rw [← htk],by rw [← htk];exact hB5,?_,hC⟩
    rw [← htk,List.length_append,flat_len (fun _=>cA_length),List.length_drop,hl4,em,List.length_append,flat_len (fun _=>cA_length),List.length_append,flat_len (fun _=>cA_length),hcl]
    omega
  refine wp_loop_ghost (fun kk a w3=>∃ (m k2:Nat) (cur:List (List Int)),kk=xs.length - (k+k2)∧1≤k2∧k+k2≤xs.length∧m+1≤k+k2∧cur.length=xs.length∧cur.take m=ddT xs (k+k2)∧cur.drop m=xs.drop m∧Has a Tryz.f50.ntmps [(0,.slice (some ⟨g,0,none⟩) xs.length cap),(3,.int .i64 (m:Int)),(4,.slice (some ⟨g,k*8,none⟩) (xs.drop k).length (cap - k)),(5,.int .i64 (k2:Int))]∧BoxT 27 w3 g (cur.flatMap (cA .u8 8)++tail)∧Chg [g] w w3) (xs.length - (k+1)) ?_ ?_
  · refine ⟨k,1,xs,rfl,Nat.le_refl _,by omega,Nat.le_refl _,rfl,?_,rfl,ha.sel (by kernel_rfl),hB,hC⟩
    rw [ddT_succ,if_neg (by rw [hkf];decide),List.append_nil,ddT_all xs k (by omega) hkeep]
  rintro kk2 a w3 ⟨m,k2,cur,rfl,k21,hkn,hmk,hcl,htk,hdp,ha,hB,hC⟩
  refine wp_seq_k fun KD hKD=>?_
  refine wsr fun K2 hK2=>?_
  refine sd ha 4 [] [(3,.int .i64 (m:Int)),(5,.int .i64 (k2:Int)),(32,.bool (decide ((k2:Int) < ((xs.drop k).length:Int))))] fun a ha=>?_
  refine hK2 _ _ ?_;clear hK2 K2
  refine cnd ha rfl (fun h5=>?_) (fun h5=>?_)
  rotate_left
  · refine wx ?_
    have h5:¬ (k2:Int) < ((xs.drop k).length:Int):=of_decide_eq_false h5
    have ekn:k+k2=xs.length:=by omega
    rw [ekn] at htk
    exact JC _ _ m cur (ha.sel (by kernel_rfl)) (by omega) hcl htk hB hC
  have h5:(k2:Int) < ((xs.drop k).length:Int):=of_decide_eq_true h5
  have r5:k+k2 < xs.length:=by omega
  refine wp_skip ?_
  refine hKD _ _ ?_;clear hKD KD
  refine wp_seq_k fun KE hKE=>?_
  have JE:∀ (a:Act) (w5:World) (m':Nat) (cur':List (List Int)),Has a Tryz.f50.ntmps [(0,.slice (some ⟨g,0,none⟩) xs.length cap),(3,.int .i64 (m':Int)),(4,.slice (some ⟨g,k*8,none⟩) (xs.drop k).length (cap - k)),(5,.int .i64 (k2:Int))]→m'≤k+k2→cur'.length=xs.length→cur'.take m'=ddT xs (k+k2+1)→cur'.drop m'=xs.drop m'→BoxT 27 w5 g (cur'.flatMap (cA .u8 8)++tail)→Chg [g] w w5→KE a w5:=by
    intro a w5 m' cur' ha hm' hcl' htk' hdp' hB hC
    refine hKE _ _ ?_;clear hKE KE
    refine wp_region_lit ?_
    refine sd ha 3 [32] [(3,.int .i64 (m':Int)),(5,.int .i64 (IntKind.i64.wrap ((k2:Int)+1)))] fun a ha=>?_
    have e:IntKind.i64.wrap ((k2:Int)+1)=((k2+1:Nat):Int):=by rw [IntKind.wrap_i64];omega
    rw [e] at ha
    exact ⟨xs.length - (k+(k2+1)),by omega,m',k2+1,cur',rfl,by omega,by omega,by omega,hcl',htk',hdp',ha.sel (by kernel_rfl),hB,hC⟩
  refine wp_block ?_
  refine wp_seq_k fun K2 hK2=>?_
  have e41:IntKind.i64.wrap ((k2:Int) - 1)=((k2 - 1:Nat):Int):=by rw [IntKind.wrap_i64];omega
  have g1:cur.getD (k+k2) []=xs.getD (k+k2) []:=getD_of_drop hdp (by omega)
  have g2:cur.getD (k+(k2 - 1)) []=xs.getD (k+k2 - 1) []:=by rw [show k+(k2 - 1)=k+k2 - 1 by omega];exact getD_of_drop hdp (by omega)
  refine drq0 (fun w'=>Chg [] w3 w') (by kernel_rfl) (by kernel_rfl) (fun _ h=>h) ?_
  refine qP 0 (.slice (some ⟨g,k*8,none⟩) (xs.drop k).length (cap - k)) ha fun a ha=>?_
  refine qP 0 (.int .i64 (k2:Int)) ha fun a ha=>?_
  refine qV ha (fun w' hs=>ix_run (r:=rArr .u8 8) (T:=27) (xs:=xs.drop k) (k:=.i64) (i:=(k2:Int)) ha (by kernel_rfl) (by kernel_rfl) (by rfl) (by rfl) rfl (by omega) h5) fun a ha=>?_
  refine qV (v:=.agg (cA .u8 8 (cur.getD (k+k2) [])).toArray) ha (fun w' hs=>ldA_run (cs:=cA .u8 8 (cur.getD (k+k2) [])) ha rfl (by kernel_rfl) (fb_elem (hB.chg hs (fun h=>nomatch h)).box (k+k2) _ (by omega) (by show k*8+Int.toNat (k2:Int)*8=(k+k2)*8;rw [Int.toNat_natCast];omega))) fun a ha=>?_
  refine qP 0 (.slice (some ⟨g,k*8,none⟩) (xs.drop k).length (cap - k)) ha fun a ha=>?_
  refine qP 0 (.int .i64 (k2:Int)) ha fun a ha=>?_
  refine qP 0 (.int .i64 (IntKind.i64.wrap ((k2:Int) - 1))) ha fun a ha=>?_
  rw [e41] at ha
  refine qV ha (fun w' hs=>ix_run (r:=rArr .u8 8) (T:=27) (xs:=xs.drop k) (k:=.i64) (i:=((k2 - 1:Nat):Int)) ha (by kernel_rfl) (by kernel_rfl) (by rfl) (by rfl) rfl (by omega) (by omega)) fun a ha=>?_
  refine qV (v:=.agg (cA .u8 8 (cur.getD (k+(k2 - 1)) [])).toArray) ha (fun w' hs=>ldA_run (cs:=cA .u8 8 (cur.getD (k+(k2 - 1)) [])) ha rfl (by kernel_rfl) (fb_elem (hB.chg hs (fun h=>nomatch h)).box (k+(k2 - 1)) _ (by omega) (by show k*8+Int.toNat ((k2 - 1:Nat):Int)*8=(k+(k2 - 1))*8;rw [Int.toNat_natCast];omega))) fun a ha=>?_
  refine qV (v:=.bool (!eqA 8 (cur.getD (k+k2) []) (cur.getD (k+(k2 - 1)) []))) ha (fun w' hs=>nes_run (r:=eqA 8 (cur.getD (k+k2) []) (cur.getD (k+(k2 - 1)) [])) (m:=9) ha rfl rfl (by kernel_rfl) rfl (by kernel_rfl) w') fun a ha=>?_
  refine wpQuiet_nil ?_
  intro w4 hs
  have hB:=hB.chg hs (fun h=>nomatch h)
  have hC:=hC.t0 hs
  refine wpl_end ?_
  have ha:=ha.sel (env':=[(0,.slice (some ⟨g,0,none⟩) xs.length cap),(3,.int .i64 (m:Int)),(4,.slice (some ⟨g,k*8,none⟩) (xs.drop k).length (cap - k)),(5,.int .i64 (k2:Int)),(44,.bool (!eqA 8 (cur.getD (k+k2) []) (cur.getD (k+(k2 - 1)) [])))]) (by kernel_rfl)
  refine hK2 _ _ ?_;clear hK2 K2
  have hkr:keep8 xs (k+k2)=!eqA 8 (cur.getD (k+k2) []) (cur.getD (k+(k2 - 1)) []):=by
    rw [g1,g2]
    unfold keep8
    have:((k+k2)==0)=false:=by simp;omega
    rw [this];rfl
  refine cnd ha rfl (fun h6=>?_) (fun h6=>?_)
  rotate_left
  · refine wp_skip ?_
    refine JE _ _ m cur (ha.sel (by kernel_rfl)) (by omega) hcl ?_ hdp hB hC
    rw [ddT_succ,if_neg (by rw [hkr,h6];decide),List.append_nil];exact htk
  refine wsr fun K2 hK2=>?_
  refine sd ha 4 [44] [(45,.slice (some ⟨g,0,none⟩) xs.length cap),(46,.int .i64 (m:Int)),(47,.slice (some ⟨g,k*8,none⟩) (xs.drop k).length (cap - k)),(48,.int .i64 (k2:Int))] fun a ha=>?_
  refine hop (w':=w4) ha rfl rfl rfl (ix_run (r:=rArr .u8 8) (T:=27) (xs:=xs.drop k) (k:=.i64) (i:=(k2:Int)) ha (by kernel_rfl) (by kernel_rfl) (by rfl) (by rfl) rfl (by omega) h5) fun a ha=>?_
  refine ldA (cs:=cA .u8 8 (cur.getD (k+k2) [])) ha rfl (by kernel_rfl) rfl rfl rfl (fb_elem hB.box (k+k2) _ (by omega) (by show k*8+Int.toNat (k2:Int)*8=(k+k2)*8;rw [Int.toNat_natCast];omega)) fun a ha=>?_
  refine hop (w':=w4) ha rfl rfl rfl (ix_run (r:=rArr .u8 8) (T:=27) (xs:=xs) (k:=.i64) (i:=(m:Int)) ha (by kernel_rfl) (by kernel_rfl) (by rfl) (by rfl) rfl (by omega) (by omega)) fun a ha=>?_
  have eo:(0+Int.toNat (m:Int)*(rArr .u8 8).sz)=m*8:=by show 0+Int.toNat (m:Int)*8=m*8;rw [Int.toNat_natCast];omega
  rw [eo] at ha
  refine stAT (l:=cA .u8 8 (cur.getD (k+k2) [])) (o':=m*8) ha rfl rfl rfl (by kernel_rfl) rfl rfl hB (Nat.ble_eq_true_of_le ?_) fun a w5 ha hb5 hc5 _=>?_
  · rw [cA_length,List.length_append,flat_len (fun _=>cA_length)];omega
  rw [fb_set cur tail m _ (by omega)] at hb5
  have hC:=hC.trans hc5 (Ok.refl _ _)
  refine wpl_end ?_
  have ha:=ha.sel (env':=[(0,.slice (some ⟨g,0,none⟩) xs.length cap),(3,.int .i64 (m:Int)),(4,.slice (some ⟨g,k*8,none⟩) (xs.drop k).length (cap - k)),(5,.int .i64 (k2:Int))]) (by kernel_rfl)
  refine hK2 _ _ ?_;clear hK2 K2
  refine wp_region_lit ?_
  refine sd ha 3 [] [(3,.int .i64 (IntKind.i64.wrap ((m:Int)+1)))] fun a ha=>?_
  have em1:IntKind.i64.wrap ((m:Int)+1)=((m+1:Nat):Int):=by rw [IntKind.wrap_i64];omega
  rw [em1] at ha
  refine JE _ _ (m+1) (cur.set m (cur.getD (k+k2) [])) (ha.sel (by kernel_rfl)) (by omega) (by rw [List.length_set];exact hcl) ?_ ?_ hb5 hC
  · rw [ddT_succ,if_pos (by rw [hkr,h6]),← htk,← g1,List.take_add_one,List.take_set_of_le (Nat.le_refl _),List.getElem?_set_self (by omega)];rfl
  · rw [List.drop_set_of_lt (by omega)]
    have e9:=congrArg (List.drop 1) hdp
    rwa [List.drop_drop,List.drop_drop] at e9
set_option maxRecDepth 100000 in
theorem sclone_walk (w:World) (M:List Nat) (hM:MS M w) (a0:List (List Int)) (ao1:Option Addr) (cap1:Nat) (f1:RSl (rArr .u8 8) 27 w M ao1 cap1 a0) (hb:a0.length*8≤140737488355328) :
    To Tryz.prog 46 [.slice ao1 a0.length cap1] w fun v w'=>∃ (ao2:Option Addr) (cap2:Nat),v=.slice ao2 a0.length cap2∧(Own (rArr .u8 8) 27 w' (blkL ao2++M) ao2 cap2 a0)∧(∀ x∈blkL ao2,w.heap.size≤x)∧Chg [] w w'∧MS (blkL ao2++M) w':=by
  refine ent Tryz.func46 rfl [(0,.slice ao1 a0.length cap1)] rfl rfl fun a ha=>?_
  refine wp_seq_k fun K hK=>?_
  refine wp_region_lit ?_
  refine sd ha 1 [] [] fun a ha=>?_
  refine hK _ _ ?_;clear hK K
  refine wp_seq_k fun K hK=>?_
  refine wsr fun K2 hK2=>?_
  refine sd ha 2 [] [(4,.bool ao1.isNone)] fun a ha=>?_
  refine hK2 _ _ ?_;clear hK2 K2
  refine cnd ha rfl (fun hc=>?_) (fun hc=>?_)
  · refine wsr fun K2 hK2=>?_
    refine sf ha 1 [(2,.slice none 0 0)] fun a ha=>?_
    refine hK2 _ _ ?_;clear hK2 K2
    refine wp_ret ?_
    have hx:a0=[]:=by
      rcases f1 with ⟨_,_,h | ⟨g,o,cur,fr,e,_⟩⟩
      · exact h
      · subst e;simp at hc
    simp only [Exit.then]
    refine rt1 ha rfl rfl ?_
    exact ⟨none,0,by rw [hx];rfl,by rw [hx];exact Own.nil,(fun _ h=>nomatch h),Chg.refl _ _,hM⟩
  · refine wp_skip ?_
    refine hK _ _ ?_;clear hK K
    refine wp_seq_k fun K hK=>?_
    refine wp_region_lit ?_
    refine bsl (vals:=[]) (T:=27) ha rfl [] (fun w=>by kernel_rfl) rfl rfl rfl fun a w1 g hN ha=>?_
    refine sd ha 1 [4] [(5,.slice (some ⟨g,0,none⟩) 0 0),(6,.slice ao1 a0.length cap1)] fun a ha=>?_
    have hO:Own (rArr .u8 8) 27 w1 ([g]++M) (some ⟨g,0,none⟩) 0 []:=hN.own rfl (Nat.zero_le _)
    have h1:RSl (rArr .u8 8) 27 w1 ([g]++M) ao1 cap1 a0:=f1.chg hN.chg (Ok.nil _ _) (Ok.app (hN.ok _) (Ok.refl _ _))
    refine app (r:=rArr .u8 8) (xs:=[]) ha (ElemT.mk' (bytes:=8) (by kernel_rfl)) rfl rfl rfl rfl rfl hO h1.src (by simpa using hb) (by decide) fun a w2 ao2 cap2 hO2 hc2 hok hlt ha=>?_
    refine sf ha 1 [(2,.slice ao2 ([]++a0).length cap2)] fun a ha=>?_
    refine hK _ _ ?_;clear hK K
    refine wp_ret ?_
    refine rt1 ha rfl rfl ⟨ao2,cap2,rfl,?_,?_,?_,?_⟩
    · exact hO2.chg (Chg.refl [] _) (Ok.nil _ _) (Ok.app (fun g hg=>.inl (ml hg)) (fun g hg=>.inl (mr (mr hg)))) (fun _ _ hh=>nomatch hh) (fun g hg=>ml hg)
    · intro x hx
      rcases hok x hx with h | h
      · simp [blkL] at h;subst h;exact hN.ge
      · exact Nat.le_trans hN.chg.size h
    · exact hN.chg.trans hc2 (Ok.one (.inr hN.ge))
    · exact MS.app hlt ((hM.chg hN.chg).chg hc2)
theorem ms8_len (l:List (List Int)):(l.mergeSort le8).length=l.length:=List.length_mergeSort l
theorem setE_len (l:List (List Int)):(setE l).length≤l.length:=ddT_len _ _
theorem setE_nil:setE []=[]:=rfl
set_option maxRecDepth 100000 in
theorem community_Set.walk (w:World) (M:List Nat) (hM:MS M w) (a0:List (List Int)) (ao1:Option Addr) (cap1:Nat) (f1:RSl (rArr .u8 8) 27 w M ao1 cap1 a0) (r:List (List Int)) (H:community_Set.f a0=some r) :
    To Tryz.prog 15 [.slice ao1 a0.length cap1] w fun v w'=>∃ (ao2:Option Addr) (cap2:Nat),v=.slice ao2 r.length cap2∧(Own (rArr .u8 8) 27 w' (blkL ao2++M) ao2 cap2 r)∧(∀ x∈blkL ao2,w.heap.size≤x)∧Chg [] w w'∧MS (blkL ao2++M) w':=by
  unfold community_Set.f at H;obtain ⟨⟨hb,hv⟩,H⟩:=ite_some H;obtain rfl:=oj H;refine ent Tryz.func15 rfl [(0,.slice ao1 a0.length cap1)] rfl rfl fun a ha=>?_;refine wp_seq_k fun K hK=>?_;refine wp_region_lit ?_;refine sd ha 1 [] [] fun a ha=>?_;refine hK _ _ ?_;clear hK K;refine wp_seq_k fun K hK=>?_;refine wp_region_lit ?_;refine sf ha 1 [(4,.slice ao1 a0.length cap1)] fun a ha=>?_;refine cL ha (sclone_walk w M hM a0 ao1 cap1 f1 hb) ?_;rintro _ w1 ⟨ao2,cap2,rfl,hO,hge,hC,hM1⟩ a ha;refine sf ha 1 [(3,.slice ao2 a0.length cap2)] fun a ha=>?_;refine hK _ _ ?_;clear hK K;refine wp_seq_k fun K hK=>?_;refine wp_region_lit ?_;refine sd ha 1 [] [(6,.slice ao2 a0.length cap2)] fun a ha=>?_;by_cases h0:a0=[]
  · subst h0;have hN:To Tryz.prog 47 [.slice ao2 ([]:List (List Int)).length cap2,.func (.func 48) #[] #[]] w1 fun v w'=>v=.tuple #[]∧w'=w1:=by
      refine Calls.mono (Tryz.slices_SortFunc_none ao2 cap2 (.func (.func 48) #[] #[]) w1) ?_;rintro e w' ⟨rfl,rfl⟩;exact ⟨_,rfl,rfl,rfl⟩
    refine cl ha (by rfl) (by kernel_rfl) (by rfl) (by rfl) (by rfl) hN ?_;rintro _ w2 ⟨rfl,rfl⟩ a ha;refine wpl_end ?_;have ha:=ha.sel (env':=[(3,.slice ao2 ([]:List (List Int)).length cap2)]) (by kernel_rfl);refine hK _ _ ?_;clear hK K;have hK0:To Tryz.prog 50 [.slice ao2 ([]:List (List Int)).length cap2] w2 fun v w'=>v=.slice ao2 ([]:List (List Int)).length cap2∧w'=w2:=by
      refine ent Tryz.func50 rfl [(0,.slice ao2 ([]:List (List Int)).length cap2)] rfl (by rfl) fun a ha=>?_;refine wp_seq_k fun K hK=>?_;refine wp_region_lit ?_;refine sd ha 1 [] [] fun a ha=>?_;refine hK _ _ ?_;clear hK K;refine wp_seq_k fun K hK=>?_;refine wsr fun K2 hK2=>?_;refine sd ha 3 [] [(8,.bool true)] fun a ha=>?_;refine hK2 _ _ ?_;clear hK2 K2;refine cnd ha rfl (fun h2=>?_) (fun h2=>nomatch h2);refine wsr fun K2 hK2=>?_;refine sf ha 2 [(2,.slice ao2 ([]:List (List Int)).length cap2)] fun a ha=>?_;refine hK2 _ _ ?_;clear hK2 K2;refine wp_ret ?_;simp only [Exit.then,Exit.inBlock];exact rt1 ha rfl rfl ⟨rfl,rfl⟩
    refine wp_seq_k fun K hK=>?_;refine wp_region_lit ?_;refine sf ha 1 [(8,.slice ao2 ([]:List (List Int)).length cap2)] fun a ha=>?_;refine cl ha (by rfl) (by kernel_rfl) (by rfl) (by rfl) (by rfl) hK0 ?_;rintro _ w3 ⟨rfl,rfl⟩ a ha;refine sf ha 1 [(2,.slice ao2 ([]:List (List Int)).length cap2)] fun a ha=>?_;refine hK _ _ ?_;clear hK K;refine wp_ret ?_;exact rt1 ha rfl rfl ⟨ao2,cap2,rfl,hO,hge,hC,hM1⟩
  obtain ⟨g,rfl⟩:∃ g,ao2=some ⟨g,0,none⟩:=by
    rcases hO with ⟨_,e,_⟩ | ⟨g,cur,e,_⟩
    · exact absurd e h0
    · exact ⟨g,e⟩
  refine cL ha (sort_own w1 _ g cap2 a0 hv (by omega) hO) ?_;rintro _ w2 ⟨rfl,hO2,hC2⟩ a ha;refine wpl_end ?_;have hgM:g∉M:=fun h=>absurd (hM g h) (Nat.not_lt.2 (hge g (by simp [blkL])));obtain ⟨⟨tail,hB,hBl⟩,hn,hc⟩:=fb_own hO2;have ha:Has a Tryz.f15.ntmps [(3,.slice (some ⟨g,0,none⟩) (a0.mergeSort le8).length cap2)]:=by rw [ms8_len];exact ha.sel (by kernel_rfl)
  refine hK _ _ ?_;clear hK K;refine wp_seq_k fun K hK=>?_;refine wp_region_lit ?_;refine sf ha 1 [(8,.slice (some ⟨g,0,none⟩) (a0.mergeSort le8).length cap2)] fun a ha=>?_;refine cL ha (compact_walk w2 g cap2 (a0.mergeSort le8) tail hB hn hc) ?_;rintro _ w3 ⟨tail',rfl,hB3,hl3,hC3⟩ a ha;rw [ms8_len] at hB3 hn ha hl3;refine sf ha 1 [(2,.slice (some ⟨g,0,none⟩) (setE a0).length cap2)] fun a ha=>?_;refine hK _ _ ?_;clear hK K;refine wp_ret ?_;have hle:=setE_len a0;have hC':Chg [] w w3:=(hC.trans hC2 (Ok.one (.inr (hge g (by simp [blkL]))))).trans hC3 (Ok.one (.inr (hge g (by simp [blkL]))));exact rt1 ha rfl rfl ⟨some ⟨g,0,none⟩,cap2,rfl,own_fb hB3 (hl3.trans hBl) (by show (setE a0).length≤cap2;omega) hc (by simp [blkL]),hge,hC',MS.app (fun x hx=>by simp [blkL] at hx;subst hx;exact lt_size hB3) (hM.chg hC')⟩
end

def community_Kind.f (a0:List Int):Option (Int):=((if ((ar a0 1)==(2:Int))=true then some (decide ((ar a0 0)≤(2:Int)):Bool) else some (false:Bool))).bind fun s9=>(if s9=true then some (((1:Int):Int)) else ((if ((ar a0 1)==(11:Int))=true then some ((ar a0 0)==(1:Int):Bool) else some (false:Bool))).bind fun s13=>(if s13=true then some (((2:Int):Int)) else ((if ((ar a0 1)==(9:Int))=true then (if ((ar a0 0)==(2:Int))=true then some ((IntKind.u8.wrap (BitVec.ofInt IntKind.u8.bits (ar a0 6) ||| BitVec.ofInt IntKind.u8.bits (ar a0 7)).toNat)==(0:Int):Bool) else some (false:Bool)) else some (false:Bool))).bind fun s17=>(if s17=true then some (((3:Int):Int)) else some (((0:Int):Int)))))
set_option maxRecDepth 100000 in
theorem community_Kind.walk (w:World) (M:List Nat) (hM:MS M w) (a0:List Int) (r:Int) (H:community_Kind.f a0=some r) :
    To Tryz.prog 33 [.agg (cA .u8 8 a0).toArray] w fun v w'=>v=.int .i64 r∧Chg [] w w'∧MS (M) w':=by
 unfold community_Kind.f at H;refine ent Tryz.func33 rfl [(0,.agg (cA .u8 8 a0).toArray)] rfl (by rfl) fun a ha=>?_;have hC:Chg [] w w:=Chg.refl _ _;refine wsr fun K1 hK1=>?_;refine bx (cs:=(cA .u8 8 a0)) ha rfl rfl rfl rfl rfl fun a w2 g3 hN4 ha=>?_;have hn6:=hN4.notin hM;have hM:=hM.chg hN4.chg;have hC:=hC.t0 hN4.chg;have hE5:Cs w2 g3 0 (cA .u8 8 a0):=Box.cells (New.box hN4);refine sf ha 1 [(1,pt g3 0)] fun a ha=>?_;refine hK1 _ _ ?_;refine wp_seq_k fun K7 hK7=>?_;refine wp_block ?_;refine wsr fun K8 hK8=>?_;obtain ⟨s9,H9,H⟩:=bind_some H;have J9:∀ (a:Act) (w9:World),Has a Tryz.f33.ntmps [(1,pt g3 0),(3,.bool s9)]→(Cs w9 g3 0 (cA .u8 8 a0))→(g3∉(M))→(Chg [] w w9)→(MS (M) w9)→K8 a w9:=by
  intro a w9 ha hE5 hn6 hC hM;refine hK8 _ _ ?_;refine cnH H ha (fun hc10 H=>?_) (fun hc10 H=>?_)
  ·refine sq ha 1 [(2,.int .i64 1)] fun a ha=>?_;refine wrt ?_;obtain rfl:=oj H;refine rt1 ha rfl rfl ?_;exact ⟨rfl,hC,hM⟩
  ·refine wsr fun K12 hK12=>?_;obtain ⟨s13,H13,H⟩:=bind_some H;have J13:∀ (a:Act) (w13:World),Has a Tryz.f33.ntmps [(1,pt g3 0),(12,.bool s13)]→(Cs w13 g3 0 (cA .u8 8 a0))→(g3∉(M))→(Chg [] w w13)→(MS (M) w13)→K12 a w13:=by
    intro a w13 ha hE5 hn6 hC hM;refine hK12 _ _ ?_;refine cnH H ha (fun hc14 H=>?_) (fun hc14 H=>?_)
    ·refine sq ha 1 [(2,.int .i64 2)] fun a ha=>?_;refine wrt ?_;obtain rfl:=oj H;refine rt1 ha rfl rfl ?_;exact ⟨rfl,hC,hM⟩
    ·refine wsr fun K16 hK16=>?_;obtain ⟨s17,H17,H⟩:=bind_some H;have J17:∀ (a:Act) (w17:World),Has a Tryz.f33.ntmps [(21,.bool s17)]→(Chg [] w w17)→(MS (M) w17)→K16 a w17:=by
      intro a w17 ha hC hM;refine hK16 _ _ ?_;refine cnH H ha (fun hc18 H=>?_) (fun hc18 H=>?_)
      ·refine sq ha 1 [(2,.int .i64 3)] fun a ha=>?_;refine wrt ?_;obtain rfl:=oj H;refine rt1 ha rfl rfl ?_;exact ⟨rfl,hC,hM⟩
      ·refine wp_skip ?_;refine hK7 _ _ ?_;refine sq ha 1 [(2,.int .i64 0)] fun a ha=>?_;refine wrt ?_;obtain rfl:=oj H;refine rt1 ha rfl rfl ?_;exact ⟨rfl,hC,hM⟩
     have H:=H17;have hE21:Cs w13 g3 (0+0+1) ([.int .u8 (ar a0 1)]:List Value):=cellA (m:=8) [] [] hE5 (by kernel_rfl) (by decide);refine iA 5 8 g3 0 .i64 ((1:Int)) (by decide) (by decide) ha fun a ha=>?_;refine ld ha rfl (by kernel_rfl) rfl rfl rfl (hE21 0 (.int .u8 (ar a0 1)) (by kernel_rfl)) fun a ha=>?_;refine sd ha 2 [12] [(25,.bool ((ar a0 1)==(9:Int)))] fun a ha=>?_;rcases Bool.eq_false_or_eq_true ((ar a0 1)==(9:Int)) with hb22 | hb22
     ·have ha:=ha.lit hb22;have H:=ite_t hb22 H;have hE23:Cs w13 g3 (0+0+0) ([.int .u8 (ar a0 0)]:List Value):=cellA (m:=8) [] [] hE5 (by kernel_rfl) (by decide);refine iA 5 8 g3 0 .i64 ((0:Int)) (by decide) (by decide) ha fun a ha=>?_;refine ld ha rfl (by kernel_rfl) rfl rfl rfl (hE23 0 (.int .u8 (ar a0 0)) (by kernel_rfl)) fun a ha=>?_;refine sgd ha 3 [2,3,0] [25] [(30,.bool ((ar a0 0)==(2:Int)))] fun a ha=>?_;rcases Bool.eq_false_or_eq_true ((ar a0 0)==(2:Int)) with hb24 | hb24
      ·have ha:=ha.lit hb24;have H:=ite_t hb24 H;have hE25:Cs w13 g3 (0+0+6) ([.int .u8 (ar a0 6)]:List Value):=cellA (m:=8) [] [] hE5 (by kernel_rfl) (by decide);refine iA 5 8 g3 0 .i64 ((6:Int)) (by decide) (by decide) ha fun a ha=>?_;refine ld ha rfl (by kernel_rfl) rfl rfl rfl (hE25 0 (.int .u8 (ar a0 6)) (by kernel_rfl)) fun a ha=>?_;have hE26:Cs w13 g3 (0+0+7) ([.int .u8 (ar a0 7)]:List Value):=cellA (m:=8) [] [] hE5 (by kernel_rfl) (by decide);refine iA 5 8 g3 0 .i64 ((7:Int)) (by decide) (by decide) ha fun a ha=>?_;refine ld ha rfl (by kernel_rfl) rfl rfl rfl (hE26 0 (.int .u8 (ar a0 7)) (by kernel_rfl)) fun a ha=>?_;refine sgf ha 4 [2,2,3,0] [(21,.bool ((IntKind.u8.wrap (BitVec.ofInt IntKind.u8.bits (ar a0 6) ||| BitVec.ofInt IntKind.u8.bits (ar a0 7)).toNat)==(0:Int)))] fun a ha=>?_;obtain rfl:=oj H;exact J17 _ _ (ha.sel (by kernel_rfl)) hC hM
      ·have ha:=ha.lit hb24;have H:=ite_f hb24 H;refine sgf ha 8 [1,1,1,1,1,1,4,0] [(21,.bool false)] fun a ha=>?_;obtain rfl:=oj H;exact J17 _ _ (ha.sel (by kernel_rfl)) hC hM
     ·have ha:=ha.lit hb22;have H:=ite_f hb22 H;refine sgf ha 13 [1,1,1,4,0,1,1,1,1,1,1,4,0] [(21,.bool false)] fun a ha=>?_;obtain rfl:=oj H;exact J17 _ _ (ha.sel (by kernel_rfl)) hC hM
   have H:=H13;have hE27:Cs w9 g3 (0+0+1) ([.int .u8 (ar a0 1)]:List Value):=cellA (m:=8) [] [] hE5 (by kernel_rfl) (by decide);refine iA 5 8 g3 0 .i64 ((1:Int)) (by decide) (by decide) ha fun a ha=>?_;refine ld ha rfl (by kernel_rfl) rfl rfl rfl (hE27 0 (.int .u8 (ar a0 1)) (by kernel_rfl)) fun a ha=>?_;refine sd ha 2 [3] [(16,.bool ((ar a0 1)==(11:Int)))] fun a ha=>?_;rcases Bool.eq_false_or_eq_true ((ar a0 1)==(11:Int)) with hb28 | hb28
   ·have ha:=ha.lit hb28;have H:=ite_t hb28 H;have hE29:Cs w9 g3 (0+0+0) ([.int .u8 (ar a0 0)]:List Value):=cellA (m:=8) [] [] hE5 (by kernel_rfl) (by decide);refine iA 5 8 g3 0 .i64 ((0:Int)) (by decide) (by decide) ha fun a ha=>?_;refine ld ha rfl (by kernel_rfl) rfl rfl rfl (hE29 0 (.int .u8 (ar a0 0)) (by kernel_rfl)) fun a ha=>?_;refine sgd ha 3 [2,3,0] [16] [(12,.bool ((ar a0 0)==(1:Int)))] fun a ha=>?_;obtain rfl:=oj H;exact J13 _ _ (ha.sel (by kernel_rfl)) hE5 hn6 hC hM
   ·have ha:=ha.lit hb28;have H:=ite_f hb28 H;refine sgd ha 5 [1,1,1,4,0] [16] [(12,.bool false)] fun a ha=>?_;obtain rfl:=oj H;exact J13 _ _ (ha.sel (by kernel_rfl)) hE5 hn6 hC hM
 have H:=H9;have hE30:Cs w2 g3 (0+0+1) ([.int .u8 (ar a0 1)]:List Value):=cellA (m:=8) [] [] hE5 (by kernel_rfl) (by decide);refine iA 5 8 g3 0 .i64 ((1:Int)) (by decide) (by decide) ha fun a ha=>?_;refine ld ha rfl (by kernel_rfl) rfl rfl rfl (hE30 0 (.int .u8 (ar a0 1)) (by kernel_rfl)) fun a ha=>?_;refine sd ha 2 [] [(7,.bool ((ar a0 1)==(2:Int)))] fun a ha=>?_;rcases Bool.eq_false_or_eq_true ((ar a0 1)==(2:Int)) with hb31 | hb31
 ·have ha:=ha.lit hb31;have H:=ite_t hb31 H;have hE32:Cs w2 g3 (0+0+0) ([.int .u8 (ar a0 0)]:List Value):=cellA (m:=8) [] [] hE5 (by kernel_rfl) (by decide);refine iA 5 8 g3 0 .i64 ((0:Int)) (by decide) (by decide) ha fun a ha=>?_;refine ld ha rfl (by kernel_rfl) rfl rfl rfl (hE32 0 (.int .u8 (ar a0 0)) (by kernel_rfl)) fun a ha=>?_;refine sgd ha 3 [2,3,0] [7] [(3,.bool (decide ((ar a0 0)≤(2:Int))))] fun a ha=>?_;obtain rfl:=oj H;exact J9 _ _ (ha.sel (by kernel_rfl)) hE5 hn6 hC hM
 ·have ha:=ha.lit hb31;have H:=ite_f hb31 H;refine sgd ha 5 [1,1,1,4,0] [7] [(3,.bool false)] fun a ha=>?_;obtain rfl:=oj H;exact J9 _ _ (ha.sel (by kernel_rfl)) hE5 hn6 hC hM
def cursor_Open.f (a0:List Int):Option (S_cursor_Reader):=(bytes_Clone.f a0).bind fun t4=>some (((⟨(⟨t4,false⟩:S_cursor_rest)⟩:S_cursor_Reader):S_cursor_Reader))
set_option maxRecDepth 100000 in
theorem cursor_Open.walk (w:World) (M:List Nat) (hM:MS M w) (a0:List Int) (ao1:Option Addr) (cap1:Nat) (f1:RSl (rInt .u8) 5 w M ao1 cap1 a0) (r:S_cursor_Reader) (H:cursor_Open.f a0=some r) :
    To Tryz.prog 54 [.slice ao1 a0.length cap1] w fun v w'=>∃ (g10:Nat) (ao12:Option Addr) (cap12:Nat),v=.pointer (some ⟨g10,0,none⟩)∧(RSl (rInt .u8) 5 w' ([g10]++(M)) ao12 cap12 r.rest.left)∧(Box w' g10 (cS_cursor_Reader r ao12 cap12))∧(∀ x∈[g10],w.heap.size≤x)∧Chg [] w w'∧MS ([g10]++(M)) w':=by
 unfold cursor_Open.f at H;refine ent Tryz.func54 rfl [(0,.slice ao1 a0.length cap1)] rfl (by rfl) fun a ha=>?_;have hC:Chg [] w w:=Chg.refl _ _;refine sqd ha 1 [] [] fun a ha=>?_;refine wsr fun K3 hK3=>?_;refine sf ha 1 [(3,.slice ao1 a0.length cap1)] fun a ha=>?_;obtain ⟨t4,H4,H⟩:=bind_some H;refine cL ha (bytes_Clone.walk w _ hM a0 ao1 cap1 f1 _ H4) ?_;rintro _ w4 ⟨ao5,cap5,rfl,f5,ne_i5,hc4,hMn⟩ a ha;have p_i5_M:=pn (B:=M) hM ne_i5 fun _ hy=>hy;have hM:MS (blkL ao5++(M)) w4:=(MS.app (fun x h=>hMn x (ml h)) (hM.chg hc4))
 have hC:=hC.t0 hc4;refine oP (.agg (cS_cursor_rest (⟨t4,false⟩:S_cursor_rest) ao5 cap5).toArray) ha fun a ha=>?_;refine oP (.agg (cS_cursor_Reader (⟨(⟨t4,false⟩:S_cursor_rest)⟩:S_cursor_Reader) ao5 cap5).toArray) ha fun a ha=>?_;have fz:=f5.toRSl (M':=M) (fun _ h=>.inl (mr (h))) (fun x hx hm=>p_i5_M x hx hm);have hM:MS M w4:=hM.sb fun _ h=>mr (h);have f5:=fz;refine bx (cs:=(cS_cursor_Reader (⟨(⟨t4,false⟩:S_cursor_rest)⟩:S_cursor_Reader) ao5 cap5)) ha rfl rfl rfl rfl rfl fun a w6 g7 hN8 ha=>?_;have o1:=oN M w4;have o2:=oA hN8 M;have f5:=f5.chg hN8.chg o1 o2;have e_i9:=eN hC (hN8.ge1);have hM:=MS.app hN8.ms (hM.chg hN8.chg);have hC:=hC.t0 hN8.chg;have hBg7:=hN8.box;refine sf ha 1 [(2,pt g7 0)] fun a ha=>?_;refine hK3 _ _ ?_;refine wrt ?_;obtain rfl:=oj H;refine rt1 ha rfl rfl ?_;exact ⟨g7,ao5,cap5,rfl,f5,hBg7,e_i9,hC,hM⟩
def cursor_rest_next.f (a0:S_cursor_rest) (a1:Int):Option (List Int×S_cursor_rest):=((if a0.bad=true then some (true:Bool) else (if (decide (a1 < (0:Int)))=true then some (true:Bool) else some (decide (a1 > (a0.left.length:Int)):Bool)))).bind fun s5=>(if s5=true then some ((([]:List Int):List Int),((⟨a0.left,true⟩:S_cursor_rest):S_cursor_rest)) else (if 0≤(0:Int)∧(0:Int)≤a1∧a1≤(a0.left.length:Int) then (if 0≤a1∧a1≤(a0.left.length:Int)∧(a0.left.length:Int)≤(a0.left.length:Int) then some ((((a0.left.take (Int.toNat a1)).drop (Int.toNat (0:Int))):List Int),((⟨((a0.left.take (Int.toNat (a0.left.length:Int))).drop (Int.toNat a1)),a0.bad⟩:S_cursor_rest):S_cursor_rest)) else none) else none))
set_option maxRecDepth 100000 in
theorem cursor_rest_next.walk (w:World) (M:List Nat) (hM:MS M w) (gp0:Nat) (a0:S_cursor_rest) (ao1:Option Addr) (cap1:Nat) (f1:RSl (rInt .u8) 5 w M ao1 cap1 a0.left) (hBgp0:Box w gp0 (cS_cursor_rest a0 ao1 cap1)) (hg_gp0:gp0∈M) (a1:Int) (r:List Int×S_cursor_rest) (H:cursor_rest_next.f a0 a1=some r) :
    To Tryz.prog 86 [.pointer (some ⟨gp0,0,none⟩),.int .i64 a1] w fun v w'=>∃ (ao22:Option Addr) (cap22:Nat) (ao23:Option Addr) (cap23:Nat),v=.slice ao22 r.1.length cap22∧(RSl (rInt .u8) 5 w' (M) ao22 cap22 r.1)∧(RSl (rInt .u8) 5 w' (M) ao23 cap23 r.2.left)∧(Box w' gp0 (cS_cursor_rest r.2 ao23 cap23))∧Chg [gp0] w w'∧MS (M) w':=by
 unfold cursor_rest_next.f at H;refine ent Tryz.func86 rfl [(0,.pointer (some ⟨gp0,0,none⟩)),(1,.int .i64 a1)] rfl (by rfl) fun a ha=>?_;have hC:Chg [gp0] w w:=Chg.refl _ _;refine sqd ha 1 [] [] fun a ha=>?_;refine wp_seq_k fun K3 hK3=>?_;refine wsr fun K4 hK4=>?_;obtain ⟨s5,H5,H⟩:=bind_some H;have J5:∀ (a:Act) (w5:World),Has a Tryz.f86.ntmps [(0,pt gp0 0),(1,.int .i64 a1),(22,.bool s5)]→(RSl (rInt .u8) 5 w5 (M) ao1 cap1 a0.left)→(Box w5 gp0 (cS_cursor_rest a0 ao1 cap1))→(Chg [gp0] w w5)→(MS (M) w5)→K4 a w5:=by
  intro a w5 ha f1 hBgp0 hC hM;refine hK4 _ _ ?_;refine cnH H ha (fun hc6 H=>?_) (fun hc6 H=>?_)
  ·refine wsr fun K7 hK7=>?_;refine sf ha 3 [(25,pt gp0 1)] fun a ha=>?_;refine st ha rfl rfl rfl (by kernel_rfl) rfl rfl hBgp0 (Nat.le_of_ble_eq_true (by kernel_rfl)) fun a w8 ha hb2 hc9 _=>?_;have o1:Ok [gp0] (M) w5.heap.size:=Ok.one (.inl (hg_gp0));have o2:=oR M w5;have f1:=f1.chg hc9 o1 o2;have hM:=hM.chg hc9;have hC:=hC.trans hc9 (Ok.one (.inl (by simp)));have hBgp0:Box w8 gp0 (cS_cursor_rest (⟨a0.left,true⟩:S_cursor_rest) ao1 cap1):=hb2;refine hK7 _ _ ?_;refine sq ha 1 [(4,.slice none 0 0)] fun a ha=>?_;refine wrt ?_;obtain rfl:=oj H;refine rt1 ha rfl rfl ?_;exact ⟨none,0,ao1,cap1,rfl,(RSl.nil (Nat.zero_le _)),f1,hBgp0,hC,hM⟩
  ·refine wp_skip ?_;refine hK3 _ _ ?_;refine wsr fun K11 hK11=>?_;refine sd ha 3 [22] [(28,pt gp0 0)] fun a ha=>?_;refine ld (v:=.slice ao1 a0.left.length cap1) ha rfl (by kernel_rfl) rfl rfl rfl (hBgp0.cell' (o:=0) rfl (by kernel_rfl)) fun a ha=>?_;refine sd ha 1 [28] [(29,.slice ao1 a0.left.length cap1),(30,.int .i64 a1)] fun a ha=>?_;obtain ⟨⟨hx12,hx12',hx12''⟩,H⟩:=ite_some H;refine slc (r:=(rInt .u8)) (l:=(0:Int)) (h:=a1) ha (by kernel_rfl) (by kernel_rfl) rfl rfl rfl rfl rfl rfl f1 hx12 hx12' hx12'' fun a ao13 cap13 f13 ha=>?_;refine sd ha 1 [29,30] [(5,.slice ao13 ((a0.left.take (Int.toNat a1)).drop (Int.toNat (0:Int))).length cap13)] fun a ha=>?_;refine hK11 _ _ ?_;refine wsr fun K14 hK14=>?_;refine sd ha 4 [0] [(32,pt gp0 0),(35,pt gp0 0)] fun a ha=>?_;refine ld (v:=.slice ao1 a0.left.length cap1) ha rfl (by kernel_rfl) rfl rfl rfl (hBgp0.cell' (o:=0) rfl (by kernel_rfl)) fun a ha=>?_;refine sd ha 1 [1,35] [(36,.slice ao1 a0.left.length cap1),(37,.int .i64 a1)] fun a ha=>?_;obtain ⟨⟨hx15,hx15',hx15''⟩,H⟩:=ite_some H;refine slc (r:=(rInt .u8)) (l:=a1) (h:=(a0.left.length:Int)) ha (by kernel_rfl) (by kernel_rfl) rfl rfl rfl rfl rfl rfl f1 hx15 hx15' hx15'' fun a ao16 cap16 f16 ha=>?_;refine sd ha 2 [32,36,37] [(38,.slice ao16 ((a0.left.take (Int.toNat (a0.left.length:Int))).drop (Int.toNat a1)).length cap16),(40,pt gp0 0)] fun a ha=>?_;refine st ha rfl rfl rfl (by kernel_rfl) rfl rfl hBgp0 (Nat.le_of_ble_eq_true (by kernel_rfl)) fun a w17 ha hb2 hc18 _=>?_;have o1:Ok [gp0] (M) w5.heap.size:=Ok.one (.inl (hg_gp0));have o2:=oR M w5;have f13:=f13.chg hc18 o1 o2;have f16:=f16.chg hc18 o1 o2;have hM:=hM.chg hc18;have hC:=hC.trans hc18 (Ok.one (.inl (by simp)));have hBgp0:Box w17 gp0 (cS_cursor_rest (⟨((a0.left.take (Int.toNat (a0.left.length:Int))).drop (Int.toNat a1)),a0.bad⟩:S_cursor_rest) ao16 cap16):=hb2;refine hK14 _ _ ?_;refine sq ha 2 [(4,.slice ao13 ((a0.left.take (Int.toNat a1)).drop (Int.toNat (0:Int))).length cap13)] fun a ha=>?_;refine wrt ?_;obtain rfl:=oj H;refine rt1 ha rfl rfl ?_;exact ⟨ao13,cap13,ao16,cap16,rfl,f13,f16,hBgp0,hC,hM⟩
 have H:=H5;refine sd ha 3 [] [(8,pt gp0 1)] fun a ha=>?_;refine ld (v:=.bool a0.bad) ha rfl (by kernel_rfl) rfl rfl rfl (hBgp0.cell' (o:=1) rfl (by kernel_rfl)) fun a ha=>?_;refine sd ha 1 [8] [(10,.bool a0.bad)] fun a ha=>?_;rcases Bool.eq_false_or_eq_true (a0.bad) with hb20 | hb20
 ·have ha:=ha.lit hb20;have H:=ite_t hb20 H;refine sgd ha 12 [1,1,3,0,1,1,1,1,1,1,1,3] [10] [(22,.bool true)] fun a ha=>?_;obtain rfl:=oj H;exact J5 _ _ (ha.sel (by kernel_rfl)) f1 hBgp0 hC hM
 ·have ha:=ha.lit hb20;have H:=ite_f hb20 H;refine sgd ha 4 [2,2,4,0] [10] [(14,.bool (decide (a1 < (0:Int))))] fun a ha=>?_;rcases Bool.eq_false_or_eq_true (decide (a1 < (0:Int))) with hb21 | hb21
  ·have ha:=ha.lit hb21;have H:=ite_t hb21 H;refine sgd ha 8 [1,1,1,1,1,1,1,3] [14] [(22,.bool true)] fun a ha=>?_;obtain rfl:=oj H;exact J5 _ _ (ha.sel (by kernel_rfl)) f1 hBgp0 hC hM
  ·have ha:=ha.lit hb21;have H:=ite_f hb21 H;refine sgd ha 4 [2,2,2,2] [] [(14,.bool false),(15,.int .i64 a1),(18,pt gp0 0)] fun a ha=>?_;refine ld (v:=.slice ao1 a0.left.length cap1) ha rfl (by kernel_rfl) rfl rfl rfl (hBgp0.cell' (o:=0) rfl (by kernel_rfl)) fun a ha=>?_;refine sgd ha 3 [2,2,4] [14,15,18] [(22,.bool (decide (a1 > (a0.left.length:Int))))] fun a ha=>?_;obtain rfl:=oj H;exact J5 _ _ (ha.sel (by kernel_rfl)) f1 hBgp0 hC hM
def cursor_Reader_Num.l0 (t8:List Int×S_cursor_rest):Nat→Int→Int→Option (Int)
  | 0,_,_=>none
  | kk+1,x12,x13=>(if (decide (x13 < (t8.1.length:Int)))=true then (if 0≤x13∧x13 < (t8.1.length:Int) then cursor_Reader_Num.l0 t8 kk (IntKind.i64.wrap (BitVec.ofInt IntKind.i64.bits (IntKind.i64.wrap (x12*2^(min (8:Int).toNat IntKind.i64.bits))) ||| BitVec.ofInt IntKind.i64.bits (IntKind.i64.wrap (rd t8.1 x13))).toNat) (IntKind.i64.wrap (x13+(1:Int))) else none) else some (x12:Int))
def cursor_Reader_Num.f (k:Nat) (a0:S_cursor_Reader) (a1:Int):Option (Int×S_cursor_Reader):=((if (if (decide (a1 < (1:Int)))=true then true else (decide (a1 > (4:Int))))=true then some ((-1:Int):Int) else some (a1:Int))).bind fun s4=>(cursor_rest_next.f a0.rest s4).bind fun t8=>(cursor_Reader_Num.l0 t8 k (0:Int) (0:Int)).bind fun s11=>some ((s11:Int),((⟨t8.2⟩:S_cursor_Reader):S_cursor_Reader))
set_option maxRecDepth 100000 in
theorem cursor_Reader_Num.walk (w:World) (M:List Nat) (hM:MS M w) (gp0:Nat) (a0:S_cursor_Reader) (ao1:Option Addr) (cap1:Nat) (f1:RSl (rInt .u8) 5 w M ao1 cap1 a0.rest.left) (hBgp0:Box w gp0 (cS_cursor_Reader a0 ao1 cap1)) (hg_gp0:gp0∈M) (a1:Int) (k:Nat) (r:Int×S_cursor_Reader) (H:cursor_Reader_Num.f k a0 a1=some r) :
    To Tryz.prog 59 [.pointer (some ⟨gp0,0,none⟩),.int .i64 a1] w fun v w'=>∃ (ao29:Option Addr) (cap29:Nat),v=.int .i64 r.1∧(RSl (rInt .u8) 5 w' (M) ao29 cap29 r.2.rest.left)∧(Box w' gp0 (cS_cursor_Reader r.2 ao29 cap29))∧Chg [gp0] w w'∧MS (M) w':=by
 unfold cursor_Reader_Num.f at H;refine ent Tryz.func59 rfl [(0,.pointer (some ⟨gp0,0,none⟩)),(1,.int .i64 a1)] rfl (by rfl) fun a ha=>?_;have hC:Chg [gp0] w w:=Chg.refl _ _;refine sqd ha 1 [] [] fun a ha=>?_;refine wp_seq_k fun K3 hK3=>?_;obtain ⟨s4,H4,H⟩:=bind_some H;have J4:∀ (a:Act) (w4:World),Has a Tryz.f59.ntmps [(0,pt gp0 0),(1,.int .i64 s4)]→(RSl (rInt .u8) 5 w4 (M) ao1 cap1 a0.rest.left)→(Box w4 gp0 (cS_cursor_Reader a0 ao1 cap1))→(Chg [gp0] w w4)→(MS (M) w4)→K3 a w4:=by
  intro a w4 ha f1 hBgp0 hC hM;refine hK3 _ _ ?_;refine sqd ha 1 [] [(5,.int .i64 0)] fun a ha=>?_;refine wp_seq_k fun K6 hK6=>?_;refine wsr fun K7 hK7=>?_;refine sd ha 4 [0,1] [(16,pt gp0 0),(17,.int .i64 s4)] fun a ha=>?_;obtain ⟨t8,H8,H⟩:=bind_some H;refine cL ha (cursor_rest_next.walk w4 _ hM gp0 a0.rest ao1 cap1 f1 hBgp0 (hg_gp0) s4 _ H8) ?_;rintro _ w8 ⟨ao9,cap9,ao10,cap10,rfl,f9,f10,qhBgp0,hc8,hMn⟩ a ha;have hM:=hM.chg hc8;have hC:=hC.trans hc8 (Ok.one (.inl (by simp)));have hBgp0:=qhBgp0;refine sd ha 2 [16,17] [(18,.slice ao9 t8.1.length cap9),(19,.int .i64 (t8.1.length:Int)),(20,.int .i64 0)] fun a ha=>?_;refine hK7 _ _ ?_;refine wp_block ?_;obtain ⟨s11,H11,H⟩:=bind_some H;have J11:∀ (a:Act) (wx11:World),Has a Tryz.f59.ntmps [(5,.int .i64 s11)]→(RSl (rInt .u8) 5 wx11 (M) ao10 cap10 t8.2.left)→(Box wx11 gp0 (cS_cursor_Reader (⟨t8.2⟩:S_cursor_Reader) ao10 cap10))→(Chg [gp0] w wx11)→(MS (M) wx11)→K6 a wx11:=by
   intro a wx11 ha f10 hBgp0 hC hM;refine hK6 _ _ ?_;refine sq ha 2 [(4,.int .i64 s11)] fun a ha=>?_;refine wrt ?_;obtain rfl:=oj H;refine rt1 ha rfl rfl ?_;exact ⟨ao10,cap10,rfl,f10,hBgp0,hC,hM⟩
  have Hc11:=H;have H:=H11;refine wp_loop_ghost (fun kk a w11=>∃ (x12:Int) (x13:Int),cursor_Reader_Num.l0 t8 kk x12 x13=some s11∧Has a Tryz.f59.ntmps [(5,.int .i64 x12),(18,.slice ao9 t8.1.length cap9),(19,.int .i64 (t8.1.length:Int)),(20,.int .i64 x13)]∧(RSl (rInt .u8) 5 w11 (M) ao9 cap9 t8.1)∧(RSl (rInt .u8) 5 w11 (M) ao10 cap10 t8.2.left)∧(Box w11 gp0 (cS_cursor_Reader (⟨t8.2⟩:S_cursor_Reader) ao10 cap10))∧(Chg [gp0] w w11)∧(MS (M) w11)) k ?_ ?_
  ·skip;exact ⟨(0:Int),(0:Int),H,(ha.sel (by kernel_rfl)),f9,f10,hBgp0,hC,hM⟩
  ·rintro kk a w11 ⟨x12,x13,H,ha,f9,f10,hBgp0,hC,hM⟩;obtain _ | kk:=kk
   ·exact nomatch (show none=some _ from H)
   rw [cursor_Reader_Num.l0] at H;refine sqd ha 1 [] [(21,.bool (decide (x13 < (t8.1.length:Int))))] fun a ha=>?_;refine wp_seq_k fun K16 hK16=>?_;refine cnH H ha (fun hc17 H=>?_) (fun hc17 H=>?_)
   ·refine wp_skip ?_;refine hK16 _ _ ?_;refine wp_seq_k fun K18 hK18=>?_;refine wp_block ?_;refine wsr fun K19 hK19=>?_;obtain ⟨⟨hx20,hx20'⟩,H⟩:=ite_some H;refine ix (r:=(rInt .u8)) ha (by kernel_rfl) (by kernel_rfl) rfl rfl rfl rfl rfl f9 hx20 hx20' fun a ge21 oe22 cs23 hn26 hR24 hE25 ha=>?_;rw [rd_get] at hR24;obtain rfl:=hR24;have hE25:Cs w11 ge21 oe22 ([.int .u8 (rd t8.1 x13)]:List Value):=hE25;refine ld ha rfl (by kernel_rfl) rfl rfl rfl (hE25 0 (.int .u8 (rd t8.1 x13)) (by kernel_rfl)) fun a ha=>?_;refine sd ha 1 [21] [(7,.int .u8 (rd t8.1 x13))] fun a ha=>?_;refine hK19 _ _ ?_;refine wp_region_lit ?_;refine sd ha 6 [7] [(5,.int .i64 (IntKind.i64.wrap (BitVec.ofInt IntKind.i64.bits (IntKind.i64.wrap (x12*2^(min (8:Int).toNat IntKind.i64.bits))) ||| BitVec.ofInt IntKind.i64.bits (IntKind.i64.wrap (rd t8.1 x13))).toNat))] fun a ha=>?_;refine hK18 _ _ ?_;refine wp_region_lit ?_;refine sd ha 2 [] [(20,.int .i64 (IntKind.i64.wrap (x13+(1:Int))))] fun a ha=>?_;exact ⟨kk,Nat.lt_succ_self _,⟨IntKind.i64.wrap (BitVec.ofInt IntKind.i64.bits (IntKind.i64.wrap (x12*2^(min (8:Int).toNat IntKind.i64.bits))) ||| BitVec.ofInt IntKind.i64.bits (IntKind.i64.wrap (rd t8.1 x13))).toNat,IntKind.i64.wrap (x13+(1:Int)),H,(ha.sel (by kernel_rfl)),f9,f10,hBgp0,hC,hM⟩⟩
   ·refine wx ?_;obtain rfl:=oj H;exact J11 _ _ (ha.sel (by kernel_rfl)) f10 hBgp0 hC hM
 have H:=H4;refine sqd ha 6 [] [(13,.bool (if (decide (a1 < (1:Int)))=true then true else (decide (a1 > (4:Int)))))] fun a ha=>?_;refine cnH H ha (fun hc28 H=>?_) (fun hc28 H=>?_)
 ·refine wp_region_lit ?_;refine sd ha 1 [13] [(1,.int .i64 (-1))] fun a ha=>?_;obtain rfl:=oj H;exact J4 _ _ (ha.sel (by kernel_rfl)) f1 hBgp0 hC hM
 ·refine wp_skip ?_;obtain rfl:=oj H;exact J4 _ _ (ha.sel (by kernel_rfl)) f1 hBgp0 hC hM
def cursor_rest_Left.f (a0:S_cursor_rest):Option (Int):=(if a0.bad=true then some (((0:Int):Int)) else some (((a0.left.length:Int):Int)))
set_option maxRecDepth 100000 in
theorem cursor_rest_Left.walk (w:World) (M:List Nat) (hM:MS M w) (gp0:Nat) (a0:S_cursor_rest) (ao1:Option Addr) (cap1:Nat) (f1:RSl (rInt .u8) 5 w M ao1 cap1 a0.left) (hBgp0:Box w gp0 (cS_cursor_rest a0 ao1 cap1)) (hg_gp0:gp0∈M) (r:Int) (H:cursor_rest_Left.f a0=some r) :
    To Tryz.prog 55 [.pointer (some ⟨gp0,0,none⟩)] w fun v w'=>v=.int .i64 r∧Chg [] w w'∧MS (M) w':=by
 unfold cursor_rest_Left.f at H;refine ent Tryz.func55 rfl [(0,.pointer (some ⟨gp0,0,none⟩))] rfl (by rfl) fun a ha=>?_;have hC:Chg [] w w:=Chg.refl _ _;refine sqd ha 1 [] [] fun a ha=>?_;refine wp_seq_k fun K3 hK3=>?_;refine wsr fun K4 hK4=>?_;refine sd ha 3 [] [(5,pt gp0 1)] fun a ha=>?_;refine ld (v:=.bool a0.bad) ha rfl (by kernel_rfl) rfl rfl rfl (hBgp0.cell' (o:=1) rfl (by kernel_rfl)) fun a ha=>?_;refine hK4 _ _ ?_;refine cnH H ha (fun hc5 H=>?_) (fun hc5 H=>?_)
 ·refine sq ha 1 [(2,.int .i64 0)] fun a ha=>?_;refine wrt ?_;obtain rfl:=oj H;refine rt1 ha rfl rfl ?_;exact ⟨rfl,hC,hM⟩
 ·refine wp_skip ?_;refine hK3 _ _ ?_;refine wsr fun K7 hK7=>?_;refine sf ha 3 [(9,pt gp0 0)] fun a ha=>?_;refine ld (v:=.slice ao1 a0.left.length cap1) ha rfl (by kernel_rfl) rfl rfl rfl (hBgp0.cell' (o:=0) rfl (by kernel_rfl)) fun a ha=>?_;refine sf ha 2 [(2,.int .i64 (a0.left.length:Int))] fun a ha=>?_;refine hK7 _ _ ?_;refine wrt ?_;obtain rfl:=oj H;refine rt1 ha rfl rfl ?_;exact ⟨rfl,hC,hM⟩
def rd_Parts.f (k:Nat) (a0:List Int):Option (Int×Int×Int×Bool):=(cursor_Open.f (arL 8 a0)).bind fun t9=>(cursor_Reader_Num.f k t9 (2:Int)).bind fun t14=>(rd_highSize.f t14.1).bind fun t17=>(if (!t17.2)=true then some (((0:Int):Int),((0:Int):Int),((0:Int):Int),(false:Bool)) else (cursor_Reader_Num.f k t14.2 t17.1).bind fun t23=>(cursor_rest_Left.f t23.2.rest).bind fun t26=>(cursor_Reader_Num.f k t23.2 t26).bind fun t27=>some ((t14.1:Int),(t23.1:Int),(t27.1:Int),(true:Bool)))
set_option maxRecDepth 100000 in
theorem rd_Parts.walk (w:World) (M:List Nat) (hM:MS M w) (a0:List Int) (k:Nat) (r:Int×Int×Int×Bool) (H:rd_Parts.f k a0=some r) :
    To Tryz.prog 64 [.agg (cA .u8 8 a0).toArray] w fun v w'=>v=.tuple #[.int .i64 r.1,.int .i64 r.2.1,.int .i64 r.2.2.1,.bool r.2.2.2]∧Chg [] w w'∧MS (M) w':=by
 unfold rd_Parts.f at H;refine ent Tryz.func64 rfl [(0,.agg (cA .u8 8 a0).toArray)] rfl (by rfl) fun a ha=>?_;have hC:Chg [] w w:=Chg.refl _ _;refine wsr fun K1 hK1=>?_;refine bx (cs:=(cA .u8 8 a0)) ha rfl rfl rfl rfl rfl fun a w2 g3 hN4 ha=>?_;have hn6:=hN4.notin hM;have hM:=hM.chg hN4.chg;have hC:=hC.t0 hN4.chg;have hE5:Cs w2 g3 0 (cA .u8 8 a0):=Box.cells (New.box hN4);refine sf ha 4 [(1,pt g3 0)] fun a ha=>?_;refine hK1 _ _ ?_;refine wsr fun K7 hK7=>?_;have f8:RSl (rInt .u8) 5 w2 (M) (some ⟨g3,0+0,none⟩) 8 (arL 8 a0):=RSl.ofA [] [] hE5 hn6 (by kernel_rfl) rfl;refine oP (.slice (some ⟨g3,0+0,none⟩) (arL 8 a0).length 8) ha fun a ha=>?_;obtain ⟨t9,H9,H⟩:=bind_some H;refine cL ha (cursor_Open.walk w2 _ hM (arL 8 a0) (some ⟨g3,0+0,none⟩) 8 f8 _ H9) ?_;rintro _ w9 ⟨g10,ao12,cap12,rfl,f12,hBg10,ne_i11,hc9,hMn⟩ a ha;have e_i11:=eN hC ne_i11;have hM:MS ([g10]++(M)) w9:=(MS.app (fun x h=>hMn x (ml h)) (hM.chg hc9))
 have hC:=hC.t0 hc9;refine sf ha 1 [(6,pt g10 0)] fun a ha=>?_;refine hK7 _ _ ?_;refine wsr fun K13 hK13=>?_;refine sd ha 1 [] [(10,pt g10 0)] fun a ha=>?_;obtain ⟨t14,H14,H⟩:=bind_some H;refine cL ha (cursor_Reader_Num.walk w9 _ hM g10 t9 ao12 cap12 f12 hBg10 (ml (List.mem_singleton.2 rfl)) (2:Int) k _ H14) ?_;rintro _ w14 ⟨ao15,cap15,rfl,f15,qhBg10,hc14,hMn⟩ a ha;have hM:=hM.chg hc14;have hC:=hC.t1 hc14 e_i11;have hBg10:=qhBg10;refine sd ha 1 [10] [(2,.int .i64 t14.1)] fun a ha=>?_;refine hK13 _ _ ?_;refine wsr fun K16 hK16=>?_;refine sd ha 1 [] [(13,.int .i64 t14.1)] fun a ha=>?_;obtain ⟨t17,H17,H⟩:=bind_some H;refine cL ha (rd_highSize.walk w14 _ hM t14.1 _ H17) ?_;rintro _ w17 ⟨rfl,hc17,hMn⟩ a ha;have o1:=oN ([g10]++(M)) w14;have o2:=oR ([g10]++(M)) w14;have f15:=f15.chg hc17 o1 o2;have hBg10:=hBg10.c0 hc17;have hM:=hM.chg hc17;have hC:=hC.t0 hc17;refine sd ha 5 [13] [(5,.bool t17.2),(7,.int .i64 t17.1)] fun a ha=>?_;refine hK16 _ _ ?_;refine wp_seq_k fun K18 hK18=>?_;refine sqd ha 2 [5] [(18,.bool (!t17.2))] fun a ha=>?_;refine cnH H ha (fun hc20 H=>?_) (fun hc20 H=>?_)
 ·refine sq ha 4 [(2,.int .i64 0),(3,.int .i64 0),(4,.int .i64 0),(5,.bool false)] fun a ha=>?_;refine wrt ?_;have o1:=oN ([g10]++(M)) w17;have o2:Ok (M) ([g10]++(M)) w17.heap.size:=(fun _ h=>.inl (mr (h)))
  have f15:=f15.chg (Chg.refl [] _) o1 o2;have hM:MS M w17:=hM.sb fun _ h=>mr (h);obtain rfl:=oj H;refine rt4 ha rfl rfl rfl rfl rfl ?_;exact ⟨rfl,hC,hM⟩
 ·refine wp_skip ?_;refine hK18 _ _ ?_;refine wsr fun K22 hK22=>?_;refine sd ha 2 [7,18] [(19,pt g10 0),(20,.int .i64 t17.1)] fun a ha=>?_;obtain ⟨t23,H23,H⟩:=bind_some H;refine cL ha (cursor_Reader_Num.walk w17 _ hM g10 t14.2 ao15 cap15 f15 hBg10 (ml (List.mem_singleton.2 rfl)) t17.1 k _ H23) ?_;rintro _ w23 ⟨ao24,cap24,rfl,f24,qhBg10,hc23,hMn⟩ a ha;have hM:=hM.chg hc23;have hC:=hC.t1 hc23 e_i11;have hBg10:=qhBg10;refine sd ha 1 [19,20] [(3,.int .i64 t23.1)] fun a ha=>?_;refine hK22 _ _ ?_;refine wsr fun K25 hK25=>?_;refine sf ha 6 [(22,.int .i64 t14.1),(23,.int .i64 t23.1),(24,pt g10 0),(27,pt g10 0)] fun a ha=>?_;obtain ⟨t26,H26,H⟩:=bind_some H;refine cL ha (cursor_rest_Left.walk w23 _ hM g10 t23.2.rest ao24 cap24 f24 hBg10 (ml (List.mem_singleton.2 rfl)) _ H26) ?_;rintro _ w26 ⟨rfl,hc26,hMn⟩ a ha;have o1:=oN ([g10]++(M)) w23;have o2:=oR ([g10]++(M)) w23;have f24:=f24.chg hc26 o1 o2;have hBg10:=hBg10.c0 hc26;have hM:=hM.chg hc26;have hC:=hC.t0 hc26;obtain ⟨t27,H27,H⟩:=bind_some H;refine cL ha (cursor_Reader_Num.walk w26 _ hM g10 t23.2 ao24 cap24 f24 hBg10 (ml (List.mem_singleton.2 rfl)) t26 k _ H27) ?_;rintro _ w27 ⟨ao28,cap28,rfl,f28,qhBg10,hc27,hMn⟩ a ha;have hM:=hM.chg hc27;have hC:=hC.t1 hc27 e_i11;refine sf ha 4 [(2,.int .i64 t14.1),(3,.int .i64 t23.1),(4,.int .i64 t27.1),(5,.bool true)] fun a ha=>?_;refine hK25 _ _ ?_;refine wrt ?_;have hM:MS M w27:=hM.sb fun _ h=>mr (h);obtain rfl:=oj H;refine rt4 ha rfl rfl rfl rfl rfl ?_;exact ⟨rfl,hC,hM⟩

def strconv_Itoa.f (a0:Int):Option (List UInt8):=if -9223372036854775808≤a0∧a0≤9223372036854775807 then some (Lib.itoa a0) else none
theorem strconv_Itoa.walk (w:World) (M:List Nat) (hM:MS M w) (hG:GF w M) (a0:Int) (r:List UInt8) (H:strconv_Itoa.f a0=some r) :
    To Tryz.prog 71 [.int .i64 a0] w fun v w'=>v=.string (bstr r)∧Chg [] w w'∧MS M w':=by
  unfold strconv_Itoa.f at H;obtain ⟨⟨h0,h1⟩,H⟩:=ite_some H;obtain rfl:=oj H;refine Calls.mono (Tryz.strconv_Itoa a0 h0 h1 w hG.1.1) ?_;rintro e w' ⟨rfl,k,os,rfl⟩;exact ⟨_,rfl,rfl,chg_grow w k os,hM.chg (chg_grow w k os)⟩

def addr_Of.f (a0:List Int):Option (S_api_Addr×Int):=((if ((a0.length:Int)==(0:Int))=true then some ((a0.length:Int)==(0:Int):Bool) else (if ((a0.length:Int)==(4:Int))=true then some ((a0.length:Int)==(4:Int):Bool) else some ((a0.length:Int)==(16:Int):Bool)))).bind fun s10=>(if s10=true then some (((⟨(a0.length:Int),(arC 16 (List.replicate 16 (0:Int)) a0)⟩:S_api_Addr):S_api_Addr),((0:Int):Int)) else some (((⟨(0:Int),(List.replicate 16 (0:Int))⟩:S_api_Addr):S_api_Addr),((1:Int):Int)))
set_option maxRecDepth 100000 in
theorem addr_Of.walk (w:World) (M:List Nat) (hM:MS M w) (a0:List Int) (ao1:Option Addr) (cap1:Nat) (f1:RSl (rInt .u8) 5 w M ao1 cap1 a0) (r:S_api_Addr×Int) (H:addr_Of.f a0=some r) :
    To Tryz.prog 58 [.slice ao1 a0.length cap1] w fun v w'=>v=.tuple #[.agg (cS_api_Addr r.1).toArray,.int .i64 r.2]∧Chg [] w w'∧MS (M) w':=by
 unfold addr_Of.f at H;refine ent Tryz.func58 rfl [(0,.slice ao1 a0.length cap1)] rfl (by rfl) fun a ha=>?_;have hC:Chg [] w w:=Chg.refl _ _;refine wsr fun K2 hK2=>?_;refine alE (cS_api_Addr (⟨(0:Int),(List.replicate 16 (0:Int))⟩:S_api_Addr)) ha fun a w3 g4 hN5 ha=>?_;have o1:=oN M w;have o2:=oA hN5 M;have f1:=f1.chg hN5.chg o1 o2;have e_i6:=eN hC (hN5.ge1);have hM:=MS.app hN5.ms (hM.chg hN5.chg);have hC:=hC.t0 hN5.chg;have hBg4:=hN5.box;refine sd ha 1 [] [(2,pt g4 0)] fun a ha=>?_;refine hK2 _ _ ?_;refine wp_seq_k fun K7 hK7=>?_;refine sqd ha 2 [] [(6,.int .i64 (a0.length:Int))] fun a ha=>?_;refine wp_block ?_;refine wp_seq_k fun K9 hK9=>?_;obtain ⟨s10,H10,H⟩:=bind_some H;have J10:∀ (a:Act) (w10:World),Has a Tryz.f58.ntmps [(0,.slice ao1 a0.length cap1),(2,pt g4 0),(7,.bool s10)]→(RSl (rInt .u8) 5 w10 ([g4]++(M)) ao1 cap1 a0)→(Box w10 g4 (cS_api_Addr (⟨(0:Int),(List.replicate 16 (0:Int))⟩:S_api_Addr)))→(Chg [] w w10)→(MS ([g4]++(M)) w10)→K9 a w10:=by
  intro a w10 ha f1 hBg4 hC hM;refine hK9 _ _ ?_;refine cnH H ha (fun hc11 H=>?_) (fun hc11 H=>?_)
  ·refine wsr fun K12 hK12=>?_;refine sd ha 2 [7] [(12,.int .i64 (a0.length:Int))] fun a ha=>?_;refine oP (.agg (cS_api_Addr (⟨(a0.length:Int),(List.replicate 16 (0:Int))⟩:S_api_Addr)).toArray) ha fun a ha=>?_;refine alE (cS_api_Addr (⟨(0:Int),(List.replicate 16 (0:Int))⟩:S_api_Addr)) ha fun a w13 g14 hN15 ha=>?_;have o1:=oN ([g4]++(M)) w10;have o2:=oA hN15 ([g4]++(M));have f1:=f1.chg hN15.chg o1 o2;have hBg4:=hBg4.c0 hN15.chg;have p_i16_i6:=pn (B:=[g4]) hM (hN15.ge1) fun _ hy=>ml hy;have e_i16:=eN hC (hN15.ge1);have hM:=MS.app hN15.ms (hM.chg hN15.chg);have hC:=hC.t0 hN15.chg;have hBg14:=hN15.box;refine stE (cS_api_Addr (⟨(a0.length:Int),(List.replicate 16 (0:Int))⟩:S_api_Addr)) ha hBg14 fun a w17 ha hBg14 hc18 _=>?_;have o1:Ok [g14] ([g14]++([g4]++(M))) w13.heap.size:=(fun _ h=>.inl (ml h))
   have o2:=oR ([g14]++([g4]++(M))) w13;have f1:=f1.chg hc18 o1 o2;have hBg4:=hBg4.chg hc18 ((fun x (hx:x∈[g4]) (hy:x∈[g14])=>p_i16_i6 x hy hx) g4 (by simp));have hM:=hM.chg hc18;have hC:=hC.t1 hc18 e_i16;refine hK12 _ _ ?_;refine wsr fun K19 hK19=>?_;refine sd ha 1 [12] [(4,pt g14 0),(14,pt g14 1)] fun a ha=>?_;refine oP (.slice (some ⟨g14,1,none⟩) 16 16) ha fun a ha=>?_;refine sd ha 1 [0,14] [(15,.slice (some ⟨g14,1,none⟩) 16 16),(16,.slice ao1 a0.length cap1)] fun a ha=>?_;refine cpyA (T:=5) (k:=.u8) (x0:=(List.replicate 16 (0:Int))) (N:=16) ([.int .i64 (a0.length:Int)]:List Value) ([]:List Value) ha (by kernel_rfl) (by kernel_rfl) rfl rfl rfl rfl rfl hBg14 (by kernel_rfl) f1 fun a w20 hb2 hc21 ha=>?_;have hBg4:=hBg4.chg hc21 ((fun x (hx:x∈[g4]) (hy:x∈[g14])=>p_i16_i6 x hy hx) g4 (by simp));have hM:=hM.chg hc21;have hC:=hC.t1 hc21 e_i16;have hBg14:Box w20 g14 (cS_api_Addr (⟨(a0.length:Int),(arC 16 (List.replicate 16 (0:Int)) a0)⟩:S_api_Addr)):=hb2.cast (by kernel_rfl);refine hK19 _ _ ?_;refine wsr fun K22 hK22=>?_;refine ldE (Box.cells hBg14) ha fun a ha=>?_;refine stE (cS_api_Addr (⟨(a0.length:Int),(arC 16 (List.replicate 16 (0:Int)) a0)⟩:S_api_Addr)) ha hBg4 fun a w23 ha hBg4 hc24 _=>?_;have hM:=hM.chg hc24;have hC:=hC.t1 hc24 e_i6;refine sf ha 1 [(2,pt g4 0),(3,.int .i64 0)] fun a ha=>?_;refine hK22 _ _ ?_;refine wrt ?_;have hM:MS M w23:=hM.sb fun _ h=>mr (mr (h));obtain rfl:=oj H;refine rtr ha (res2 rfl (roA ha rfl hBg4 (by kernel_rfl)) (roT ha rfl)) ?_;exact ⟨rfl,hC,hM⟩
  ·refine wp_skip ?_;refine hK7 _ _ ?_;refine wsr fun K25 hK25=>?_;refine oP (.agg (cS_api_Addr (⟨(0:Int),(List.replicate 16 (0:Int))⟩:S_api_Addr)).toArray) ha fun a ha=>?_;refine stE (cS_api_Addr (⟨(0:Int),(List.replicate 16 (0:Int))⟩:S_api_Addr)) ha hBg4 fun a w26 ha hBg4 hc27 _=>?_;have hM:=hM.chg hc27;have hC:=hC.t1 hc27 e_i6;refine sd ha 1 [0,7] [(3,.int .i64 1)] fun a ha=>?_;refine hK25 _ _ ?_;refine wrt ?_;have hM:MS M w26:=hM.sb fun _ h=>mr (h);obtain rfl:=oj H;refine rtr ha (res2 rfl (roA ha rfl hBg4 (by kernel_rfl)) (roT ha rfl)) ?_;exact ⟨rfl,hC,hM⟩
 have H:=H10;refine sqd ha 2 [] [(7,.bool ((a0.length:Int)==(0:Int)))] fun a ha=>?_;refine cnH H ha (fun hc29 H=>?_) (fun hc29 H=>?_)
 ·refine wp_skip ?_;obtain rfl:=oj H;exact J10 _ _ (ha.sel (by kernel_rfl)) f1 hBg4 hC hM
 ·refine sqd ha 2 [] [(7,.bool ((a0.length:Int)==(4:Int)))] fun a ha=>?_;refine cnH H ha (fun hc31 H=>?_) (fun hc31 H=>?_)
  ·refine wp_skip ?_;obtain rfl:=oj H;exact J10 _ _ (ha.sel (by kernel_rfl)) f1 hBg4 hC hM
  ·refine wp_region_lit ?_;refine sd ha 2 [6] [(7,.bool ((a0.length:Int)==(16:Int)))] fun a ha=>?_;obtain rfl:=oj H;exact J10 _ _ (ha.sel (by kernel_rfl)) f1 hBg4 hC hM

def strings_Join.f (a0:List (List UInt8)) (a1:List UInt8):Option (List UInt8):=if a0.length≤140737488355328∧(Lib.join a0 a1).length≤140737488355328 then some (Lib.join a0 a1) else none
theorem strings_Join.walk (w:World) (M:List Nat) (hM:MS M w) (a0:List (List UInt8)) (ao1:Option Addr) (cap1:Nat) (f1:RSl rStr 9 w M ao1 cap1 a0) (a1:List UInt8) (r:List UInt8) (H:strings_Join.f a0 a1=some r) :
    To Tryz.prog 99 [.slice ao1 a0.length cap1,.string (bstr a1)] w fun v w'=>v=.string (bstr r)∧Chg [] w w'∧MS M w':=by
  unfold strings_Join.f at H
  obtain ⟨⟨h0,h1⟩,H⟩:=ite_some H
  obtain rfl:=oj H
  have e1:(bstr a1).data.toList=a1:=by simp [bstr]
  by_cases hn:a0=[]
  · subst hn
    refine Calls.mono (Tryz.strings_Join_none ao1 cap1 (bstr a1) w) ?_
    rintro e w' ⟨rfl,rfl⟩
    exact ⟨_,rfl,rfl,Chg.refl _ _,hM⟩
  · have hl:0 < a0.length:=List.length_pos_iff.2 hn
    obtain ⟨g,o,cs,rfl,_,_,hc⟩:=RSl.elem f1 0 hl
    have hcells:∀ (j:Nat) x,(a0.map bstr)[j]? = some x→w.cell? ⟨g,o+j,none⟩=some (.string x):=by
      intro j x hj
      rw [List.getElem?_map] at hj
      obtain ⟨y,hy,rfl⟩:=Option.map_eq_some_iff.1 hj
      obtain ⟨hjl,rfl⟩:=List.getElem?_eq_some_iff.1 hy
      obtain ⟨g',o',cs',e,_,hR,hc'⟩:=RSl.elem f1 j hjl
      cases e
      have hcs:cs'=[.string (bstr a0[j])]:=hR
      subst hcs
      have:=hc' 0 _ rfl
      simpa [rStr] using this
    have hbk:g < w.heap.size:=by
      have h2:=hcells 0 (bstr a0[0]) (by rw [List.getElem?_map,List.getElem?_eq_getElem hl];rfl)
      exact lt_cell h2
    have em : (a0.map bstr).map (·.data.toList) = a0 := by rw [List.map_map]; conv => rhs; rw [← List.map_id a0]; 
                                                           exact List.map_congr_left fun x _ => by simp [bstr]
    have h:=Tryz.strings_Join g o cap1 (a0.map bstr) (bstr a1) w hcells hbk (by rw [List.length_map];exact h0) (by rw [List.length_map];exact f1.1) (by rw [em,e1];exact h1)
    rw [em,e1,List.length_map] at h
    refine Calls.mono h ?_
    rintro e w' ⟨rfl,hb⟩
    exact ⟨_,rfl,rfl,chg_below hb,hM.chg (chg_below hb)⟩

def addr_numbers.l0 (a0:S_api_Addr):Nat→Int→(List Int)→Option (List Int)
  | 0,_,_=>none
  | kk+1,x14,x15=>(if (decide (x14 < (8:Int)))=true then (if 0≤(IntKind.i64.wrap ((2:Int)*x14))∧(IntKind.i64.wrap ((2:Int)*x14)) < (16:Int) then (if 0≤(IntKind.i64.wrap ((IntKind.i64.wrap ((2:Int)*x14))+(1:Int)))∧(IntKind.i64.wrap ((IntKind.i64.wrap ((2:Int)*x14))+(1:Int))) < (16:Int) then (if 0≤x14∧x14 < (8:Int) then addr_numbers.l0 a0 kk (IntKind.i64.wrap (x14+(1:Int))) ((arL 8 x15).set (Int.toNat x14) (IntKind.i64.wrap (BitVec.ofInt IntKind.i64.bits (IntKind.i64.wrap ((IntKind.i64.wrap (ar a0.B (Int.toNat (IntKind.i64.wrap ((2:Int)*x14)))))*2^(min (8:Int).toNat IntKind.i64.bits))) ||| BitVec.ofInt IntKind.i64.bits (IntKind.i64.wrap (ar a0.B (Int.toNat (IntKind.i64.wrap ((IntKind.i64.wrap ((2:Int)*x14))+(1:Int))))))).toNat)) else none) else none) else none) else some (x15:List Int))
def addr_numbers.f (k:Nat) (a0:S_api_Addr):Option (List Int):=(addr_numbers.l0 a0 k (0:Int) (List.replicate 8 (0:Int))).bind fun s13=>some ((s13:List Int))
set_option maxRecDepth 100000 in
theorem addr_numbers.walk (w:World) (M:List Nat) (hM:MS M w) (a0:S_api_Addr) (k:Nat) (r:List Int) (H:addr_numbers.f k a0=some r) :
    To Tryz.prog 134 [.agg (cS_api_Addr a0).toArray] w fun v w'=>v=.agg (cA .i64 8 r).toArray∧Chg [] w w'∧MS (M) w':=by
 unfold addr_numbers.f at H;refine ent Tryz.func134 rfl [(0,.agg (cS_api_Addr a0).toArray)] rfl (by rfl) fun a ha=>?_;have hC:Chg [] w w:=Chg.refl _ _;refine wsr fun K1 hK1=>?_;refine bx (cs:=(cS_api_Addr a0)) ha rfl rfl rfl rfl rfl fun a w2 g3 hN4 ha=>?_;have hn6:=hN4.notin hM;have hM:=hM.chg hN4.chg;have hC:=hC.t0 hN4.chg;have hE5:Cs w2 g3 0 (cS_api_Addr a0):=Box.cells (New.box hN4);refine alE (cA .i64 8 (List.replicate 8 (0:Int))) ha fun a w7 g8 hN9 ha=>?_;have o1:=oN M w2;have o2:=oA hN9 M;have q_hn6:=qn o2 hn6 (hE5 0 _ rfl);have hE5:=ck hN9.chg o1 hn6 hE5;have hn6:=q_hn6;have e_i10:=eN hC (hN9.ge1);have hM:=MS.app hN9.ms (hM.chg hN9.chg);have hC:=hC.t0 hN9.chg;have hBg8:=hN9.box;refine hK1 _ _ ?_;refine wp_seq_k fun K11 hK11=>?_;refine sq ha 1 [(1,pt g3 0),(2,pt g8 0),(4,.int .i64 0)] fun a ha=>?_;refine wp_block ?_;obtain ⟨s13,H13,H⟩:=bind_some H;have J13:∀ (a:Act) (wx13:World),Has a Tryz.f134.ntmps [(2,pt g8 0)]→(Box wx13 g8 (cA .i64 8 s13))→(Chg [] w wx13)→(MS ([g8]++(M)) wx13)→K11 a wx13:=by
  intro a wx13 ha hBg8 hC hM;refine hK11 _ _ ?_;refine wsr fun K16 hK16=>?_;refine ldE (Box.cells hBg8) ha fun a ha=>?_;refine stE (cA .i64 8 s13) ha hBg8 fun a w17 ha hBg8 hc18 _=>?_;have hM:=hM.chg hc18;have hC:=hC.t1 hc18 e_i10;refine hK16 _ _ ?_;refine wrt ?_;have hM:MS M w17:=hM.sb fun _ h=>mr (h);obtain rfl:=oj H;refine rtr ha (res1 rfl (roA ha rfl hBg8 (by kernel_rfl))) ?_;exact ⟨rfl,hC,hM⟩
 have Hc13:=H;have H:=H13;refine wp_loop_ghost (fun kk a w13=>∃ (x14:Int) (x15:List Int),addr_numbers.l0 a0 kk x14 x15=some s13∧Has a Tryz.f134.ntmps [(1,pt g3 0),(2,pt g8 0),(4,.int .i64 x14)]∧(Box w13 g8 (cA .i64 8 x15))∧(Cs w13 g3 0 (cS_api_Addr a0))∧(g3∉([g8]++(M)))∧(Chg [] w w13)∧(MS ([g8]++(M)) w13)) k ?_ ?_
 ·skip;exact ⟨(0:Int),(List.replicate 8 (0:Int)),H,(ha.sel (by kernel_rfl)),hBg8,hE5,hn6,hC,hM⟩
 ·rintro kk a w13 ⟨x14,x15,H,ha,hBg8,hE5,hn6,hC,hM⟩;obtain _ | kk:=kk
  ·exact nomatch (show none=some _ from H)
  rw [addr_numbers.l0] at H;refine sqd ha 1 [] [(5,.bool (decide (x14 < (8:Int))))] fun a ha=>?_;refine wp_seq_k fun K20 hK20=>?_;refine cnH H ha (fun hc21 H=>?_) (fun hc21 H=>?_)
  ·refine wp_skip ?_;refine hK20 _ _ ?_;refine wp_seq_k fun K22 hK22=>?_;refine wp_block ?_;refine sqd ha 2 [5] [(3,.int .i64 x14)] fun a ha=>?_;refine drq 17 (fun w'=>Chg [] w13 w') (by kernel_rfl) (by kernel_rfl) (fun _ h=>h) ?_;refine qP 0 (.int .i64 x14) ha fun a ha=>?_;refine qP 0 (.int .i64 x14) ha fun a ha=>?_;refine qP 0 (.int .i64 (IntKind.i64.wrap ((2:Int)*x14))) ha fun a ha=>?_;refine qP 0 (.pointer (some ⟨g3,0+1,none⟩)) ha fun a ha=>?_;obtain ⟨⟨hx24,hx24'⟩,H⟩:=ite_some H;have hE24:Cs w13 g3 (0+1+(Int.toNat (IntKind.i64.wrap ((2:Int)*x14)))) ([.int .u8 (ar a0.B (Int.toNat (IntKind.i64.wrap ((2:Int)*x14))))]:List Value):=cellA (m:=16) [.int .i64 a0.Size] [] hE5 (by kernel_rfl) (by omega);refine qV ha (fun w' hs=>ixA_run (T:=5) (N:=16) (g:=g3) (o':=0+1) (k:=.i64) (i:=IntKind.i64.wrap ((2:Int)*x14)) ha (by kernel_rfl) (by kernel_rfl) (by rfl) (by rfl) hx24 hx24' w') fun a ha=>?_;refine qV (v:=.int .u8 (ar a0.B (Int.toNat (IntKind.i64.wrap ((2:Int)*x14))))) ha (fun w' hs=>ld_run ha rfl (by kernel_rfl) (hs.keep (hE24 0 (.int .u8 (ar a0.B (Int.toNat (IntKind.i64.wrap ((2:Int)*x14))))) (by kernel_rfl)))) fun a ha=>?_;refine qP 0 (.int .i64 (IntKind.i64.wrap (ar a0.B (Int.toNat (IntKind.i64.wrap ((2:Int)*x14)))))) ha fun a ha=>?_;refine qP 0 (.int .i64 (IntKind.i64.wrap ((IntKind.i64.wrap (ar a0.B (Int.toNat (IntKind.i64.wrap ((2:Int)*x14)))))*2^(min (8:Int).toNat IntKind.i64.bits)))) ha fun a ha=>?_;refine qP 0 (.int .i64 x14) ha fun a ha=>?_;refine qP 0 (.int .i64 (IntKind.i64.wrap ((2:Int)*x14))) ha fun a ha=>?_;refine qP 0 (.int .i64 (IntKind.i64.wrap ((IntKind.i64.wrap ((2:Int)*x14))+(1:Int)))) ha fun a ha=>?_;refine qP 0 (.pointer (some ⟨g3,0+1,none⟩)) ha fun a ha=>?_;obtain ⟨⟨hx25,hx25'⟩,H⟩:=ite_some H;have hE25:Cs w13 g3 (0+1+(Int.toNat (IntKind.i64.wrap ((IntKind.i64.wrap ((2:Int)*x14))+(1:Int))))) ([.int .u8 (ar a0.B (Int.toNat (IntKind.i64.wrap ((IntKind.i64.wrap ((2:Int)*x14))+(1:Int)))))]:List Value):=cellA (m:=16) [.int .i64 a0.Size] [] hE5 (by kernel_rfl) (by omega);refine qV ha (fun w' hs=>ixA_run (T:=5) (N:=16) (g:=g3) (o':=0+1) (k:=.i64) (i:=IntKind.i64.wrap ((IntKind.i64.wrap ((2:Int)*x14))+(1:Int))) ha (by kernel_rfl) (by kernel_rfl) (by rfl) (by rfl) hx25 hx25' w') fun a ha=>?_;refine qV (v:=.int .u8 (ar a0.B (Int.toNat (IntKind.i64.wrap ((IntKind.i64.wrap ((2:Int)*x14))+(1:Int)))))) ha (fun w' hs=>ld_run ha rfl (by kernel_rfl) (hs.keep (hE25 0 (.int .u8 (ar a0.B (Int.toNat (IntKind.i64.wrap ((IntKind.i64.wrap ((2:Int)*x14))+(1:Int)))))) (by kernel_rfl)))) fun a ha=>?_;refine qP 0 (.int .i64 (IntKind.i64.wrap (ar a0.B (Int.toNat (IntKind.i64.wrap ((IntKind.i64.wrap ((2:Int)*x14))+(1:Int))))))) ha fun a ha=>?_;refine qP 0 (.int .i64 (IntKind.i64.wrap (BitVec.ofInt IntKind.i64.bits (IntKind.i64.wrap ((IntKind.i64.wrap (ar a0.B (Int.toNat (IntKind.i64.wrap ((2:Int)*x14)))))*2^(min (8:Int).toNat IntKind.i64.bits))) ||| BitVec.ofInt IntKind.i64.bits (IntKind.i64.wrap (ar a0.B (Int.toNat (IntKind.i64.wrap ((IntKind.i64.wrap ((2:Int)*x14))+(1:Int))))))).toNat)) ha fun a ha=>?_;obtain ⟨⟨hx26,hx26'⟩,H⟩:=ite_some H;have hi26:(Int.toNat x14) < 8:=by omega
   refine qV ha (fun w' hs=>ixA_run (T:=3) (N:=8) (g:=g8) (o':=0) (k:=.i64) (i:=x14) ha (by kernel_rfl) (by kernel_rfl) (by rfl) (by rfl) hx26 hx26' w') fun a ha=>?_;refine wpQuiet_nil ?_;intro w27 hc28;have o1:=oN ([g8]++(M)) w13;have o2:=oR ([g8]++(M)) w13;have hBg8:=hBg8.c0 hc28;have q_hn6:=qn o2 hn6 (hE5 0 _ rfl);have hE5:=ck hc28 o1 hn6 hE5;have hn6:=q_hn6;have hM:=hM.chg hc28;have hC:=hC.t0 hc28;refine st (o':=0+(Int.toNat x14)) ha rfl rfl rfl (by kernel_rfl) rfl rfl hBg8 (arr_lt (k:=.i64) (m:=8) (x:=x15) ([]:List Value) ([]:List Value) (by kernel_rfl) hi26) fun a w29 ha hb2 hc30 _=>?_;have o1:Ok [g8] ([g8]++(M)) w27.heap.size:=(fun _ h=>.inl (ml h))
   have o2:=oR ([g8]++(M)) w27;have q_hn6:=qn o2 hn6 (hE5 0 _ rfl);have hE5:=ck hc30 o1 hn6 hE5;have hn6:=q_hn6;have hM:=hM.chg hc30;have hC:=hC.t1 hc30 e_i10;have hBg8:Box w29 g8 (cA .i64 8 ((arL 8 x15).set (Int.toNat x14) (IntKind.i64.wrap (BitVec.ofInt IntKind.i64.bits (IntKind.i64.wrap ((IntKind.i64.wrap (ar a0.B (Int.toNat (IntKind.i64.wrap ((2:Int)*x14)))))*2^(min (8:Int).toNat IntKind.i64.bits))) ||| BitVec.ofInt IntKind.i64.bits (IntKind.i64.wrap (ar a0.B (Int.toNat (IntKind.i64.wrap ((IntKind.i64.wrap ((2:Int)*x14))+(1:Int))))))).toNat))):=Box.setA (k:=.i64) (m:=8) (x:=x15) ([]:List Value) ([]:List Value) hb2 (by kernel_rfl) hi26 (by kernel_rfl);refine hK22 _ _ ?_;refine wp_region_lit ?_;refine sd ha 2 [3] [(4,.int .i64 (IntKind.i64.wrap (x14+(1:Int))))] fun a ha=>?_;exact ⟨kk,Nat.lt_succ_self _,⟨IntKind.i64.wrap (x14+(1:Int)),((arL 8 x15).set (Int.toNat x14) (IntKind.i64.wrap (BitVec.ofInt IntKind.i64.bits (IntKind.i64.wrap ((IntKind.i64.wrap (ar a0.B (Int.toNat (IntKind.i64.wrap ((2:Int)*x14)))))*2^(min (8:Int).toNat IntKind.i64.bits))) ||| BitVec.ofInt IntKind.i64.bits (IntKind.i64.wrap (ar a0.B (Int.toNat (IntKind.i64.wrap ((IntKind.i64.wrap ((2:Int)*x14))+(1:Int))))))).toNat)),H,(ha.sel (by kernel_rfl)),hBg8,hE5,hn6,hC,hM⟩⟩
  ·refine wx ?_;obtain rfl:=oj H;exact J13 _ _ (ha.sel (by kernel_rfl)) hBg8 hC hM
def addr_gap.l1 (a0:List Int) (x12:Int):Nat→Int→Option (Int)
  | 0,_=>none
  | kk+1,x22=>((if (decide ((IntKind.i64.wrap (x12+x22)) < (8:Int)))=true then (if 0≤(IntKind.i64.wrap (x12+x22))∧(IntKind.i64.wrap (x12+x22)) < (8:Int) then some ((ar a0 (Int.toNat (IntKind.i64.wrap (x12+x22))))==(0:Int):Bool) else none) else some (false:Bool))).bind fun s27=>(if s27=true then addr_gap.l1 a0 x12 kk (IntKind.i64.wrap (x22+(1:Int))) else some (x22:Int))
def addr_gap.l0 (k:Nat) (a0:List Int):Nat→Int→Int→Int→Option (Int×Int)
  | 0,_,_,_=>none
  | kk+1,x10,x11,x12=>(if (decide (x12 < (8:Int)))=true then (addr_gap.l1 a0 x12 k (0:Int)).bind fun s21=>(if (decide (s21 > x11))=true then addr_gap.l0 k a0 kk x12 s21 (IntKind.i64.wrap (x12+(1:Int))) else addr_gap.l0 k a0 kk x10 x11 (IntKind.i64.wrap (x12+(1:Int)))) else some ((x10:Int),(x11:Int)))
def addr_gap.f (k:Nat) (a0:List Int):Option (Int×Int):=(addr_gap.l0 k a0 k (0:Int) (0:Int) (0:Int)).bind fun s9=>some ((s9.1:Int),(s9.2:Int))
set_option maxRecDepth 100000 in
theorem addr_gap.walk (w:World) (M:List Nat) (hM:MS M w) (a0:List Int) (k:Nat) (r:Int×Int) (H:addr_gap.f k a0=some r) :
    To Tryz.prog 135 [.agg (cA .i64 8 a0).toArray] w fun v w'=>v=.tuple #[.int .i64 r.1,.int .i64 r.2]∧Chg [] w w'∧MS (M) w':=by
 unfold addr_gap.f at H;refine ent Tryz.func135 rfl [(0,.agg (cA .i64 8 a0).toArray)] rfl (by rfl) fun a ha=>?_;have hC:Chg [] w w:=Chg.refl _ _;refine wsr fun K1 hK1=>?_;refine bx (cs:=(cA .i64 8 a0)) ha rfl rfl rfl rfl rfl fun a w2 g3 hN4 ha=>?_;have hn6:=hN4.notin hM;have hM:=hM.chg hN4.chg;have hC:=hC.t0 hN4.chg;have hE5:Cs w2 g3 0 (cA .i64 8 a0):=Box.cells (New.box hN4);refine sf ha 2 [(1,pt g3 0),(2,.int .i64 0),(3,.int .i64 0)] fun a ha=>?_;refine hK1 _ _ ?_;refine wp_seq_k fun K7 hK7=>?_;refine sqd ha 1 [] [(6,.int .i64 0)] fun a ha=>?_;refine wp_block ?_;obtain ⟨s9,H9,H⟩:=bind_some H;have J9:∀ (a:Act) (wx9:World),Has a Tryz.f135.ntmps [(2,.int .i64 s9.1),(3,.int .i64 s9.2)]→(Chg [] w wx9)→(MS (M) wx9)→K7 a wx9:=by
  intro a wx9 ha hC hM;refine hK7 _ _ ?_;refine sqd ha 4 [] [] fun a ha=>?_;refine wrt ?_;obtain rfl:=oj H;refine rt2 ha rfl rfl rfl ?_;exact ⟨rfl,hC,hM⟩
 have Hc9:=H;have H:=H9;refine wp_loop_ghost (fun kk a w9=>∃ (x10:Int) (x11:Int) (x12:Int),addr_gap.l0 k a0 kk x10 x11 x12=some s9∧Has a Tryz.f135.ntmps [(1,pt g3 0),(2,.int .i64 x10),(3,.int .i64 x11),(6,.int .i64 x12)]∧(Cs w9 g3 0 (cA .i64 8 a0))∧(g3∉(M))∧(Chg [] w w9)∧(MS (M) w9)) k ?_ ?_
 ·skip;exact ⟨(0:Int),(0:Int),(0:Int),H,(ha.sel (by kernel_rfl)),hE5,hn6,hC,hM⟩
 ·rintro kk a w9 ⟨x10,x11,x12,H,ha,hE5,hn6,hC,hM⟩;obtain _ | kk:=kk
  ·exact nomatch (show none=some _ from H)
  rw [addr_gap.l0] at H;refine sqd ha 1 [] [(7,.bool (decide (x12 < (8:Int))))] fun a ha=>?_;refine wp_seq_k fun K15 hK15=>?_;refine cnH H ha (fun hc16 H=>?_) (fun hc16 H=>?_)
  ·refine wp_skip ?_;refine hK15 _ _ ?_;refine wp_seq_k fun K17 hK17=>?_;refine wp_block ?_;refine sqd ha 2 [7] [(4,.int .i64 x12)] fun a ha=>?_;refine sqd ha 1 [] [(5,.int .i64 0)] fun a ha=>?_;refine wp_seq_k fun K20 hK20=>?_;refine wp_block ?_;obtain ⟨s21,H21,H⟩:=bind_some H;have J21:∀ (a:Act) (wx21:World),Has a Tryz.f135.ntmps [(1,pt g3 0),(2,.int .i64 x10),(3,.int .i64 x11),(4,.int .i64 x12),(5,.int .i64 s21),(6,.int .i64 x12)]→(Cs wx21 g3 0 (cA .i64 8 a0))→(g3∉(M))→(Chg [] w wx21)→(MS (M) wx21)→K20 a wx21:=by
    intro a wx21 ha hE5 hn6 hC hM;refine hK20 _ _ ?_;refine sqd ha 3 [] [(25,.bool (decide (s21 > x11)))] fun a ha=>?_;refine cnH H ha (fun hc24 H=>?_) (fun hc24 H=>?_)
    ·refine wp_region_lit ?_;refine sd ha 4 [4,5,25] [(2,.int .i64 x12),(3,.int .i64 s21)] fun a ha=>?_;refine hK17 _ _ ?_;refine wp_region_lit ?_;refine sd ha 2 [] [(6,.int .i64 (IntKind.i64.wrap (x12+(1:Int))))] fun a ha=>?_;exact ⟨kk,Nat.lt_succ_self _,⟨x12,s21,IntKind.i64.wrap (x12+(1:Int)),H,(ha.sel (by kernel_rfl)),hE5,hn6,hC,hM⟩⟩
    ·refine wp_skip ?_;refine hK17 _ _ ?_;refine wp_region_lit ?_;refine sd ha 2 [4,5,25] [(6,.int .i64 (IntKind.i64.wrap (x12+(1:Int))))] fun a ha=>?_;exact ⟨kk,Nat.lt_succ_self _,⟨x10,x11,IntKind.i64.wrap (x12+(1:Int)),H,(ha.sel (by kernel_rfl)),hE5,hn6,hC,hM⟩⟩
   have Hc21:=H;have H:=H21;refine wp_loop_ghost (fun kk a w21=>∃ (x22:Int),addr_gap.l1 a0 x12 kk x22=some s21∧Has a Tryz.f135.ntmps [(1,pt g3 0),(2,.int .i64 x10),(3,.int .i64 x11),(4,.int .i64 x12),(5,.int .i64 x22),(6,.int .i64 x12)]∧(Cs w21 g3 0 (cA .i64 8 a0))∧(g3∉(M))∧(Chg [] w w21)∧(MS (M) w21)) k ?_ ?_
   ·skip;exact ⟨(0:Int),H,(ha.sel (by kernel_rfl)),hE5,hn6,hC,hM⟩
   ·rintro kk a w21 ⟨x22,H,ha,hE5,hn6,hC,hM⟩;obtain _ | kk:=kk
    ·exact nomatch (show none=some _ from H)
    rw [addr_gap.l1] at H;refine wp_seq_k fun K25 hK25=>?_;refine wsr fun K26 hK26=>?_;obtain ⟨s27,H27,H⟩:=bind_some H;have J27:∀ (a:Act) (w27:World),Has a Tryz.f135.ntmps [(1,pt g3 0),(2,.int .i64 x10),(3,.int .i64 x11),(4,.int .i64 x12),(5,.int .i64 x22),(6,.int .i64 x12),(20,.bool s27)]→(Cs w27 g3 0 (cA .i64 8 a0))→(g3∉(M))→(Chg [] w w27)→(MS (M) w27)→K26 a w27:=by
     intro a w27 ha hE5 hn6 hC hM;refine hK26 _ _ ?_;refine cnH H ha (fun hc28 H=>?_) (fun hc28 H=>?_)
     ·refine wp_skip ?_;refine hK25 _ _ ?_;refine wp_block ?_;refine wp_region_lit ?_;refine sd ha 3 [20] [(5,.int .i64 (IntKind.i64.wrap (x22+(1:Int))))] fun a ha=>?_;exact ⟨kk,Nat.lt_succ_self _,⟨IntKind.i64.wrap (x22+(1:Int)),H,(ha.sel (by kernel_rfl)),hE5,hn6,hC,hM⟩⟩
     ·refine wx ?_;obtain rfl:=oj H;exact J21 _ _ (ha.sel (by kernel_rfl)) hE5 hn6 hC hM
    have H:=H27;refine sd ha 5 [] [(13,.bool (decide ((IntKind.i64.wrap (x12+x22)) < (8:Int))))] fun a ha=>?_;rcases Bool.eq_false_or_eq_true (decide ((IntKind.i64.wrap (x12+x22)) < (8:Int))) with hb29 | hb29
    ·have ha:=ha.lit hb29;have H:=ite_t hb29 H;refine sgd ha 3 [2,2,2] [] [(13,.bool true),(16,.int .i64 (IntKind.i64.wrap (x12+x22)))] fun a ha=>?_;obtain ⟨⟨hx30,hx30'⟩,H⟩:=ite_some H;have hE30:Cs w21 g3 (0+0+(Int.toNat (IntKind.i64.wrap (x12+x22)))) ([.int .i64 (ar a0 (Int.toNat (IntKind.i64.wrap (x12+x22))))]:List Value):=cellA (m:=8) [] [] hE5 (by kernel_rfl) (by omega);refine iA 3 8 g3 0 .i64 (IntKind.i64.wrap (x12+x22)) hx30 hx30' ha fun a ha=>?_;refine ld ha rfl (by kernel_rfl) rfl rfl rfl (hE30 0 (.int .i64 (ar a0 (Int.toNat (IntKind.i64.wrap (x12+x22))))) (by kernel_rfl)) fun a ha=>?_;refine sgd ha 2 [2,3] [13,16] [(20,.bool ((ar a0 (Int.toNat (IntKind.i64.wrap (x12+x22))))==(0:Int)))] fun a ha=>?_;obtain rfl:=oj H;exact J27 _ _ (ha.sel (by kernel_rfl)) hE5 hn6 hC hM
    ·have ha:=ha.lit hb29;have H:=ite_f hb29 H;refine sgd ha 7 [1,1,1,1,1,1,4] [13] [(20,.bool false)] fun a ha=>?_;obtain rfl:=oj H;exact J27 _ _ (ha.sel (by kernel_rfl)) hE5 hn6 hC hM
  ·refine wx ?_;obtain rfl:=oj H;exact J9 _ _ (ha.sel (by kernel_rfl)) hC hM
def strconv_small.f (a0:Int):Option (List UInt8):=(if (decide (a0 < (10:Int)))=true then (if 0≤a0∧a0≤(IntKind.i64.wrap (a0+(1:Int)))∧(IntKind.i64.wrap (a0+(1:Int)))≤(([48,49,50,51,52,53,54,55,56,57,97,98,99,100,101,102,103,104,105,106,107,108,109,110,111,112,113,114,115,116,117,118,119,120,121,122]:List UInt8).length:Int) then some ((((([48,49,50,51,52,53,54,55,56,57,97,98,99,100,101,102,103,104,105,106,107,108,109,110,111,112,113,114,115,116,117,118,119,120,121,122]:List UInt8).take (Int.toNat (IntKind.i64.wrap (a0+(1:Int))))).drop (Int.toNat a0)):List UInt8)) else none) else (if 0≤(IntKind.i64.wrap (a0*(2:Int)))∧(IntKind.i64.wrap (a0*(2:Int)))≤(IntKind.i64.wrap ((IntKind.i64.wrap (a0*(2:Int)))+(2:Int)))∧(IntKind.i64.wrap ((IntKind.i64.wrap (a0*(2:Int)))+(2:Int)))≤(([48,48,48,49,48,50,48,51,48,52,48,53,48,54,48,55,48,56,48,57,49,48,49,49,49,50,49,51,49,52,49,53,49,54,49,55,49,56,49,57,50,48,50,49,50,50,50,51,50,52,50,53,50,54,50,55,50,56,50,57,51,48,51,49,51,50,51,51,51,52,51,53,51,54,51,55,51,56,51,57,52,48,52,49,52,50,52,51,52,52,52,53,52,54,52,55,52,56,52,57,53,48,53,49,53,50,53,51,53,52,53,53,53,54,53,55,53,56,53,57,54,48,54,49,54,50,54,51,54,52,54,53,54,54,54,55,54,56,54,57,55,48,55,49,55,50,55,51,55,52,55,53,55,54,55,55,55,56,55,57,56,48,56,49,56,50,56,51,56,52,56,53,56,54,56,55,56,56,56,57,57,48,57,49,57,50,57,51,57,52,57,53,57,54,57,55,57,56,57,57]:List UInt8).length:Int) then some ((((([48,48,48,49,48,50,48,51,48,52,48,53,48,54,48,55,48,56,48,57,49,48,49,49,49,50,49,51,49,52,49,53,49,54,49,55,49,56,49,57,50,48,50,49,50,50,50,51,50,52,50,53,50,54,50,55,50,56,50,57,51,48,51,49,51,50,51,51,51,52,51,53,51,54,51,55,51,56,51,57,52,48,52,49,52,50,52,51,52,52,52,53,52,54,52,55,52,56,52,57,53,48,53,49,53,50,53,51,53,52,53,53,53,54,53,55,53,56,53,57,54,48,54,49,54,50,54,51,54,52,54,53,54,54,54,55,54,56,54,57,55,48,55,49,55,50,55,51,55,52,55,53,55,54,55,55,55,56,55,57,56,48,56,49,56,50,56,51,56,52,56,53,56,54,56,55,56,56,56,57,57,48,57,49,57,50,57,51,57,52,57,53,57,54,57,55,57,56,57,57]:List UInt8).take (Int.toNat (IntKind.i64.wrap ((IntKind.i64.wrap (a0*(2:Int)))+(2:Int))))).drop (Int.toNat (IntKind.i64.wrap (a0*(2:Int))))):List UInt8)) else none))
set_option maxRecDepth 100000 in
theorem strconv_small.walk (w:World) (M:List Nat) (hM:MS M w) (a0:Int) (r:List UInt8) (H:strconv_small.f a0=some r) :
    To Tryz.prog 160 [.int .i64 a0] w fun v w'=>v=.string (bstr r)∧Chg [] w w'∧MS (M) w':=by
 unfold strconv_small.f at H;refine ent Tryz.func160 rfl [(0,.int .i64 a0)] rfl (by rfl) fun a ha=>?_;have hC:Chg [] w w:=Chg.refl _ _;refine sqd ha 1 [] [] fun a ha=>?_;refine wp_seq_k fun K2 hK2=>?_;refine sqd ha 2 [] [(4,.bool (decide (a0 < (10:Int))))] fun a ha=>?_;refine cnH H ha (fun hc4 H=>?_) (fun hc4 H=>?_)
 ·refine wsr fun K5 hK5=>?_;refine sf ha 3 [(5,.int .i64 a0),(7,.int .i64 (IntKind.i64.wrap (a0+(1:Int))))] fun a ha=>?_;obtain ⟨⟨hx6,hx6',hx6''⟩,H⟩:=ite_some H;refine hop (w':=w) ha rfl rfl rfl (ssl_run (s:=([48,49,50,51,52,53,54,55,56,57,97,98,99,100,101,102,103,104,105,106,107,108,109,110,111,112,113,114,115,116,117,118,119,120,121,122]:List UInt8)) (l:=a0) (h:=(IntKind.i64.wrap (a0+(1:Int)))) ha (by kernel_rfl) (by rfl) (by rfl) (by rfl) hx6 hx6' hx6'' _) fun a ha=>?_;refine sf ha 1 [(2,.string (bstr ((([48,49,50,51,52,53,54,55,56,57,97,98,99,100,101,102,103,104,105,106,107,108,109,110,111,112,113,114,115,116,117,118,119,120,121,122]:List UInt8).take (Int.toNat (IntKind.i64.wrap (a0+(1:Int))))).drop (Int.toNat a0))))] fun a ha=>?_;refine hK5 _ _ ?_;refine wrt ?_;obtain rfl:=oj H;refine rt1 ha rfl rfl ?_;exact ⟨rfl,hC,hM⟩
 ·refine wp_skip ?_;refine hK2 _ _ ?_;refine wsr fun K7 hK7=>?_;refine sf ha 5 [(10,.int .i64 (IntKind.i64.wrap (a0*(2:Int)))),(13,.int .i64 (IntKind.i64.wrap ((IntKind.i64.wrap (a0*(2:Int)))+(2:Int))))] fun a ha=>?_;obtain ⟨⟨hx8,hx8',hx8''⟩,H⟩:=ite_some H;refine hop (w':=w) ha rfl rfl rfl (ssl_run (s:=([48,48,48,49,48,50,48,51,48,52,48,53,48,54,48,55,48,56,48,57,49,48,49,49,49,50,49,51,49,52,49,53,49,54,49,55,49,56,49,57,50,48,50,49,50,50,50,51,50,52,50,53,50,54,50,55,50,56,50,57,51,48,51,49,51,50,51,51,51,52,51,53,51,54,51,55,51,56,51,57,52,48,52,49,52,50,52,51,52,52,52,53,52,54,52,55,52,56,52,57,53,48,53,49,53,50,53,51,53,52,53,53,53,54,53,55,53,56,53,57,54,48,54,49,54,50,54,51,54,52,54,53,54,54,54,55,54,56,54,57,55,48,55,49,55,50,55,51,55,52,55,53,55,54,55,55,55,56,55,57,56,48,56,49,56,50,56,51,56,52,56,53,56,54,56,55,56,56,56,57,57,48,57,49,57,50,57,51,57,52,57,53,57,54,57,55,57,56,57,57]:List UInt8)) (l:=(IntKind.i64.wrap (a0*(2:Int)))) (h:=(IntKind.i64.wrap ((IntKind.i64.wrap (a0*(2:Int)))+(2:Int)))) ha (by kernel_rfl) (by rfl) (by rfl) (by rfl) hx8 hx8' hx8'' _) fun a ha=>?_;refine sf ha 1 [(2,.string (bstr ((([48,48,48,49,48,50,48,51,48,52,48,53,48,54,48,55,48,56,48,57,49,48,49,49,49,50,49,51,49,52,49,53,49,54,49,55,49,56,49,57,50,48,50,49,50,50,50,51,50,52,50,53,50,54,50,55,50,56,50,57,51,48,51,49,51,50,51,51,51,52,51,53,51,54,51,55,51,56,51,57,52,48,52,49,52,50,52,51,52,52,52,53,52,54,52,55,52,56,52,57,53,48,53,49,53,50,53,51,53,52,53,53,53,54,53,55,53,56,53,57,54,48,54,49,54,50,54,51,54,52,54,53,54,54,54,55,54,56,54,57,55,48,55,49,55,50,55,51,55,52,55,53,55,54,55,55,55,56,55,57,56,48,56,49,56,50,56,51,56,52,56,53,56,54,56,55,56,56,56,57,57,48,57,49,57,50,57,51,57,52,57,53,57,54,57,55,57,56,57,57]:List UInt8).take (Int.toNat (IntKind.i64.wrap ((IntKind.i64.wrap (a0*(2:Int)))+(2:Int))))).drop (Int.toNat (IntKind.i64.wrap (a0*(2:Int)))))))] fun a ha=>?_;refine hK7 _ _ ?_;refine wrt ?_;obtain rfl:=oj H;refine rt1 ha rfl rfl ?_;exact ⟨rfl,hC,hM⟩
def bits_Len64.f (a0:Int):Option (Int):=((if (decide (a0 ≥ (4294967296:Int)))=true then some ((Int.fdiv a0 (2^(min (32:Int).toNat IntKind.u64.bits)):Int),((32:Int):Int)) else some ((a0:Int),((0:Int):Int)))).bind fun s3=>((if (decide (s3.1 ≥ (65536:Int)))=true then some ((Int.fdiv s3.1 (2^(min (16:Int).toNat IntKind.u64.bits)):Int),(IntKind.i64.wrap (s3.2+(16:Int)):Int)) else some ((s3.1:Int),(s3.2:Int)))).bind fun s5=>((if (decide (s5.1 ≥ (256:Int)))=true then some ((Int.fdiv s5.1 (2^(min (8:Int).toNat IntKind.u64.bits)):Int),(IntKind.i64.wrap (s5.2+(8:Int)):Int)) else some ((s5.1:Int),(s5.2:Int)))).bind fun s7=>(if 0≤(IntKind.u8.wrap s7.1)∧(IntKind.u8.wrap s7.1) < (([0,1,2,2,3,3,3,3,4,4,4,4,4,4,4,4,5,5,5,5,5,5,5,5,5,5,5,5,5,5,5,5,6,6,6,6,6,6,6,6,6,6,6,6,6,6,6,6,6,6,6,6,6,6,6,6,6,6,6,6,6,6,6,6,7,7,7,7,7,7,7,7,7,7,7,7,7,7,7,7,7,7,7,7,7,7,7,7,7,7,7,7,7,7,7,7,7,7,7,7,7,7,7,7,7,7,7,7,7,7,7,7,7,7,7,7,7,7,7,7,7,7,7,7,7,7,7,7,8,8,8,8,8,8,8,8,8,8,8,8,8,8,8,8,8,8,8,8,8,8,8,8,8,8,8,8,8,8,8,8,8,8,8,8,8,8,8,8,8,8,8,8,8,8,8,8,8,8,8,8,8,8,8,8,8,8,8,8,8,8,8,8,8,8,8,8,8,8,8,8,8,8,8,8,8,8,8,8,8,8,8,8,8,8,8,8,8,8,8,8,8,8,8,8,8,8,8,8,8,8,8,8,8,8,8,8,8,8,8,8,8,8,8,8,8,8,8,8,8,8,8,8,8,8,8,8]:List UInt8).length:Int) then some ((IntKind.i64.wrap (s7.2+(IntKind.i64.wrap ((([0,1,2,2,3,3,3,3,4,4,4,4,4,4,4,4,5,5,5,5,5,5,5,5,5,5,5,5,5,5,5,5,6,6,6,6,6,6,6,6,6,6,6,6,6,6,6,6,6,6,6,6,6,6,6,6,6,6,6,6,6,6,6,6,7,7,7,7,7,7,7,7,7,7,7,7,7,7,7,7,7,7,7,7,7,7,7,7,7,7,7,7,7,7,7,7,7,7,7,7,7,7,7,7,7,7,7,7,7,7,7,7,7,7,7,7,7,7,7,7,7,7,7,7,7,7,7,7,8,8,8,8,8,8,8,8,8,8,8,8,8,8,8,8,8,8,8,8,8,8,8,8,8,8,8,8,8,8,8,8,8,8,8,8,8,8,8,8,8,8,8,8,8,8,8,8,8,8,8,8,8,8,8,8,8,8,8,8,8,8,8,8,8,8,8,8,8,8,8,8,8,8,8,8,8,8,8,8,8,8,8,8,8,8,8,8,8,8,8,8,8,8,8,8,8,8,8,8,8,8,8,8,8,8,8,8,8,8,8,8,8,8,8,8,8,8,8,8,8,8,8,8,8,8,8,8]:List UInt8).getD (Int.toNat (IntKind.u8.wrap s7.1)) 0).toNat:Int))):Int)) else none)
set_option maxRecDepth 100000 in
theorem bits_Len64.walk (w:World) (M:List Nat) (hM:MS M w) (a0:Int) (r:Int) (H:bits_Len64.f a0=some r) :
    To Tryz.prog 120 [.int .u64 a0] w fun v w'=>v=.int .i64 r∧Chg [] w w'∧MS (M) w':=by
 unfold bits_Len64.f at H;refine ent Tryz.func120 rfl [(0,.int .u64 a0)] rfl (by rfl) fun a ha=>?_;have hC:Chg [] w w:=Chg.refl _ _;refine sqd ha 1 [] [(2,.int .i64 0)] fun a ha=>?_;refine wp_seq_k fun K2 hK2=>?_;obtain ⟨s3,H3,H⟩:=bind_some H;have J3:∀ (a:Act) (w3:World),Has a Tryz.f120.ntmps [(0,.int .u64 s3.1),(2,.int .i64 s3.2)]→(Chg [] w w3)→(MS (M) w3)→K2 a w3:=by
  intro a w3 ha hC hM;refine hK2 _ _ ?_;refine wp_seq_k fun K4 hK4=>?_;obtain ⟨s5,H5,H⟩:=bind_some H;have J5:∀ (a:Act) (w5:World),Has a Tryz.f120.ntmps [(0,.int .u64 s5.1),(2,.int .i64 s5.2)]→(Chg [] w w5)→(MS (M) w5)→K4 a w5:=by
   intro a w5 ha hC hM;refine hK4 _ _ ?_;refine wp_seq_k fun K6 hK6=>?_;obtain ⟨s7,H7,H⟩:=bind_some H;have J7:∀ (a:Act) (w7:World),Has a Tryz.f120.ntmps [(0,.int .u64 s7.1),(2,.int .i64 s7.2)]→(Chg [] w w7)→(MS (M) w7)→K6 a w7:=by
    intro a w7 ha hC hM;refine hK6 _ _ ?_;refine wsr fun K8 hK8=>?_;refine sf ha 3 [(19,.int .i64 s7.2),(21,.int .u8 (IntKind.u8.wrap s7.1))] fun a ha=>?_;obtain ⟨⟨hx9,hx9'⟩,H⟩:=ite_some H;refine hop (w':=w7) ha rfl rfl rfl (sidx_run (l:=([0,1,2,2,3,3,3,3,4,4,4,4,4,4,4,4,5,5,5,5,5,5,5,5,5,5,5,5,5,5,5,5,6,6,6,6,6,6,6,6,6,6,6,6,6,6,6,6,6,6,6,6,6,6,6,6,6,6,6,6,6,6,6,6,7,7,7,7,7,7,7,7,7,7,7,7,7,7,7,7,7,7,7,7,7,7,7,7,7,7,7,7,7,7,7,7,7,7,7,7,7,7,7,7,7,7,7,7,7,7,7,7,7,7,7,7,7,7,7,7,7,7,7,7,7,7,7,7,8,8,8,8,8,8,8,8,8,8,8,8,8,8,8,8,8,8,8,8,8,8,8,8,8,8,8,8,8,8,8,8,8,8,8,8,8,8,8,8,8,8,8,8,8,8,8,8,8,8,8,8,8,8,8,8,8,8,8,8,8,8,8,8,8,8,8,8,8,8,8,8,8,8,8,8,8,8,8,8,8,8,8,8,8,8,8,8,8,8,8,8,8,8,8,8,8,8,8,8,8,8,8,8,8,8,8,8,8,8,8,8,8,8,8,8,8,8,8,8,8,8,8,8,8,8,8,8]:List UInt8)) (k:=.u8) (i:=IntKind.u8.wrap s7.1) ha (by kernel_rfl) (by rfl) (by rfl) hx9 hx9' _) fun a ha=>?_;refine sf ha 3 [(2,.int .i64 (IntKind.i64.wrap (s7.2+(IntKind.i64.wrap ((([0,1,2,2,3,3,3,3,4,4,4,4,4,4,4,4,5,5,5,5,5,5,5,5,5,5,5,5,5,5,5,5,6,6,6,6,6,6,6,6,6,6,6,6,6,6,6,6,6,6,6,6,6,6,6,6,6,6,6,6,6,6,6,6,7,7,7,7,7,7,7,7,7,7,7,7,7,7,7,7,7,7,7,7,7,7,7,7,7,7,7,7,7,7,7,7,7,7,7,7,7,7,7,7,7,7,7,7,7,7,7,7,7,7,7,7,7,7,7,7,7,7,7,7,7,7,7,7,8,8,8,8,8,8,8,8,8,8,8,8,8,8,8,8,8,8,8,8,8,8,8,8,8,8,8,8,8,8,8,8,8,8,8,8,8,8,8,8,8,8,8,8,8,8,8,8,8,8,8,8,8,8,8,8,8,8,8,8,8,8,8,8,8,8,8,8,8,8,8,8,8,8,8,8,8,8,8,8,8,8,8,8,8,8,8,8,8,8,8,8,8,8,8,8,8,8,8,8,8,8,8,8,8,8,8,8,8,8,8,8,8,8,8,8,8,8,8,8,8,8,8,8,8,8,8,8]:List UInt8).getD (Int.toNat (IntKind.u8.wrap s7.1)) 0).toNat:Int)))))] fun a ha=>?_;refine hK8 _ _ ?_;refine wrt ?_;obtain rfl:=oj H;refine rt1 ha rfl rfl ?_;exact ⟨rfl,hC,hM⟩
   have H:=H7;refine sqd ha 2 [] [(14,.bool (decide (s5.1 ≥ (256:Int))))] fun a ha=>?_;refine cnH H ha (fun hc11 H=>?_) (fun hc11 H=>?_)
   ·refine sqd ha 3 [14] [(0,.int .u64 (Int.fdiv s5.1 (2^(min (8:Int).toNat IntKind.u64.bits))))] fun a ha=>?_;refine wp_region_lit ?_;refine sd ha 3 [] [(2,.int .i64 (IntKind.i64.wrap (s5.2+(8:Int))))] fun a ha=>?_;obtain rfl:=oj H;exact J7 _ _ (ha.sel (by kernel_rfl)) hC hM
   ·refine wp_skip ?_;obtain rfl:=oj H;exact J7 _ _ (ha.sel (by kernel_rfl)) hC hM
  have H:=H5;refine sqd ha 2 [] [(8,.bool (decide (s3.1 ≥ (65536:Int))))] fun a ha=>?_;refine cnH H ha (fun hc14 H=>?_) (fun hc14 H=>?_)
  ·refine sqd ha 3 [8] [(0,.int .u64 (Int.fdiv s3.1 (2^(min (16:Int).toNat IntKind.u64.bits))))] fun a ha=>?_;refine wp_region_lit ?_;refine sd ha 3 [] [(2,.int .i64 (IntKind.i64.wrap (s3.2+(16:Int))))] fun a ha=>?_;obtain rfl:=oj H;exact J5 _ _ (ha.sel (by kernel_rfl)) hC hM
  ·refine wp_skip ?_;obtain rfl:=oj H;exact J5 _ _ (ha.sel (by kernel_rfl)) hC hM
 have H:=H3;refine sqd ha 2 [] [(4,.bool (decide (a0 ≥ (4294967296:Int))))] fun a ha=>?_;refine cnH H ha (fun hc17 H=>?_) (fun hc17 H=>?_)
 ·refine sq ha 3 [(0,.int .u64 (Int.fdiv a0 (2^(min (32:Int).toNat IntKind.u64.bits))))] fun a ha=>?_;refine wp_region_lit ?_;refine sd ha 1 [] [(2,.int .i64 32)] fun a ha=>?_;obtain rfl:=oj H;exact J3 _ _ (ha.sel (by kernel_rfl)) hC hM
 ·refine wp_skip ?_;obtain rfl:=oj H;exact J3 _ _ (ha.sel (by kernel_rfl)) hC hM
def strconv_log10Pow2.f (a0:Int):Option (Int):=some ((Int.fdiv (IntKind.i64.wrap (a0*(78913:Int))) (2^(min (18:Int).toNat IntKind.i64.bits)):Int))
set_option maxRecDepth 100000 in
theorem strconv_log10Pow2.walk (w:World) (M:List Nat) (hM:MS M w) (a0:Int) (r:Int) (H:strconv_log10Pow2.f a0=some r) :
    To Tryz.prog 174 [.int .i64 a0] w fun v w'=>v=.int .i64 r∧Chg [] w w'∧MS (M) w':=by
 unfold strconv_log10Pow2.f at H;refine ent Tryz.func174 rfl [(0,.int .i64 a0)] rfl (by rfl) fun a ha=>?_;have hC:Chg [] w w:=Chg.refl _ _;refine sqd ha 1 [] [] fun a ha=>?_;refine sq ha 4 [(2,.int .i64 (Int.fdiv (IntKind.i64.wrap (a0*(78913:Int))) (2^(min (18:Int).toNat IntKind.i64.bits))))] fun a ha=>?_;refine wrt ?_;obtain rfl:=oj H;refine rt1 ha rfl rfl ?_;exact ⟨rfl,hC,hM⟩
def strconv_bool2_int.f (a0:Bool):Option (Int):=(if a0=true then some (((1:Int):Int)) else some (((0:Int):Int)))
set_option maxRecDepth 100000 in
theorem strconv_bool2_int.walk (w:World) (M:List Nat) (hM:MS M w) (a0:Bool) (r:Int) (H:strconv_bool2_int.f a0=some r) :
    To Tryz.prog 175 [.bool a0] w fun v w'=>v=.int .i64 r∧Chg [] w w'∧MS (M) w':=by
 unfold strconv_bool2_int.f at H;refine ent Tryz.func175 rfl [(0,.bool a0)] rfl (by rfl) fun a ha=>?_;have hC:Chg [] w w:=Chg.refl _ _;refine sqd ha 1 [] [] fun a ha=>?_;refine wp_seq_k fun K2 hK2=>?_;refine sq ha 1 [(3,.bool a0)] fun a ha=>?_;refine cnH H ha (fun hc4 H=>?_) (fun hc4 H=>?_)
 ·refine sq ha 1 [(2,.int .i64 1)] fun a ha=>?_;refine wrt ?_;obtain rfl:=oj H;refine rt1 ha rfl rfl ?_;exact ⟨rfl,hC,hM⟩
 ·refine wp_skip ?_;refine hK2 _ _ ?_;refine sq ha 1 [(2,.int .i64 0)] fun a ha=>?_;refine wrt ?_;obtain rfl:=oj H;refine rt1 ha rfl rfl ?_;exact ⟨rfl,hC,hM⟩
def strconv_numDigits.f (a0:Int):Option (Int):=(bits_Len64.f a0).bind fun t3=>(strconv_log10Pow2.f t3).bind fun t4=>(if 0≤t4∧t4 < (20:Int) then (strconv_bool2_int.f (decide (a0 ≥ (ar Lib.pow10Tab (Int.toNat t4))))).bind fun t8=>some ((IntKind.i64.wrap (t4+t8):Int)) else none)
set_option maxRecDepth 100000 in
theorem strconv_numDigits.walk (w:World) (M:List Nat) (hM:MS M w) (hG:GF w M) (a0:Int) (r:Int) (H:strconv_numDigits.f a0=some r) :
    To Tryz.prog 161 [.int .u64 a0] w fun v w'=>v=.int .i64 r∧Chg [] w w'∧MS (M) w':=by
 unfold strconv_numDigits.f at H;refine ent Tryz.func161 rfl [(0,.int .u64 a0)] rfl (by rfl) fun a ha=>?_;have hC:Chg [] w w:=Chg.refl _ _;refine sqd ha 1 [] [] fun a ha=>?_;refine wsr fun K2 hK2=>?_;refine sd ha 1 [] [(4,.int .u64 a0)] fun a ha=>?_;obtain ⟨t3,H3,H⟩:=bind_some H;refine cL ha (bits_Len64.walk w _ hM a0 _ H3) ?_;rintro _ w3 ⟨rfl,hc3,hMn⟩ a ha;have o1:=oN M w;have o2:=oR M w;have hG:=hG.chg hc3 o1 o2;have hM:=hM.chg hc3;have hC:=hC.t0 hc3;obtain ⟨t4,H4,H⟩:=bind_some H;refine cL ha (strconv_log10Pow2.walk w3 _ hM t3 _ H4) ?_;rintro _ w4 ⟨rfl,hc4,hMn⟩ a ha;have o1:=oN M w3;have o2:=oR M w3;have hG:=hG.chg hc4 o1 o2;have hM:=hM.chg hc4;have hC:=hC.t0 hc4;refine sd ha 1 [4] [(3,.int .i64 t4)] fun a ha=>?_;refine hK2 _ _ ?_;refine wsr fun K5 hK5=>?_;refine sf ha 3 [(7,.int .i64 t4),(8,.int .u64 a0),(9,.int .i64 t4)] fun a ha=>?_;have hTc6:=TabOk.cells (n:=20) hG.1 (by kernel_rfl) (by kernel_rfl);have hTn6:=(hG.1).2;obtain ⟨⟨hx7,hx7'⟩,H⟩:=ite_some H;have hE7:Cs w4 1 (0+0+(Int.toNat t4)) ([.int .u64 (ar Lib.pow10Tab (Int.toNat t4))]:List Value):=cellA (m:=20) [] [] hTc6 (by kernel_rfl) (by omega);refine iA 139 20 1 0 .i64 (t4) hx7 hx7' ha fun a ha=>?_;refine ld ha rfl (by kernel_rfl) rfl rfl rfl (hE7 0 (.int .u64 (ar Lib.pow10Tab (Int.toNat t4))) (by kernel_rfl)) fun a ha=>?_;refine sd ha 1 [8,9] [(12,.bool (decide (a0 ≥ (ar Lib.pow10Tab (Int.toNat t4)))))] fun a ha=>?_;obtain ⟨t8,H8,H⟩:=bind_some H;refine cL ha (strconv_bool2_int.walk w4 _ hM (decide (a0 ≥ (ar Lib.pow10Tab (Int.toNat t4)))) _ H8) ?_;rintro _ w8 ⟨rfl,hc8,hMn⟩ a ha;have hM:=hM.chg hc8;have hC:=hC.t0 hc8;refine sf ha 2 [(2,.int .i64 (IntKind.i64.wrap (t4+t8)))] fun a ha=>?_;refine hK5 _ _ ?_;refine wrt ?_;obtain rfl:=oj H;refine rt1 ha rfl rfl ?_;exact ⟨rfl,hC,hM⟩
def strconv_isPowerOfTwo.f (a0:Int):Option (Bool):=some (((IntKind.i64.wrap (BitVec.ofInt IntKind.i64.bits a0 &&& BitVec.ofInt IntKind.i64.bits (IntKind.i64.wrap (a0 - (1:Int)))).toNat)==(0:Int):Bool))
set_option maxRecDepth 100000 in
theorem strconv_isPowerOfTwo.walk (w:World) (M:List Nat) (hM:MS M w) (a0:Int) (r:Bool) (H:strconv_isPowerOfTwo.f a0=some r) :
    To Tryz.prog 176 [.int .i64 a0] w fun v w'=>v=.bool r∧Chg [] w w'∧MS (M) w':=by
 unfold strconv_isPowerOfTwo.f at H;refine ent Tryz.func176 rfl [(0,.int .i64 a0)] rfl (by rfl) fun a ha=>?_;have hC:Chg [] w w:=Chg.refl _ _;refine sqd ha 1 [] [] fun a ha=>?_;refine sq ha 6 [(2,.bool ((IntKind.i64.wrap (BitVec.ofInt IntKind.i64.bits a0 &&& BitVec.ofInt IntKind.i64.bits (IntKind.i64.wrap (a0 - (1:Int)))).toNat)==(0:Int)))] fun a ha=>?_;refine wrt ?_;obtain rfl:=oj H;refine rt1 ha rfl rfl ?_;exact ⟨rfl,hC,hM⟩
def bits_TrailingZeros64.f (a0:Int):Option (Int):=(if (a0==(0:Int))=true then some (((64:Int):Int)) else (some (Int.fdiv (IntKind.u64.wrap ((IntKind.u64.wrap (BitVec.ofInt IntKind.u64.bits a0 &&& BitVec.ofInt IntKind.u64.bits (IntKind.u64.wrap (0 - a0))).toNat)*(285870213051353865:Int))) (2^(min (58:Int).toNat IntKind.u64.bits))):Option Int).bind fun ix8=>(if 0≤ix8∧ix8 < (64:Int) then some ((IntKind.i64.wrap (ar dbTab (Int.toNat ix8)):Int)) else none))
set_option maxRecDepth 100000 in
theorem bits_TrailingZeros64.walk (w:World) (M:List Nat) (hM:MS M w) (hG:GF w M) (a0:Int) (r:Int) (H:bits_TrailingZeros64.f a0=some r) :
    To Tryz.prog 180 [.int .u64 a0] w fun v w'=>v=.int .i64 r∧Chg [] w w'∧MS (M) w':=by
 unfold bits_TrailingZeros64.f at H;refine ent Tryz.func180 rfl [(0,.int .u64 a0)] rfl (by rfl) fun a ha=>?_;have hC:Chg [] w w:=Chg.refl _ _;refine sqd ha 1 [] [] fun a ha=>?_;refine wp_seq_k fun K2 hK2=>?_;refine sqd ha 2 [] [(4,.bool (a0==(0:Int)))] fun a ha=>?_;refine cnH H ha (fun hc4 H=>?_) (fun hc4 H=>?_)
 ·refine sq ha 1 [(2,.int .i64 64)] fun a ha=>?_;refine wrt ?_;obtain rfl:=oj H;refine rt1 ha rfl rfl ?_;exact ⟨rfl,hC,hM⟩
 ·refine wp_skip ?_;refine hK2 _ _ ?_;refine wsr fun K6 hK6=>?_;refine sf ha 6 [(10,.int .u64 (Int.fdiv (IntKind.u64.wrap ((IntKind.u64.wrap (BitVec.ofInt IntKind.u64.bits a0 &&& BitVec.ofInt IntKind.u64.bits (IntKind.u64.wrap (0 - a0))).toNat)*(285870213051353865:Int))) (2^(min (58:Int).toNat IntKind.u64.bits))))] fun a ha=>?_;have hTc7:=TabOk.cells (n:=64) hG.2.1 (by kernel_rfl) (by kernel_rfl);have hTn7:=(hG.2.1).2;obtain ⟨ix8,hix8,H⟩:=bind_some H;rw [Option.some.inj hix8] at ha;obtain ⟨⟨hx9,hx9'⟩,H⟩:=ite_some H;have hE9:Cs w 5 (0+0+(Int.toNat ix8)) ([.int .u8 (ar dbTab (Int.toNat ix8))]:List Value):=cellA (m:=64) [] [] hTc7 (by kernel_rfl) (by omega);refine iA 5 64 5 0 .u64 (ix8) hx9 hx9' ha fun a ha=>?_;refine ld ha rfl (by kernel_rfl) rfl rfl rfl (hE9 0 (.int .u8 (ar dbTab (Int.toNat ix8))) (by kernel_rfl)) fun a ha=>?_;refine sf ha 2 [(2,.int .i64 (IntKind.i64.wrap (ar dbTab (Int.toNat ix8))))] fun a ha=>?_;refine hK6 _ _ ?_;refine wrt ?_;obtain rfl:=oj H;refine rt1 ha rfl rfl ?_;exact ⟨rfl,hC,hM⟩
def bits_TrailingZeros.f (a0:Int):Option (Int):=(bits_TrailingZeros64.f a0).bind fun t5=>some ((t5:Int))
set_option maxRecDepth 100000 in
theorem bits_TrailingZeros.walk (w:World) (M:List Nat) (hM:MS M w) (hG:GF w M) (a0:Int) (r:Int) (H:bits_TrailingZeros.f a0=some r) :
    To Tryz.prog 177 [.int .u64 a0] w fun v w'=>v=.int .i64 r∧Chg [] w w'∧MS (M) w':=by
 unfold bits_TrailingZeros.f at H;refine ent Tryz.func177 rfl [(0,.int .u64 a0)] rfl (by rfl) fun a ha=>?_;have hC:Chg [] w w:=Chg.refl _ _;refine sqd ha 1 [] [] fun a ha=>?_;refine wp_seq_k fun K2 hK2=>?_;refine cnd ha rfl (fun h=>nomatch h) (fun _=>?_);refine wp_skip ?_;refine hK2 _ _ ?_;refine wsr fun K4 hK4=>?_;refine sf ha 1 [(6,.int .u64 a0)] fun a ha=>?_;obtain ⟨t5,H5,H⟩:=bind_some H;refine cL ha (bits_TrailingZeros64.walk w _ hM hG a0 _ H5) ?_;rintro _ w5 ⟨rfl,hc5,hMn⟩ a ha;have hM:=hM.chg hc5;have hC:=hC.t0 hc5;refine sf ha 1 [(2,.int .i64 t5)] fun a ha=>?_;refine hK4 _ _ ?_;refine wrt ?_;obtain rfl:=oj H;refine rt1 ha rfl rfl ?_;exact ⟨rfl,hC,hM⟩
def strconv_formatBits.l0 (a2:Int) (t35:Int):Nat→Int→Int→(List Int)→Option (Int×Int×List Int)
  | 0,_,_,_=>none
  | kk+1,x40,x41,x42=>(if (decide (x40 ≥ (IntKind.u64.wrap a2)))=true then (if 0≤(IntKind.u64.wrap (BitVec.ofInt IntKind.u64.bits x40 &&& BitVec.ofInt IntKind.u64.bits (IntKind.u64.wrap ((IntKind.u64.wrap a2) - (1:Int)))).toNat)∧(IntKind.u64.wrap (BitVec.ofInt IntKind.u64.bits x40 &&& BitVec.ofInt IntKind.u64.bits (IntKind.u64.wrap ((IntKind.u64.wrap a2) - (1:Int)))).toNat) < (([48,49,50,51,52,53,54,55,56,57,97,98,99,100,101,102,103,104,105,106,107,108,109,110,111,112,113,114,115,116,117,118,119,120,121,122]:List UInt8).length:Int) then (if 0≤(IntKind.i64.wrap (x41 - (1:Int)))∧(IntKind.i64.wrap (x41 - (1:Int))) < (65:Int) then (if 0≤(IntKind.u64.wrap t35) then strconv_formatBits.l0 a2 t35 kk (Int.fdiv x40 (2^(min (Int.toNat (IntKind.u64.wrap t35)) IntKind.u64.bits))) (IntKind.i64.wrap (x41 - (1:Int))) ((arL 65 x42).set (Int.toNat (IntKind.i64.wrap (x41 - (1:Int)))) ((([48,49,50,51,52,53,54,55,56,57,97,98,99,100,101,102,103,104,105,106,107,108,109,110,111,112,113,114,115,116,117,118,119,120,121,122]:List UInt8).getD (Int.toNat (IntKind.u64.wrap (BitVec.ofInt IntKind.u64.bits x40 &&& BitVec.ofInt IntKind.u64.bits (IntKind.u64.wrap ((IntKind.u64.wrap a2) - (1:Int)))).toNat)) 0).toNat:Int)) else none) else none) else none) else some ((x40:Int),(x41:Int),(x42:List Int)))
def strconv_formatBits.l1 (a2:Int):Nat→Int→Int→(List Int)→Option (Int×Int×List Int)
  | 0,_,_,_=>none
  | kk+1,x61,x62,x63=>(if (decide (x61 ≥ (IntKind.u64.wrap a2)))=true then (if (IntKind.u64.wrap a2)≠0 then (if 0≤(IntKind.u64.wrap (x61 - (IntKind.u64.wrap ((IntKind.u64.wrap (Int.tdiv x61 (IntKind.u64.wrap a2)))*(IntKind.u64.wrap a2)))))∧(IntKind.u64.wrap (x61 - (IntKind.u64.wrap ((IntKind.u64.wrap (Int.tdiv x61 (IntKind.u64.wrap a2)))*(IntKind.u64.wrap a2))))) < (([48,49,50,51,52,53,54,55,56,57,97,98,99,100,101,102,103,104,105,106,107,108,109,110,111,112,113,114,115,116,117,118,119,120,121,122]:List UInt8).length:Int) then (if 0≤(IntKind.i64.wrap (x62 - (1:Int)))∧(IntKind.i64.wrap (x62 - (1:Int))) < (65:Int) then strconv_formatBits.l1 a2 kk (IntKind.u64.wrap (Int.tdiv x61 (IntKind.u64.wrap a2))) (IntKind.i64.wrap (x62 - (1:Int))) ((arL 65 x63).set (Int.toNat (IntKind.i64.wrap (x62 - (1:Int)))) ((([48,49,50,51,52,53,54,55,56,57,97,98,99,100,101,102,103,104,105,106,107,108,109,110,111,112,113,114,115,116,117,118,119,120,121,122]:List UInt8).getD (Int.toNat (IntKind.u64.wrap (x61 - (IntKind.u64.wrap ((IntKind.u64.wrap (Int.tdiv x61 (IntKind.u64.wrap a2)))*(IntKind.u64.wrap a2)))))) 0).toNat:Int)) else none) else none) else none) else some ((x61:Int),(x62:Int),(x63:List Int)))
def strconv_formatBits.f (k:Nat) (a0:List Int) (a1:Int) (a2:Int) (a3:Bool) (a4:Bool):Option (List Int×List UInt8):=(if (if (if (decide (a2 < (2:Int)))=true then true else (a2==(10:Int)))=true then true else (decide (a2 > (36:Int))))=true then none else ((if a3=true then some (IntKind.u64.wrap (0 - a1):Int) else some (a1:Int))).bind fun s13=>((strconv_isPowerOfTwo.f a2).bind fun t32=>(if t32=true then (bits_TrailingZeros.f (IntKind.u64.wrap a2)).bind fun t35=>(strconv_formatBits.l0 a2 t35 k s13 (65:Int) (List.replicate 65 (0:Int))).bind fun s39=>(if 0≤s39.1∧s39.1 < (([48,49,50,51,52,53,54,55,56,57,97,98,99,100,101,102,103,104,105,106,107,108,109,110,111,112,113,114,115,116,117,118,119,120,121,122]:List UInt8).length:Int) then (if 0≤(IntKind.i64.wrap (s39.2.1 - (1:Int)))∧(IntKind.i64.wrap (s39.2.1 - (1:Int))) < (65:Int) then some ((IntKind.i64.wrap (s39.2.1 - (1:Int)):Int),(((arL 65 s39.2.2).set (Int.toNat (IntKind.i64.wrap (s39.2.1 - (1:Int)))) ((([48,49,50,51,52,53,54,55,56,57,97,98,99,100,101,102,103,104,105,106,107,108,109,110,111,112,113,114,115,116,117,118,119,120,121,122]:List UInt8).getD (Int.toNat s39.1) 0).toNat:Int)):List Int)) else none) else none) else (strconv_formatBits.l1 a2 k s13 (65:Int) (List.replicate 65 (0:Int))).bind fun s60=>(if 0≤s60.1∧s60.1 < (([48,49,50,51,52,53,54,55,56,57,97,98,99,100,101,102,103,104,105,106,107,108,109,110,111,112,113,114,115,116,117,118,119,120,121,122]:List UInt8).length:Int) then (if 0≤(IntKind.i64.wrap (s60.2.1 - (1:Int)))∧(IntKind.i64.wrap (s60.2.1 - (1:Int))) < (65:Int) then some ((IntKind.i64.wrap (s60.2.1 - (1:Int)):Int),(((arL 65 s60.2.2).set (Int.toNat (IntKind.i64.wrap (s60.2.1 - (1:Int)))) ((([48,49,50,51,52,53,54,55,56,57,97,98,99,100,101,102,103,104,105,106,107,108,109,110,111,112,113,114,115,116,117,118,119,120,121,122]:List UInt8).getD (Int.toNat s60.1) 0).toNat:Int)):List Int)) else none) else none))).bind fun s15=>((if a3=true then (if 0≤(IntKind.i64.wrap (s15.1 - (1:Int)))∧(IntKind.i64.wrap (s15.1 - (1:Int))) < (65:Int) then some ((IntKind.i64.wrap (s15.1 - (1:Int)):Int),(((arL 65 s15.2).set (Int.toNat (IntKind.i64.wrap (s15.1 - (1:Int)))) (45:Int)):List Int)) else none) else some ((s15.1:Int),(s15.2:List Int)))).bind fun s17=>(if a4=true then none else (if 0≤s17.1∧s17.1≤(65:Int)∧(65:Int)≤(65:Int) then some ((([]:List Int):List Int),(b2s (((arL 65 s17.2).take (Int.toNat (65:Int))).drop (Int.toNat s17.1)):List UInt8)) else none)))
set_option maxRecDepth 100000 in
theorem strconv_formatBits.walk (w:World) (M:List Nat) (hM:MS M w) (hG:GF w M) (a0:List Int) (ao1:Option Addr) (cap1:Nat) (f1:RSl (rInt .u8) 5 w M ao1 cap1 a0) (a1:Int) (a2:Int) (a3:Bool) (a4:Bool) (k:Nat) (r:List Int×List UInt8) (H:strconv_formatBits.f k a0 a1 a2 a3 a4=some r) :
    To Tryz.prog 163 [.slice ao1 a0.length cap1,.int .u64 a1,.int .i64 a2,.bool a3,.bool a4] w fun v w'=>∃ (ao82:Option Addr) (cap82:Nat),v=.tuple #[.slice ao82 r.1.length cap82,.string (bstr r.2)]∧(Own (rInt .u8) 5 w' (blkL ao82++(M)) ao82 cap82 r.1)∧(∀ x∈blkL ao82,w.heap.size≤x)∧Chg [] w w'∧MS (blkL ao82++(M)) w':=by
 unfold strconv_formatBits.f at H;refine ent Tryz.func163 rfl [(0,.slice ao1 a0.length cap1),(1,.int .u64 a1),(2,.int .i64 a2),(3,.bool a3),(4,.bool a4)] rfl (by rfl) fun a ha=>?_;have hC:Chg [] w w:=Chg.refl _ _;refine sqd ha 2 [] [(10,.slice none 0 0),(11,.string (bstr ([]:List UInt8)))] fun a ha=>?_;refine wp_seq_k fun K3 hK3=>?_;refine sqd ha 10 [] [(28,.bool (if (if (decide (a2 < (2:Int)))=true then true else (a2==(10:Int)))=true then true else (decide (a2 > (36:Int)))))] fun a ha=>?_;refine cnH H ha (fun hc5 H=>?_) (fun hc5 H=>?_)
 ·exact nomatch (show none=some _ from H)
 ·refine wp_skip ?_;refine hK3 _ _ ?_;refine wsr fun K6 hK6=>?_;refine alE (cA .u8 65 (List.replicate 65 (0:Int))) ha fun a w7 g8 hN9 ha=>?_;have o1:=oN M w;have o2:=oA hN9 M;have hG:=hG.chg hN9.chg o1 o2;have f1:=f1.chg hN9.chg o1 o2;have e_i10:=eN hC (hN9.ge1);have hM:=MS.app hN9.ms (hM.chg hN9.chg);have hC:=hC.t0 hN9.chg;have hBg8:=hN9.box;refine hK6 _ _ ?_;refine sqd ha 1 [28] [(12,pt g8 0),(13,.int .i64 65)] fun a ha=>?_;refine wp_seq_k fun K12 hK12=>?_;obtain ⟨s13,H13,H⟩:=bind_some H;have J13:∀ (a:Act) (w13:World),Has a Tryz.f163.ntmps [(0,.slice ao1 a0.length cap1),(1,.int .u64 s13),(2,.int .i64 a2),(3,.bool a3),(4,.bool a4),(10,.slice none 0 0),(11,.string (bstr ([]:List UInt8))),(12,pt g8 0),(13,.int .i64 65)]→(RSl (rInt .u8) 5 w13 ([g8]++(M)) ao1 cap1 a0)→(Box w13 g8 (cA .u8 65 (List.replicate 65 (0:Int))))→(GF w13 ([g8]++(M)))→(Chg [] w w13)→(MS ([g8]++(M)) w13)→K12 a w13:=by
   intro a w13 ha f1 hBg8 hG hC hM;refine hK12 _ _ ?_;refine wp_seq_k fun K14 hK14=>?_;obtain ⟨s15,H15,H⟩:=bind_some H;have J15:∀ (a:Act) (w15:World),Has a Tryz.f163.ntmps [(0,.slice ao1 a0.length cap1),(3,.bool a3),(4,.bool a4),(10,.slice none 0 0),(11,.string (bstr ([]:List UInt8))),(12,pt g8 0),(13,.int .i64 s15.1)]→(RSl (rInt .u8) 5 w15 ([g8]++(M)) ao1 cap1 a0)→(Box w15 g8 (cA .u8 65 s15.2))→(GF w15 ([g8]++(M)))→(Chg [] w w15)→(MS ([g8]++(M)) w15)→K14 a w15:=by
    intro a w15 ha f1 hBg8 hG hC hM;refine hK14 _ _ ?_;refine wp_seq_k fun K16 hK16=>?_;obtain ⟨s17,H17,H⟩:=bind_some H;have J17:∀ (a:Act) (w17:World),Has a Tryz.f163.ntmps [(0,.slice ao1 a0.length cap1),(4,.bool a4),(10,.slice none 0 0),(11,.string (bstr ([]:List UInt8))),(12,pt g8 0),(13,.int .i64 s17.1)]→(RSl (rInt .u8) 5 w17 ([g8]++(M)) ao1 cap1 a0)→(Box w17 g8 (cA .u8 65 s17.2))→(GF w17 ([g8]++(M)))→(Chg [] w w17)→(MS ([g8]++(M)) w17)→K16 a w17:=by
     intro a w17 ha f1 hBg8 hG hC hM;refine hK16 _ _ ?_;refine wp_seq_k fun K18 hK18=>?_;refine sqd ha 1 [4] [(94,.bool a4)] fun a ha=>?_;refine cnH H ha (fun hc20 H=>?_) (fun hc20 H=>?_)
     ·exact nomatch (show none=some _ from H)
     ·refine wp_skip ?_;refine hK18 _ _ ?_;refine wsr fun K21 hK21=>?_;refine sd ha 1 [0,11,13,94] [(99,.int .i64 s17.1)] fun a ha=>?_;have fw22:RSl (rInt .u8) 5 w17 (butL g8 w17) (some ⟨g8,0,none⟩) 65 (arL 65 s17.2):=RSl.ofA ([]:List Value) ([]:List Value) (Box.cells hBg8) butL_self (by kernel_rfl) rfl;obtain ⟨⟨hx23,hx23',hx23''⟩,H⟩:=ite_some H;obtain ⟨ao23,cap23,f23,hr23⟩:=slA_run (kk:=.u8) (T:=5) (N:=65) (g:=g8) (o':=0) (xs:=(arL 65 s17.2)) (t:=195) (lo:=(Option.some (Operand.tmp 99))) (hi:=Option.none) (l:=s17.1) (h:=(65:Int)) (dd:=some 100) (ty:=36) (pos := "itoa.go:146") (af:=#[{ on:=0,ground:=Ground.data }]) (gd:=Option.none) ha (by kernel_rfl) (by kernel_rfl) (x:=(Operand.tmp 12)) rfl (arL_length _ _) rfl rfl fw22 hx23 hx23' (by rw [arL_length];exact hx23'');refine hop (v:=.slice ao23 (((arL 65 s17.2).take (Int.toNat (65:Int))).drop (Int.toNat s17.1)).length cap23) (w':=w17) ha rfl rfl rfl (hr23 _) fun a ha=>?_;refine cvs ha rfl (by kernel_rfl) (by kernel_rfl) (by kernel_rfl) rfl rfl rfl f23 fun a ha=>?_;refine sd ha 1 [12,99] [(11,.string (bstr (b2s (((arL 65 s17.2).take (Int.toNat (65:Int))).drop (Int.toNat s17.1)))))] fun a ha=>?_;refine hK21 _ _ ?_;refine wrt ?_;have e_z24:∀ x∈blkL none,w.heap.size≤x:=fun x hx=>Nat.le_trans hC.size ((fun _ h=>nomatch h) x hx);have hM:MS (blkL none++(M)) w17:=(MS.app (fun _ h=>nomatch h) (fun x h=>hM.chg (Chg.refl [] _) x (mr (h))))
      obtain rfl:=oj H;refine rt2 ha rfl rfl rfl ?_;exact ⟨none,0,rfl,Own.nil,e_z24,hC,hM⟩
    have H:=H17;refine sqd ha 1 [3] [(89,.bool a3)] fun a ha=>?_;refine cnH H ha (fun hc26 H=>?_) (fun hc26 H=>?_)
    ·refine sqd ha 3 [89] [(13,.int .i64 (IntKind.i64.wrap (s15.1 - (1:Int))))] fun a ha=>?_;refine wp_region_lit ?_;refine sd ha 1 [] [(92,.int .i64 (IntKind.i64.wrap (s15.1 - (1:Int))))] fun a ha=>?_;obtain ⟨⟨hx28,hx28'⟩,H⟩:=ite_some H;have hi28:(Int.toNat (IntKind.i64.wrap (s15.1 - (1:Int)))) < 65:=by omega
     refine iA 5 65 g8 0 .i64 (IntKind.i64.wrap (s15.1 - (1:Int))) hx28 hx28' ha fun a ha=>?_;refine st (o':=0+(Int.toNat (IntKind.i64.wrap (s15.1 - (1:Int))))) ha rfl rfl rfl (by kernel_rfl) rfl rfl hBg8 (arr_lt (k:=.u8) (m:=65) (x:=s15.2) ([]:List Value) ([]:List Value) (by kernel_rfl) hi28) fun a w29 ha hb2 hc30 _=>?_;have o1:Ok [g8] ([g8]++(M)) w15.heap.size:=(fun _ h=>.inl (ml h))
     have o2:=oR ([g8]++(M)) w15;have hG:=hG.chg hc30 o1 o2;have f1:=f1.chg hc30 o1 o2;have hM:=hM.chg hc30;have hC:=hC.t1 hc30 e_i10;have hBg8:Box w29 g8 (cA .u8 65 ((arL 65 s15.2).set (Int.toNat (IntKind.i64.wrap (s15.1 - (1:Int)))) (45:Int))):=Box.setA (k:=.u8) (m:=65) (x:=s15.2) ([]:List Value) ([]:List Value) hb2 (by kernel_rfl) hi28 (by kernel_rfl);obtain rfl:=oj H;exact J17 _ _ (ha.sel (by kernel_rfl)) f1 hBg8 hG hC hM
    ·refine wp_skip ?_;obtain rfl:=oj H;exact J17 _ _ (ha.sel (by kernel_rfl)) f1 hBg8 hG hC hM
   have H:=H15;refine wsr fun K31 hK31=>?_;refine sd ha 1 [] [(33,.int .i64 a2)] fun a ha=>?_;obtain ⟨t32,H32,H⟩:=bind_some H;refine cL ha (strconv_isPowerOfTwo.walk w13 _ hM a2 _ H32) ?_;rintro _ w32 ⟨rfl,hc32,hMn⟩ a ha;have o1:=oN ([g8]++(M)) w13;have o2:=oR ([g8]++(M)) w13;have hG:=hG.chg hc32 o1 o2;have f1:=f1.chg hc32 o1 o2;have hBg8:=hBg8.c0 hc32;have hM:=hM.chg hc32;have hC:=hC.t0 hc32;refine hK31 _ _ ?_;refine cnH H ha (fun hc33 H=>?_) (fun hc33 H=>?_)
   ·refine wsr fun K34 hK34=>?_;refine sd ha 2 [33] [(36,.int .u64 (IntKind.u64.wrap a2))] fun a ha=>?_;obtain ⟨t35,H35,H⟩:=bind_some H;refine cL ha (bits_TrailingZeros.walk w32 _ hM hG (IntKind.u64.wrap a2) _ H35) ?_;rintro _ w35 ⟨rfl,hc35,hMn⟩ a ha;have o1:=oN ([g8]++(M)) w32;have o2:=oR ([g8]++(M)) w32;have hG:=hG.chg hc35 o1 o2;have f1:=f1.chg hc35 o1 o2;have hBg8:=hBg8.c0 hc35;have hM:=hM.chg hc35;have hC:=hC.t0 hc35;refine sd ha 2 [36] [(14,.int .u64 (IntKind.u64.wrap t35))] fun a ha=>?_;refine hK34 _ _ ?_;refine sqd ha 3 [] [(15,.int .u64 (IntKind.u64.wrap a2))] fun a ha=>?_;refine sqd ha 4 [2] [(16,.int .u64 (IntKind.u64.wrap ((IntKind.u64.wrap a2) - (1:Int))))] fun a ha=>?_;refine wp_seq_k fun K38 hK38=>?_;refine wp_block ?_;obtain ⟨s39,H39,H⟩:=bind_some H;have J39:∀ (a:Act) (wx39:World),Has a Tryz.f163.ntmps [(0,.slice ao1 a0.length cap1),(1,.int .u64 s39.1),(3,.bool a3),(4,.bool a4),(10,.slice none 0 0),(11,.string (bstr ([]:List UInt8))),(12,pt g8 0),(13,.int .i64 s39.2.1)]→(RSl (rInt .u8) 5 wx39 ([g8]++(M)) ao1 cap1 a0)→(Box wx39 g8 (cA .u8 65 s39.2.2))→(GF wx39 ([g8]++(M)))→(Chg [] w wx39)→(MS ([g8]++(M)) wx39)→K38 a wx39:=by
     intro a wx39 ha f1 hBg8 hG hC hM;refine hK38 _ _ ?_;refine sqd ha 3 [] [(13,.int .i64 (IntKind.i64.wrap (s39.2.1 - (1:Int))))] fun a ha=>?_;refine wp_region_lit ?_;refine sd ha 2 [1] [(60,.int .i64 (IntKind.i64.wrap (s39.2.1 - (1:Int)))),(61,.int .u64 s39.1)] fun a ha=>?_;obtain ⟨⟨hx44,hx44'⟩,H⟩:=ite_some H;refine hop (w':=wx39) ha rfl rfl rfl (sidx_run (l:=([48,49,50,51,52,53,54,55,56,57,97,98,99,100,101,102,103,104,105,106,107,108,109,110,111,112,113,114,115,116,117,118,119,120,121,122]:List UInt8)) (k:=.u64) (i:=s39.1) ha (by kernel_rfl) (by rfl) (by rfl) hx44 hx44' _) fun a ha=>?_;obtain ⟨⟨hx45,hx45'⟩,H⟩:=ite_some H;have hi45:(Int.toNat (IntKind.i64.wrap (s39.2.1 - (1:Int)))) < 65:=by omega
     refine iA 5 65 g8 0 .i64 (IntKind.i64.wrap (s39.2.1 - (1:Int))) hx45 hx45' ha fun a ha=>?_;refine st (o':=0+(Int.toNat (IntKind.i64.wrap (s39.2.1 - (1:Int))))) ha rfl rfl rfl (by kernel_rfl) rfl rfl hBg8 (arr_lt (k:=.u8) (m:=65) (x:=s39.2.2) ([]:List Value) ([]:List Value) (by kernel_rfl) hi45) fun a w46 ha hb2 hc47 _=>?_;have o1:Ok [g8] ([g8]++(M)) wx39.heap.size:=(fun _ h=>.inl (ml h))
     have o2:=oR ([g8]++(M)) wx39;have hG:=hG.chg hc47 o1 o2;have f1:=f1.chg hc47 o1 o2;have hM:=hM.chg hc47;have hC:=hC.t1 hc47 e_i10;have hBg8:Box w46 g8 (cA .u8 65 ((arL 65 s39.2.2).set (Int.toNat (IntKind.i64.wrap (s39.2.1 - (1:Int)))) ((([48,49,50,51,52,53,54,55,56,57,97,98,99,100,101,102,103,104,105,106,107,108,109,110,111,112,113,114,115,116,117,118,119,120,121,122]:List UInt8).getD (Int.toNat s39.1) 0).toNat:Int))):=Box.setA (k:=.u8) (m:=65) (x:=s39.2.2) ([]:List Value) ([]:List Value) hb2 (by kernel_rfl) hi45 (by kernel_rfl);obtain rfl:=oj H;exact J15 _ _ (ha.sel (by kernel_rfl)) f1 hBg8 hG hC hM
    have Hc39:=H;have H:=H39;refine wp_loop_ghost (fun kk a w39=>∃ (x40:Int) (x41:Int) (x42:List Int),strconv_formatBits.l0 a2 t35 kk x40 x41 x42=some s39∧Has a Tryz.f163.ntmps [(0,.slice ao1 a0.length cap1),(1,.int .u64 x40),(3,.bool a3),(4,.bool a4),(10,.slice none 0 0),(11,.string (bstr ([]:List UInt8))),(12,pt g8 0),(13,.int .i64 x41),(14,.int .u64 (IntKind.u64.wrap t35)),(15,.int .u64 (IntKind.u64.wrap a2)),(16,.int .u64 (IntKind.u64.wrap ((IntKind.u64.wrap a2) - (1:Int))))]∧(RSl (rInt .u8) 5 w39 ([g8]++(M)) ao1 cap1 a0)∧(Box w39 g8 (cA .u8 65 x42))∧(GF w39 ([g8]++(M)))∧(Chg [] w w39)∧(MS ([g8]++(M)) w39)) k ?_ ?_
    ·skip;exact ⟨s13,(65:Int),(List.replicate 65 (0:Int)),H,(ha.sel (by kernel_rfl)),f1,hBg8,hG,hC,hM⟩
    ·rintro kk a w39 ⟨x40,x41,x42,H,ha,f1,hBg8,hG,hC,hM⟩;obtain _ | kk:=kk
     ·exact nomatch (show none=some _ from H)
     rw [strconv_formatBits.l0] at H;refine wp_seq_k fun K48 hK48=>?_;refine sqd ha 3 [] [(46,.bool (decide (x40 ≥ (IntKind.u64.wrap a2))))] fun a ha=>?_;refine cnH H ha (fun hc50 H=>?_) (fun hc50 H=>?_)
     ·refine wp_skip ?_;refine hK48 _ _ ?_;refine wp_block ?_;refine sqd ha 3 [46] [(13,.int .i64 (IntKind.i64.wrap (x41 - (1:Int))))] fun a ha=>?_;refine wsr fun K52 hK52=>?_;refine sd ha 4 [] [(49,.int .i64 (IntKind.i64.wrap (x41 - (1:Int)))),(52,.int .u64 (IntKind.u64.wrap (BitVec.ofInt IntKind.u64.bits x40 &&& BitVec.ofInt IntKind.u64.bits (IntKind.u64.wrap ((IntKind.u64.wrap a2) - (1:Int)))).toNat))] fun a ha=>?_;obtain ⟨⟨hx53,hx53'⟩,H⟩:=ite_some H;refine hop (w':=w39) ha rfl rfl rfl (sidx_run (l:=([48,49,50,51,52,53,54,55,56,57,97,98,99,100,101,102,103,104,105,106,107,108,109,110,111,112,113,114,115,116,117,118,119,120,121,122]:List UInt8)) (k:=.u64) (i:=IntKind.u64.wrap (BitVec.ofInt IntKind.u64.bits x40 &&& BitVec.ofInt IntKind.u64.bits (IntKind.u64.wrap ((IntKind.u64.wrap a2) - (1:Int)))).toNat) ha (by kernel_rfl) (by rfl) (by rfl) hx53 hx53' _) fun a ha=>?_;obtain ⟨⟨hx54,hx54'⟩,H⟩:=ite_some H;have hi54:(Int.toNat (IntKind.i64.wrap (x41 - (1:Int)))) < 65:=by omega
      refine iA 5 65 g8 0 .i64 (IntKind.i64.wrap (x41 - (1:Int))) hx54 hx54' ha fun a ha=>?_;refine st (o':=0+(Int.toNat (IntKind.i64.wrap (x41 - (1:Int))))) ha rfl rfl rfl (by kernel_rfl) rfl rfl hBg8 (arr_lt (k:=.u8) (m:=65) (x:=x42) ([]:List Value) ([]:List Value) (by kernel_rfl) hi54) fun a w55 ha hb2 hc56 _=>?_;have o1:Ok [g8] ([g8]++(M)) w39.heap.size:=(fun _ h=>.inl (ml h))
      have o2:=oR ([g8]++(M)) w39;have hG:=hG.chg hc56 o1 o2;have f1:=f1.chg hc56 o1 o2;have hM:=hM.chg hc56;have hC:=hC.t1 hc56 e_i10;have hBg8:Box w55 g8 (cA .u8 65 ((arL 65 x42).set (Int.toNat (IntKind.i64.wrap (x41 - (1:Int)))) ((([48,49,50,51,52,53,54,55,56,57,97,98,99,100,101,102,103,104,105,106,107,108,109,110,111,112,113,114,115,116,117,118,119,120,121,122]:List UInt8).getD (Int.toNat (IntKind.u64.wrap (BitVec.ofInt IntKind.u64.bits x40 &&& BitVec.ofInt IntKind.u64.bits (IntKind.u64.wrap ((IntKind.u64.wrap a2) - (1:Int)))).toNat)) 0).toNat:Int))):=Box.setA (k:=.u8) (m:=65) (x:=x42) ([]:List Value) ([]:List Value) hb2 (by kernel_rfl) hi54 (by kernel_rfl);refine hK52 _ _ ?_;refine wp_region_lit ?_;refine sd ha 2 [1,49,52] [(55,.int .u64 x40),(56,.int .u64 (IntKind.u64.wrap t35))] fun a ha=>?_;obtain ⟨hx57,H⟩:=ite_some H;refine hop (v:=.int .u64 (Int.fdiv x40 (2^(min (Int.toNat (IntKind.u64.wrap t35)) IntKind.u64.bits)))) (w':=w55) ha rfl rfl rfl (shr_run ha (by rfl) (by rfl) hx57 _) fun a ha=>?_;refine sd ha 1 [55,56] [(1,.int .u64 (Int.fdiv x40 (2^(min (Int.toNat (IntKind.u64.wrap t35)) IntKind.u64.bits))))] fun a ha=>?_;exact ⟨kk,Nat.lt_succ_self _,⟨Int.fdiv x40 (2^(min (Int.toNat (IntKind.u64.wrap t35)) IntKind.u64.bits)),IntKind.i64.wrap (x41 - (1:Int)),((arL 65 x42).set (Int.toNat (IntKind.i64.wrap (x41 - (1:Int)))) ((([48,49,50,51,52,53,54,55,56,57,97,98,99,100,101,102,103,104,105,106,107,108,109,110,111,112,113,114,115,116,117,118,119,120,121,122]:List UInt8).getD (Int.toNat (IntKind.u64.wrap (BitVec.ofInt IntKind.u64.bits x40 &&& BitVec.ofInt IntKind.u64.bits (IntKind.u64.wrap ((IntKind.u64.wrap a2) - (1:Int)))).toNat)) 0).toNat:Int)),H,(ha.sel (by kernel_rfl)),f1,hBg8,hG,hC,hM⟩⟩
     ·refine wx ?_;obtain rfl:=oj H;exact J39 _ _ (ha.sel (by kernel_rfl)) f1 hBg8 hG hC hM
   ·refine sqd ha 3 [2,33] [(17,.int .u64 (IntKind.u64.wrap a2))] fun a ha=>?_;refine wp_seq_k fun K59 hK59=>?_;refine wp_block ?_;obtain ⟨s60,H60,H⟩:=bind_some H;have J60:∀ (a:Act) (wx60:World),Has a Tryz.f163.ntmps [(0,.slice ao1 a0.length cap1),(1,.int .u64 s60.1),(3,.bool a3),(4,.bool a4),(10,.slice none 0 0),(11,.string (bstr ([]:List UInt8))),(12,pt g8 0),(13,.int .i64 s60.2.1)]→(RSl (rInt .u8) 5 wx60 ([g8]++(M)) ao1 cap1 a0)→(Box wx60 g8 (cA .u8 65 s60.2.2))→(GF wx60 ([g8]++(M)))→(Chg [] w wx60)→(MS ([g8]++(M)) wx60)→K59 a wx60:=by
     intro a wx60 ha f1 hBg8 hG hC hM;refine hK59 _ _ ?_;refine sqd ha 3 [] [(13,.int .i64 (IntKind.i64.wrap (s60.2.1 - (1:Int))))] fun a ha=>?_;refine wp_region_lit ?_;refine sd ha 2 [1] [(85,.int .i64 (IntKind.i64.wrap (s60.2.1 - (1:Int)))),(86,.int .u64 s60.1)] fun a ha=>?_;obtain ⟨⟨hx65,hx65'⟩,H⟩:=ite_some H;refine hop (w':=wx60) ha rfl rfl rfl (sidx_run (l:=([48,49,50,51,52,53,54,55,56,57,97,98,99,100,101,102,103,104,105,106,107,108,109,110,111,112,113,114,115,116,117,118,119,120,121,122]:List UInt8)) (k:=.u64) (i:=s60.1) ha (by kernel_rfl) (by rfl) (by rfl) hx65 hx65' _) fun a ha=>?_;obtain ⟨⟨hx66,hx66'⟩,H⟩:=ite_some H;have hi66:(Int.toNat (IntKind.i64.wrap (s60.2.1 - (1:Int)))) < 65:=by omega
     refine iA 5 65 g8 0 .i64 (IntKind.i64.wrap (s60.2.1 - (1:Int))) hx66 hx66' ha fun a ha=>?_;refine st (o':=0+(Int.toNat (IntKind.i64.wrap (s60.2.1 - (1:Int))))) ha rfl rfl rfl (by kernel_rfl) rfl rfl hBg8 (arr_lt (k:=.u8) (m:=65) (x:=s60.2.2) ([]:List Value) ([]:List Value) (by kernel_rfl) hi66) fun a w67 ha hb2 hc68 _=>?_;have o1:Ok [g8] ([g8]++(M)) wx60.heap.size:=(fun _ h=>.inl (ml h))
     have o2:=oR ([g8]++(M)) wx60;have hG:=hG.chg hc68 o1 o2;have f1:=f1.chg hc68 o1 o2;have hM:=hM.chg hc68;have hC:=hC.t1 hc68 e_i10;have hBg8:Box w67 g8 (cA .u8 65 ((arL 65 s60.2.2).set (Int.toNat (IntKind.i64.wrap (s60.2.1 - (1:Int)))) ((([48,49,50,51,52,53,54,55,56,57,97,98,99,100,101,102,103,104,105,106,107,108,109,110,111,112,113,114,115,116,117,118,119,120,121,122]:List UInt8).getD (Int.toNat s60.1) 0).toNat:Int))):=Box.setA (k:=.u8) (m:=65) (x:=s60.2.2) ([]:List Value) ([]:List Value) hb2 (by kernel_rfl) hi66 (by kernel_rfl);obtain rfl:=oj H;exact J15 _ _ (ha.sel (by kernel_rfl)) f1 hBg8 hG hC hM
    have Hc60:=H;have H:=H60;refine wp_loop_ghost (fun kk a w60=>∃ (x61:Int) (x62:Int) (x63:List Int),strconv_formatBits.l1 a2 kk x61 x62 x63=some s60∧Has a Tryz.f163.ntmps [(0,.slice ao1 a0.length cap1),(1,.int .u64 x61),(3,.bool a3),(4,.bool a4),(10,.slice none 0 0),(11,.string (bstr ([]:List UInt8))),(12,pt g8 0),(13,.int .i64 x62),(17,.int .u64 (IntKind.u64.wrap a2))]∧(RSl (rInt .u8) 5 w60 ([g8]++(M)) ao1 cap1 a0)∧(Box w60 g8 (cA .u8 65 x63))∧(GF w60 ([g8]++(M)))∧(Chg [] w w60)∧(MS ([g8]++(M)) w60)) k ?_ ?_
    ·skip;exact ⟨s13,(65:Int),(List.replicate 65 (0:Int)),H,(ha.sel (by kernel_rfl)),f1,hBg8,hG,hC,hM⟩
    ·rintro kk a w60 ⟨x61,x62,x63,H,ha,f1,hBg8,hG,hC,hM⟩;obtain _ | kk:=kk
     ·exact nomatch (show none=some _ from H)
     rw [strconv_formatBits.l1] at H;refine wp_seq_k fun K69 hK69=>?_;refine sqd ha 3 [] [(68,.bool (decide (x61 ≥ (IntKind.u64.wrap a2))))] fun a ha=>?_;refine cnH H ha (fun hc71 H=>?_) (fun hc71 H=>?_)
     ·refine wp_skip ?_;refine hK69 _ _ ?_;refine wp_block ?_;refine sqd ha 3 [68] [(13,.int .i64 (IntKind.i64.wrap (x62 - (1:Int))))] fun a ha=>?_;refine wsr fun K73 hK73=>?_;refine sd ha 2 [] [(71,.int .u64 x61),(72,.int .u64 (IntKind.u64.wrap a2))] fun a ha=>?_;obtain ⟨hx74,H⟩:=ite_some H;refine hop (v:=.int .u64 (IntKind.u64.wrap (Int.tdiv x61 (IntKind.u64.wrap a2)))) (w':=w60) ha rfl rfl rfl (quo_run ha (by rfl) (by rfl) hx74 _) fun a ha=>?_;refine sd ha 1 [71,72] [(18,.int .u64 (IntKind.u64.wrap (Int.tdiv x61 (IntKind.u64.wrap a2))))] fun a ha=>?_;refine hK73 _ _ ?_;refine wsr fun K75 hK75=>?_;refine sd ha 6 [1] [(74,.int .i64 (IntKind.i64.wrap (x62 - (1:Int)))),(79,.int .u64 (IntKind.u64.wrap (x61 - (IntKind.u64.wrap ((IntKind.u64.wrap (Int.tdiv x61 (IntKind.u64.wrap a2)))*(IntKind.u64.wrap a2))))))] fun a ha=>?_;obtain ⟨⟨hx76,hx76'⟩,H⟩:=ite_some H;refine hop (w':=w60) ha rfl rfl rfl (sidx_run (l:=([48,49,50,51,52,53,54,55,56,57,97,98,99,100,101,102,103,104,105,106,107,108,109,110,111,112,113,114,115,116,117,118,119,120,121,122]:List UInt8)) (k:=.u64) (i:=IntKind.u64.wrap (x61 - (IntKind.u64.wrap ((IntKind.u64.wrap (Int.tdiv x61 (IntKind.u64.wrap a2)))*(IntKind.u64.wrap a2))))) ha (by kernel_rfl) (by rfl) (by rfl) hx76 hx76' _) fun a ha=>?_;obtain ⟨⟨hx77,hx77'⟩,H⟩:=ite_some H;have hi77:(Int.toNat (IntKind.i64.wrap (x62 - (1:Int)))) < 65:=by omega
      refine iA 5 65 g8 0 .i64 (IntKind.i64.wrap (x62 - (1:Int))) hx77 hx77' ha fun a ha=>?_;refine st (o':=0+(Int.toNat (IntKind.i64.wrap (x62 - (1:Int))))) ha rfl rfl rfl (by kernel_rfl) rfl rfl hBg8 (arr_lt (k:=.u8) (m:=65) (x:=x63) ([]:List Value) ([]:List Value) (by kernel_rfl) hi77) fun a w78 ha hb2 hc79 _=>?_;have o1:Ok [g8] ([g8]++(M)) w60.heap.size:=(fun _ h=>.inl (ml h))
      have o2:=oR ([g8]++(M)) w60;have hG:=hG.chg hc79 o1 o2;have f1:=f1.chg hc79 o1 o2;have hM:=hM.chg hc79;have hC:=hC.t1 hc79 e_i10;have hBg8:Box w78 g8 (cA .u8 65 ((arL 65 x63).set (Int.toNat (IntKind.i64.wrap (x62 - (1:Int)))) ((([48,49,50,51,52,53,54,55,56,57,97,98,99,100,101,102,103,104,105,106,107,108,109,110,111,112,113,114,115,116,117,118,119,120,121,122]:List UInt8).getD (Int.toNat (IntKind.u64.wrap (x61 - (IntKind.u64.wrap ((IntKind.u64.wrap (Int.tdiv x61 (IntKind.u64.wrap a2)))*(IntKind.u64.wrap a2)))))) 0).toNat:Int))):=Box.setA (k:=.u8) (m:=65) (x:=x63) ([]:List Value) ([]:List Value) hb2 (by kernel_rfl) hi77 (by kernel_rfl);refine hK75 _ _ ?_;refine wp_region_lit ?_;refine sd ha 2 [18,74,79] [(1,.int .u64 (IntKind.u64.wrap (Int.tdiv x61 (IntKind.u64.wrap a2))))] fun a ha=>?_;exact ⟨kk,Nat.lt_succ_self _,⟨IntKind.u64.wrap (Int.tdiv x61 (IntKind.u64.wrap a2)),IntKind.i64.wrap (x62 - (1:Int)),((arL 65 x63).set (Int.toNat (IntKind.i64.wrap (x62 - (1:Int)))) ((([48,49,50,51,52,53,54,55,56,57,97,98,99,100,101,102,103,104,105,106,107,108,109,110,111,112,113,114,115,116,117,118,119,120,121,122]:List UInt8).getD (Int.toNat (IntKind.u64.wrap (x61 - (IntKind.u64.wrap ((IntKind.u64.wrap (Int.tdiv x61 (IntKind.u64.wrap a2)))*(IntKind.u64.wrap a2)))))) 0).toNat:Int)),H,(ha.sel (by kernel_rfl)),f1,hBg8,hG,hC,hM⟩⟩
     ·refine wx ?_;obtain rfl:=oj H;exact J60 _ _ (ha.sel (by kernel_rfl)) f1 hBg8 hG hC hM
  have H:=H13;refine sqd ha 1 [] [(30,.bool a3)] fun a ha=>?_;refine cnH H ha (fun hc81 H=>?_) (fun hc81 H=>?_)
  ·refine wp_region_lit ?_;refine sd ha 3 [30] [(1,.int .u64 (IntKind.u64.wrap (0 - a1)))] fun a ha=>?_;obtain rfl:=oj H;exact J13 _ _ (ha.sel (by kernel_rfl)) f1 hBg8 hG hC hM
  ·refine wp_skip ?_;obtain rfl:=oj H;exact J13 _ _ (ha.sel (by kernel_rfl)) f1 hBg8 hG hC hM
def strconv_FormatInt.f (k:Nat) (a0:Int) (a1:Int):Option (List UInt8):=(if (a1==(10:Int))=true then (if (if (decide ((0:Int)≤a0))=true then (decide (a0 < (100:Int))) else false)=true then (strconv_small.f a0).bind fun t9=>some ((t9:List UInt8)) else none) else (strconv_formatBits.f k ([]:List Int) (IntKind.u64.wrap a0) a1 (decide (a0 < (0:Int))) false).bind fun t11=>some ((t11.2:List UInt8)))
set_option maxRecDepth 100000 in
theorem strconv_FormatInt.walk (w:World) (M:List Nat) (hM:MS M w) (hG:GF w M) (a0:Int) (a1:Int) (k:Nat) (r:List UInt8) (H:strconv_FormatInt.f k a0 a1=some r) :
    To Tryz.prog 137 [.int .i64 a0,.int .i64 a1] w fun v w'=>v=.string (bstr r)∧Chg [] w w'∧MS (M) w':=by
 unfold strconv_FormatInt.f at H;refine ent Tryz.func137 rfl [(0,.int .i64 a0),(1,.int .i64 a1)] rfl (by rfl) fun a ha=>?_;have hC:Chg [] w w:=Chg.refl _ _;refine sqd ha 1 [] [] fun a ha=>?_;refine wp_seq_k fun K2 hK2=>?_;refine sqd ha 2 [] [(11,.bool (a1==(10:Int)))] fun a ha=>?_;refine cnH H ha (fun hc4 H=>?_) (fun hc4 H=>?_)
 ·refine wp_seq_k fun K5 hK5=>?_;refine sqd ha 6 [1,11] [(17,.bool (if (decide ((0:Int)≤a0))=true then (decide (a0 < (100:Int))) else false))] fun a ha=>?_;refine cnH H ha (fun hc7 H=>?_) (fun hc7 H=>?_)
  ·refine wsr fun K8 hK8=>?_;refine sf ha 1 [(18,.int .i64 a0)] fun a ha=>?_;obtain ⟨t9,H9,H⟩:=bind_some H;refine cL ha (strconv_small.walk w _ hM a0 _ H9) ?_;rintro _ w9 ⟨rfl,hc9,hMn⟩ a ha;have hM:=hM.chg hc9;have hC:=hC.t0 hc9;refine sf ha 1 [(4,.string (bstr t9))] fun a ha=>?_;refine hK8 _ _ ?_;refine wrt ?_;obtain rfl:=oj H;refine rt1 ha rfl rfl ?_;exact ⟨rfl,hC,hM⟩
  ·exact nomatch (show none=some _ from H)
 ·refine wp_skip ?_;refine hK2 _ _ ?_;refine wsr fun K10 hK10=>?_;refine sf ha 5 [(46,.int .u64 (IntKind.u64.wrap a0)),(47,.int .i64 a1),(49,.bool (decide (a0 < (0:Int))))] fun a ha=>?_;obtain ⟨t11,H11,H⟩:=bind_some H;refine cL ha (strconv_formatBits.walk w _ hM hG ([]:List Int) none 0 (RSl.nil (Nat.zero_le _)) (IntKind.u64.wrap a0) a1 (decide (a0 < (0:Int))) false k _ H11) ?_;rintro _ w11 ⟨ao12,cap12,rfl,f12,ne_i12,hc11,hMn⟩ a ha;have hM:MS (blkL ao12++(M)) w11:=(MS.app (fun x h=>hMn x (ml h)) (hM.chg hc11))
  have hC:=hC.t0 hc11;refine sf ha 5 [(9,.string (bstr t11.2))] fun a ha=>?_;refine hK10 _ _ ?_;refine sq ha 2 [(4,.string (bstr t11.2))] fun a ha=>?_;refine wrt ?_;have hM:MS M w11:=hM.sb fun _ h=>mr (h);obtain rfl:=oj H;refine rt1 ha rfl rfl ?_;exact ⟨rfl,hC,hM⟩
def strconv_FormatInt_159.f (k:Nat) (a0:Int) (a1:Int):Option (List UInt8):=(strconv_FormatInt.f k a0 a1).bind fun t3=>some ((t3:List UInt8))
set_option maxRecDepth 100000 in
theorem strconv_FormatInt_159.walk (w:World) (M:List Nat) (hM:MS M w) (hG:GF w M) (a0:Int) (a1:Int) (k:Nat) (r:List UInt8) (H:strconv_FormatInt_159.f k a0 a1=some r) :
    To Tryz.prog 159 [.int .i64 a0,.int .i64 a1] w fun v w'=>v=.string (bstr r)∧Chg [] w w'∧MS (M) w':=by
 unfold strconv_FormatInt_159.f at H;refine ent Tryz.func159 rfl [(0,.int .i64 a0),(1,.int .i64 a1)] rfl (by rfl) fun a ha=>?_;have hC:Chg [] w w:=Chg.refl _ _;refine sqd ha 1 [] [] fun a ha=>?_;refine wsr fun K2 hK2=>?_;refine sf ha 2 [(5,.int .i64 a0),(6,.int .i64 a1)] fun a ha=>?_;obtain ⟨t3,H3,H⟩:=bind_some H;refine cL ha (strconv_FormatInt.walk w _ hM hG a0 a1 k _ H3) ?_;rintro _ w3 ⟨rfl,hc3,hMn⟩ a ha;have hM:=hM.chg hc3;have hC:=hC.t0 hc3;refine sf ha 1 [(4,.string (bstr t3))] fun a ha=>?_;refine hK2 _ _ ?_;refine wrt ?_;obtain rfl:=oj H;refine rt1 ha rfl rfl ?_;exact ⟨rfl,hC,hM⟩
def addr_written.l0 (k:Nat) (a0:List Int):Nat→(List (List UInt8))→Int→Option (List (List UInt8))
  | 0,_,_=>none
  | kk+1,x8,x9=>(if (decide (x9 < (a0.length:Int)))=true then (if 0≤x9∧x9 < (a0.length:Int) then (strconv_FormatInt_159.f k (rd a0 x9) (16:Int)).bind fun t26=>(if (x8.length+([t26]:List (List UInt8)).length)*16≤140737488355328 then addr_written.l0 k a0 kk (x8++([t26]:List (List UInt8))) (IntKind.i64.wrap (x9+(1:Int))) else none) else none) else some (x8:List (List UInt8)))
def addr_written.f (k:Nat) (a0:List Int):Option (List UInt8):=(addr_written.l0 k a0 k ([]:List (List UInt8)) (0:Int)).bind fun s6=>(strings_Join.f s6 ([58]:List UInt8)).bind fun t12=>some ((t12:List UInt8))
set_option maxRecDepth 100000 in
theorem addr_written.walk (w:World) (M:List Nat) (hM:MS M w) (hG:GF w M) (a0:List Int) (ao1:Option Addr) (cap1:Nat) (f1:RSl (rInt .i64) 3 w M ao1 cap1 a0) (k:Nat) (r:List UInt8) (H:addr_written.f k a0=some r) :
    To Tryz.prog 136 [.slice ao1 a0.length cap1] w fun v w'=>v=.string (bstr r)∧Chg [] w w'∧MS (M) w':=by
 unfold addr_written.f at H;refine ent Tryz.func136 rfl [(0,.slice ao1 a0.length cap1)] rfl (by rfl) fun a ha=>?_;have hC:Chg [] w w:=Chg.refl _ _;refine sqd ha 1 [] [] fun a ha=>?_;refine sqd ha 1 [] [(3,.slice none 0 0)] fun a ha=>?_;refine wp_seq_k fun K4 hK4=>?_;refine sqd ha 3 [0] [(6,.slice ao1 a0.length cap1),(7,.int .i64 (a0.length:Int)),(8,.int .i64 0)] fun a ha=>?_;refine wp_block ?_;obtain ⟨s6,H6,H⟩:=bind_some H;have J6:∀ (a:Act) (wx6:World) (ao10:Option Addr) (cap10:Nat),Has a Tryz.f136.ntmps [(3,.slice ao10 s6.length cap10)]→(Own rStr 9 wx6 (blkL ao10++(M)) ao10 cap10 s6)→(∀ x∈blkL ao10,w.heap.size≤x)→(∀ x∈blkL ao10,x∉M)→(GF wx6 (blkL ao10++(M)))→(Chg [] w wx6)→(MS (blkL ao10++(M)) wx6)→K4 a wx6:=by
  intro a wx6 ao10 cap10 ha f10 e_i10 p_i10_M hG hC hM;refine hK4 _ _ ?_;refine wsr fun K11 hK11=>?_;refine sf ha 1 [(18,.slice ao10 s6.length cap10)] fun a ha=>?_;have hML:MS (M) wx6:=MS.rest hM (fun _ h=>mr (h));have oL:Ok (M) (blkL ao10++(M)) wx6.heap.size:=(fun _ h=>.inl (mr (h)))
  obtain ⟨t12,H12,H⟩:=bind_some H;refine cL ha (strings_Join.walk wx6 _ hML s6 ao10 cap10 (Own.toRSl (M':=M) f10 oL (fun x hx hm=>p_i10_M x hx hm)) ([58]:List UInt8) _ H12) ?_;rintro _ w12 ⟨rfl,hc12,hMn⟩ a ha;have hM:=hM.chg hc12;have hC:=hC.t0 hc12;refine sf ha 1 [(2,.string (bstr t12))] fun a ha=>?_;refine hK11 _ _ ?_;refine wrt ?_;have hM:MS M w12:=hM.sb fun _ h=>mr (h);obtain rfl:=oj H;refine rt1 ha rfl rfl ?_;exact ⟨rfl,hC,hM⟩
 have Hc6:=H;have H:=H6;refine wp_loop_ghost (fun kk a w6=>∃ (x8:List (List UInt8)) (x9:Int) (ao7:Option Addr) (cap7:Nat),addr_written.l0 k a0 kk x8 x9=some s6∧Has a Tryz.f136.ntmps [(3,.slice ao7 x8.length cap7),(6,.slice ao1 a0.length cap1),(7,.int .i64 (a0.length:Int)),(8,.int .i64 x9)]∧(Own rStr 9 w6 (blkL ao7++(M)) ao7 cap7 x8)∧(RSl (rInt .i64) 3 w6 (blkL ao7++(M)) ao1 cap1 a0)∧(∀ x∈blkL ao7,w.heap.size≤x)∧(∀ x∈blkL ao7,x∉M)∧(GF w6 (blkL ao7++(M)))∧(Chg [] w w6)∧(MS (blkL ao7++(M)) w6)) k ?_ ?_
 ·skip;have o1:=oN M w;have o2:Ok (blkL none++(M)) (M) w.heap.size:=(Ok.app (fun _ h=>nomatch h) (Ok.refl _ _))
  have hG:=hG.chg (Chg.refl [] _) o1 o2;have f1:=f1.chg (Chg.refl [] _) o1 o2;have p_z13_M:∀ x∈blkL none,x∉M:=fun x hx hy=>absurd (hM x (hy)) (Nat.not_lt.2 ((fun _ h=>nomatch h) x hx));have e_z13:∀ x∈blkL none,w.heap.size≤x:=fun x hx=>Nat.le_trans hC.size ((fun _ h=>nomatch h) x hx);have hM:MS (blkL none++(M)) w:=(MS.app (fun _ h=>nomatch h) (hM.chg (Chg.refl [] _)))
  exact ⟨([]:List (List UInt8)),(0:Int),none,0,H,(ha.sel (by kernel_rfl)),Own.nil,f1,e_z13,p_z13_M,hG,hC,hM⟩
 ·rintro kk a w6 ⟨x8,x9,ao7,cap7,H,ha,f7,f1,e_i7,p_i7_M,hG,hC,hM⟩;obtain _ | kk:=kk
  ·exact nomatch (show none=some _ from H)
  rw [addr_written.l0] at H;refine sqd ha 1 [] [(9,.bool (decide (x9 < (a0.length:Int))))] fun a ha=>?_;refine wp_seq_k fun K15 hK15=>?_;refine cnH H ha (fun hc16 H=>?_) (fun hc16 H=>?_)
  ·refine wp_skip ?_;refine hK15 _ _ ?_;refine wp_seq_k fun K17 hK17=>?_;refine wp_block ?_;refine wsr fun K18 hK18=>?_;obtain ⟨⟨hx19,hx19'⟩,H⟩:=ite_some H;refine ix (r:=(rInt .i64)) ha (by kernel_rfl) (by kernel_rfl) rfl rfl rfl rfl rfl f1 hx19 hx19' fun a ge20 oe21 cs22 hn25 hR23 hE24 ha=>?_;rw [rd_get] at hR23;obtain rfl:=hR23;have hE24:Cs w6 ge20 oe21 ([.int .i64 (rd a0 x9)]:List Value):=hE24;refine ld ha rfl (by kernel_rfl) rfl rfl rfl (hE24 0 (.int .i64 (rd a0 x9)) (by kernel_rfl)) fun a ha=>?_;refine sd ha 1 [9] [(5,.int .i64 (rd a0 x9))] fun a ha=>?_;refine hK18 _ _ ?_;refine wp_region_lit ?_;refine sd ha 2 [3,5] [(12,.slice ao7 x8.length cap7),(13,.int .i64 (rd a0 x9))] fun a ha=>?_;obtain ⟨t26,H26,H⟩:=bind_some H;refine cL ha (strconv_FormatInt_159.walk w6 _ hM hG (rd a0 x9) (16:Int) k _ H26) ?_;rintro _ w26 ⟨rfl,hc26,hMn⟩ a ha;have o1:=oN (blkL ao7++(M)) w6;have o2:=oR (blkL ao7++(M)) w6;have hG:=hG.chg hc26 o1 o2;have f1:=f1.chg hc26 o1 o2;have f7:=f7.chg hc26 o1 o2 (fun _ _ h=>nomatch h) (fun _ h=>ml h);have hM:=hM.chg hc26;have hC:=hC.t0 hc26;refine bsl (vals:=([.string (bstr t26)]:List Value)) (T:=9) ha rfl (([.string (bstr t26)]:List Value)++([]:List Value)) (fun w=>by kernel_rfl) rfl rfl rfl fun a w27 g28 hN29 ha=>?_;have o1:=oN (blkL ao7++(M)) w26;have o2:=oA hN29 (blkL ao7++(M));have hG:=hG.chg hN29.chg o1 o2;have f1:=f1.chg hN29.chg o1 o2;have f7:=f7.chg hN29.chg o1 o2 (fun _ _ h=>nomatch h) (fun _ h=>mr (ml h));have hM:=MS.app hN29.ms (hM.chg hN29.chg);have hC:=hC.t0 hN29.chg;have f31:Own rStr 9 w27 ([g28]++(blkL ao7++(M))) (some ⟨g28,0,none⟩) 1 ([t26]:List (List UInt8)):=hN29.own ⟨([.string (bstr t26)]:List Value),_,rfl,rfl,rfl⟩ (Nat.le_of_ble_eq_true rfl);obtain ⟨hx32,H⟩:=ite_some H;refine app (r:=rStr) (xs:=x8) (ys:=([t26]:List (List UInt8))) ha (ElemT.mk' (bytes:=16) (by kernel_rfl)) rfl rfl rfl rfl rfl f7 f31.src hx32 (by decide) fun a w33 ao34 cap34 hO34 hc34 hk34 hl34 ha=>?_;have o1:Ok (blkL ao7) ([g28]++(blkL ao7++(M))) w27.heap.size:=(fun _ h=>.inl (mr (ml h)))
   have o2:Ok (blkL ao34++([g28]++(M))) ([g28]++(blkL ao7++(M))) w27.heap.size:=(Ok.app (Ok.to hk34 (fun _ h=>mr (ml h))) (Ok.app (fun _ h=>.inl (ml h)) (fun _ h=>.inl (mr (mr (h))))))
   have hG:=hG.chg hc34 o1 o2;have f1:=f1.chg hc34 o1 o2;have p_i34_M:=pf (B:=M) hk34 p_i7_M hM fun _ hy=>mr (mr (hy));have e_i34:=ef hk34 e_i7 hC;have hM:MS (blkL ao34++([g28]++(M))) w33:=(MS.app hl34 (MS.app (fun x h=>hM.chg hc34 x (ml h)) (fun x h=>hM.chg hc34 x (mr (mr (h))))))
   have hC:=hC.t1 hc34 e_i7;have f34:=hO34.chg (M':=blkL ao34++([g28]++(M))) (Chg.refl [] _) (Ok.nil _ _) (Ok.app (fun _ h=>.inl (ml h)) (Ok.to (Ok.app (fun _ h=>.inl (ml h)) (fun _ h=>.inl (mr (mr (h))))) (fun _ h=>mr h))) (fun _ _ h=>nomatch h) (fun _ h=>ml h);refine sd ha 1 [12,13] [(3,.slice ao34 (x8++([t26]:List (List UInt8))).length cap34)] fun a ha=>?_;refine hK17 _ _ ?_;refine wp_region_lit ?_;refine sd ha 2 [] [(8,.int .i64 (IntKind.i64.wrap (x9+(1:Int))))] fun a ha=>?_;have o1:=oN (blkL ao34++([g28]++(M))) w33;have o2:Ok (blkL ao34++(M)) (blkL ao34++([g28]++(M))) w33.heap.size:=(Ok.app (fun _ h=>.inl (ml h)) (fun _ h=>.inl (mr (mr (h)))))
   have hG:=hG.chg (Chg.refl [] _) o1 o2;have f1:=f1.chg (Chg.refl [] _) o1 o2;have f34:=f34.chg (Chg.refl [] _) o1 o2 (fun _ _ h=>nomatch h) (fun _ h=>ml h);have hM:MS (blkL ao34++(M)) w33:=(MS.app (fun x h=>hM.chg (Chg.refl [] _) x (ml h)) (fun x h=>hM.chg (Chg.refl [] _) x (mr (mr (h)))))
   exact ⟨kk,Nat.lt_succ_self _,⟨(x8++([t26]:List (List UInt8))),IntKind.i64.wrap (x9+(1:Int)),ao34,cap34,H,(ha.sel (by kernel_rfl)),f34,f1,e_i34,p_i34_M,hG,hC,hM⟩⟩
  ·refine wx ?_;obtain rfl:=oj H;exact J6 _ _ ao7 cap7 (ha.sel (by kernel_rfl)) f7 e_i7 p_i7_M hG hC hM
def addr_text6.f (k:Nat) (a0:S_api_Addr):Option (List UInt8):=(addr_numbers.f k a0).bind fun t8=>(addr_gap.f k t8).bind fun t16=>(if (decide (t16.2 < (2:Int)))=true then (addr_written.f k (arL 8 t8)).bind fun t22=>some ((t22:List UInt8)) else (if 0≤(0:Int)∧(0:Int)≤t16.1∧t16.1≤(8:Int) then (addr_written.f k (((arL 8 t8).take (Int.toNat t16.1)).drop (Int.toNat (0:Int)))).bind fun t26=>(if (t26++([58,58]:List UInt8)).length≤9223372036854775807 then (if 0≤(IntKind.i64.wrap (t16.1+t16.2))∧(IntKind.i64.wrap (t16.1+t16.2))≤(8:Int)∧(8:Int)≤(8:Int) then (addr_written.f k (((arL 8 t8).take (Int.toNat (8:Int))).drop (Int.toNat (IntKind.i64.wrap (t16.1+t16.2))))).bind fun t30=>(if ((t26++([58,58]:List UInt8))++t30).length≤9223372036854775807 then some (((t26++([58,58]:List UInt8))++t30:List UInt8)) else none) else none) else none) else none))
set_option maxRecDepth 100000 in
theorem addr_text6.walk (w:World) (M:List Nat) (hM:MS M w) (hG:GF w M) (a0:S_api_Addr) (k:Nat) (r:List UInt8) (H:addr_text6.f k a0=some r) :
    To Tryz.prog 100 [.agg (cS_api_Addr a0).toArray] w fun v w'=>v=.string (bstr r)∧Chg [] w w'∧MS (M) w':=by
 unfold addr_text6.f at H;refine ent Tryz.func100 rfl [(0,.agg (cS_api_Addr a0).toArray)] rfl (by rfl) fun a ha=>?_;have hC:Chg [] w w:=Chg.refl _ _;refine wsr fun K1 hK1=>?_;refine bx (cs:=(cS_api_Addr a0)) ha rfl rfl rfl rfl rfl fun a w2 g3 hN4 ha=>?_;have o1:=oN M w;have o2:=oR M w;have hG:=hG.chg hN4.chg o1 o2;have hM:=hM.chg hN4.chg;have hC:=hC.t0 hN4.chg;have hE5:Cs w2 g3 0 (cS_api_Addr a0):=Box.cells (New.box hN4);refine sf ha 1 [(1,pt g3 0)] fun a ha=>?_;refine hK1 _ _ ?_;refine wsr fun K7 hK7=>?_;refine ldE hE5 ha fun a ha=>?_;obtain ⟨t8,H8,H⟩:=bind_some H;refine cL ha (addr_numbers.walk w2 _ hM a0 k _ H8) ?_;rintro _ w8 ⟨rfl,hc8,hMn⟩ a ha;have o1:=oN M w2;have o2:=oR M w2;have hG:=hG.chg hc8 o1 o2;have hM:=hM.chg hc8;have hC:=hC.t0 hc8;refine alE (cA .i64 8 (List.replicate 8 (0:Int))) ha fun a w9 g10 hN11 ha=>?_;have o1:=oN M w8;have o2:=oA hN11 M;have hG:=hG.chg hN11.chg o1 o2;have p_i12_M:=pn (B:=M) hM (hN11.ge1) fun _ hy=>hy;have e_i12:=eN hC (hN11.ge1);have hM:=MS.app hN11.ms (hM.chg hN11.chg);have hC:=hC.t0 hN11.chg;have hBg10:=hN11.box;refine stE (cA .i64 8 t8) ha hBg10 fun a w13 ha hBg10 hc14 _=>?_;have o1:Ok [g10] ([g10]++(M)) w9.heap.size:=(fun _ h=>.inl (ml h))
 have o2:=oR ([g10]++(M)) w9;have hG:=hG.chg hc14 o1 o2;have hM:=hM.chg hc14;have hC:=hC.t1 hc14 e_i12;refine hK7 _ _ ?_;refine wsr fun K15 hK15=>?_;refine ldE (Box.cells hBg10) ha fun a ha=>?_;obtain ⟨t16,H16,H⟩:=bind_some H;refine cL ha (addr_gap.walk w13 _ hM t8 k _ H16) ?_;rintro _ w16 ⟨rfl,hc16,hMn⟩ a ha;have o1:=oN ([g10]++(M)) w13;have o2:=oR ([g10]++(M)) w13;have hG:=hG.chg hc16 o1 o2;have hBg10:=hBg10.c0 hc16;have hM:=hM.chg hc16;have hC:=hC.t0 hc16;refine sf ha 5 [(3,pt g10 0),(4,.int .i64 t16.1),(5,.int .i64 t16.2)] fun a ha=>?_;refine hK15 _ _ ?_;refine wp_seq_k fun K17 hK17=>?_;refine sqd ha 2 [] [(14,.bool (decide (t16.2 < (2:Int))))] fun a ha=>?_;refine cnH H ha (fun hc19 H=>?_) (fun hc19 H=>?_)
 ·refine wsr fun K20 hK20=>?_;refine oP (.slice (some ⟨g10,0,none⟩) 8 8) ha fun a ha=>?_;have fw21:RSl (rInt .i64) 3 w16 (butL g10 w16) (some ⟨g10,0,none⟩) 8 (arL 8 t8):=RSl.ofA ([]:List Value) ([]:List Value) (Box.cells hBg10) butL_self (by kernel_rfl) rfl;have hML:MS (M) w16:=MS.rest hM (fun _ h=>mr (h));have oL:Ok (M) ([g10]++(M)) w16.heap.size:=(fun _ h=>.inl (mr (h)))
  obtain ⟨t22,H22,H⟩:=bind_some H;refine cL ha (addr_written.walk w16 _ hML (hG.chg (Chg.refl [] _) (Ok.nil _ _) oL) (arL 8 t8) (some ⟨g10,0,none⟩) 8 (RSl.chg (M':=M) fw21 (Chg.refl [] _) (Ok.nil _ _) (butL_ok (fun x hm e0=>(fun (hx:x∈[g10])=>p_i12_M x hx hm) (by rw [e0];exact List.mem_singleton.2 rfl)))) k _ H22) ?_;rintro _ w22 ⟨rfl,hc22,hMn⟩ a ha;have o1:=oN ([g10]++(M)) w16;have o2:=oR ([g10]++(M)) w16;have hG:=hG.chg hc22 o1 o2;have fw21:=fw21.chg (M':=butL g10 w22) hc22 (Ok.nil _ _) butL_chg;have hBg10:=hBg10.c0 hc22;have hM:=hM.chg hc22;have hC:=hC.t0 hc22;refine sf ha 1 [(2,.string (bstr t22))] fun a ha=>?_;refine hK20 _ _ ?_;refine wrt ?_;have o1:=oN ([g10]++(M)) w22;have o2:Ok (M) ([g10]++(M)) w22.heap.size:=(fun _ h=>.inl (mr (h)))
  have hG:=hG.chg (Chg.refl [] _) o1 o2;have hM:MS M w22:=hM.sb fun _ h=>mr (h);obtain rfl:=oj H;refine rt1 ha rfl rfl ?_;exact ⟨rfl,hC,hM⟩
 ·refine wp_skip ?_;refine hK17 _ _ ?_;refine wp_seq_k fun K23 hK23=>?_;refine drq0 (fun w'=>Chg [] w16 w') (by kernel_rfl) (by kernel_rfl) (fun _ h=>h) ?_;refine qP 0 (.int .i64 t16.1) ha fun a ha=>?_;have fw24:RSl (rInt .i64) 3 w16 (butL g10 w16) (some ⟨g10,0,none⟩) 8 (arL 8 t8):=RSl.ofA ([]:List Value) ([]:List Value) (Box.cells hBg10) butL_self (by kernel_rfl) rfl;obtain ⟨⟨hx25,hx25',hx25''⟩,H⟩:=ite_some H;obtain ⟨ao25,cap25,f25,hr25⟩:=slA_run (kk:=.i64) (T:=3) (N:=8) (g:=g10) (o':=0) (xs:=(arL 8 t8)) (t:=162) (lo:=Option.none) (hi:=(Option.some (Operand.tmp 17))) (l:=(0:Int)) (h:=t16.1) (dd:=some 18) (ty:=143) (pos := "addr.go:86") (af:=#[{ on:=0,ground:=Ground.data }]) (gd:=Option.none) ha (by kernel_rfl) (by kernel_rfl) (x:=(Operand.tmp 3)) rfl (arL_length _ _) rfl rfl fw24 hx25 hx25' (by rw [arL_length];exact hx25'');refine qV (v:=.slice ao25 (((arL 8 t8).take (Int.toNat t16.1)).drop (Int.toNat (0:Int))).length cap25) ha (fun w' hs=>hr25 w') fun a ha=>?_;obtain ⟨t26,H26,H⟩:=bind_some H;refine qc (.string (bstr t26)) ha (by rfl) (by kernel_rfl) (by rfl) (by rfl) (by rfl) (fun w' hs=>(addr_written.walk w' [] (MS.nil _) (hG.chg (M':=[]) hs (Ok.nil _ _) (Ok.nil _ _)) (((arL 8 t8).take (Int.toNat t16.1)).drop (Int.toNat (0:Int))) ao25 cap25 (RSl.chg (M':=[]) f25 hs (Ok.nil _ _) (Ok.nil _ _)) k _ H26).mono fun v w'' ⟨hv,hc,_⟩=>⟨hv,hs.trans hc (Ok.nil _ _)⟩) fun a ha=>?_;obtain ⟨hx27,H⟩:=ite_some H;refine qV (v:=.string (bstr (t26++([58,58]:List UInt8)))) ha (fun w' hs=>sadd_run ha rfl rfl hx27 w') fun a ha=>?_;refine qP 0 (.int .i64 t16.1) ha fun a ha=>?_;refine qP 0 (.int .i64 t16.2) ha fun a ha=>?_;refine qP 0 (.int .i64 (IntKind.i64.wrap (t16.1+t16.2))) ha fun a ha=>?_;have fw28:RSl (rInt .i64) 3 w16 (butL g10 w16) (some ⟨g10,0,none⟩) 8 (arL 8 t8):=RSl.ofA ([]:List Value) ([]:List Value) (Box.cells hBg10) butL_self (by kernel_rfl) rfl;obtain ⟨⟨hx29,hx29',hx29''⟩,H⟩:=ite_some H;obtain ⟨ao29,cap29,f29,hr29⟩:=slA_run (kk:=.i64) (T:=3) (N:=8) (g:=g10) (o':=0) (xs:=(arL 8 t8)) (t:=162) (lo:=(Option.some (Operand.tmp 23))) (hi:=Option.none) (l:=(IntKind.i64.wrap (t16.1+t16.2))) (h:=(8:Int)) (dd:=some 24) (ty:=143) (pos := "addr.go:86") (af:=#[{ on:=6,ground:=Ground.data }]) (gd:=Option.none) ha (by kernel_rfl) (by kernel_rfl) (x:=(Operand.tmp 3)) rfl (arL_length _ _) rfl rfl fw28 hx29 hx29' (by rw [arL_length];exact hx29'');refine qV (v:=.slice ao29 (((arL 8 t8).take (Int.toNat (8:Int))).drop (Int.toNat (IntKind.i64.wrap (t16.1+t16.2)))).length cap29) ha (fun w' hs=>hr29 w') fun a ha=>?_;obtain ⟨t30,H30,H⟩:=bind_some H;refine qc (.string (bstr t30)) ha (by rfl) (by kernel_rfl) (by rfl) (by rfl) (by rfl) (fun w' hs=>(addr_written.walk w' [] (MS.nil _) (hG.chg (M':=[]) hs (Ok.nil _ _) (Ok.nil _ _)) (((arL 8 t8).take (Int.toNat (8:Int))).drop (Int.toNat (IntKind.i64.wrap (t16.1+t16.2)))) ao29 cap29 (RSl.chg (M':=[]) f29 hs (Ok.nil _ _) (Ok.nil _ _)) k _ H30).mono fun v w'' ⟨hv,hc,_⟩=>⟨hv,hs.trans hc (Ok.nil _ _)⟩) fun a ha=>?_;obtain ⟨hx31,H⟩:=ite_some H;refine qV (v:=.string (bstr ((t26++([58,58]:List UInt8))++t30))) ha (fun w' hs=>sadd_run ha rfl rfl hx31 w') fun a ha=>?_;refine qP 0 (.string (bstr ((t26++([58,58]:List UInt8))++t30))) ha fun a ha=>?_;refine wpQuiet_nil ?_;intro w32 hc33;have hM:=hM.chg hc33;have hC:=hC.t0 hc33;refine wpl_end ?_;refine hK23 _ _ ?_;refine wrt ?_;have hM:MS M w32:=hM.sb fun _ h=>mr (h);obtain rfl:=oj H;refine rt1 ha rfl rfl ?_;exact ⟨rfl,hC,hM⟩
end Go.E
