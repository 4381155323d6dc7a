/- What the functions that the law reaches compute, and the walks that show it. -/
import Derived.Test.YtoeenagdbjppgaaGreatDoorEngP
import Derived.Test.YtoeenagdbjppgaaGreatDoorEngO
import Derived.Test.YtoeenagdbjppgaaGreatDoorEngX
import Derived.Test.YtoeenagdbjppgaaGreatDoorEngQ
import Derived.Test.YtoeenagdbjppgaaGreatDoorEngY
import Derived.Test.YtoeenagdbjppgaaGreatDoorEngZ
import Derived.Test.YtoeenagdbjppgaaGreatDoorProg
set_option linter.unusedVariables false
set_option linter.unusedSimpArgs false
namespace Go.E
open Go.RowKit Go.Proofs
structure S_api_Segment where
  Set : Bool
  AS : List Int
  deriving DecidableEq, Inhabited
def cS_api_Segment (x : S_api_Segment) (ao1 : Option Addr) (cap1 : Nat) : List Value := ([.bool x.Set] : List Value) ++ (([.slice ao1 x.AS.length cap1] : List Value))
def rS_api_Segment : Rep S_api_Segment := rIso (fun x : S_api_Segment => (x.Set, x.AS)) (rPair rBool (rSl 3 (rInt .i64)))
theorem rS_api_Segment.open {w : World} {M : List Nat} {cs : List Value} {x : S_api_Segment} (h : rS_api_Segment.R w M cs x) : ∃ (ao1 : Option Addr) (cap1 : Nat), cs = cS_api_Segment x ao1 cap1 ∧ RSl (rInt .i64) 3 w M ao1 cap1 x.AS := by
  obtain ⟨c0, k0, e0, h0, h1⟩ := h
  obtain rfl := h0
  obtain ⟨ao1, cap1, rfl, f1⟩ := h1
  subst e0
  exact ⟨ao1, cap1, rfl, f1⟩
theorem rS_api_Segment.mk {w : World} {M : List Nat} (x : S_api_Segment) {ao1 : Option Addr} {cap1 : Nat} (f1 : RSl (rInt .i64) 3 w M ao1 cap1 x.AS) : rS_api_Segment.R w M (cS_api_Segment x ao1 cap1) x := ⟨_, _, rfl, rfl, ⟨ao1, cap1, rfl, f1⟩⟩
def okS_api_Segment (x : S_api_Segment) : Prop := okB x.Set ∧ (okL 8 (okI .i64)) x.AS
structure S_api_Addr where
  Size : Int
  B : List Int
  deriving DecidableEq, Inhabited
def cS_api_Addr (x : S_api_Addr) : List Value := ([.int .i64 x.Size] : List Value) ++ (cA .u8 16 x.B)
def rS_api_Addr : Rep S_api_Addr := rIso (fun x : S_api_Addr => (x.Size, x.B)) (rPair (rInt .i64) (rArr .u8 16))
theorem rS_api_Addr.open {w : World} {M : List Nat} {cs : List Value} {x : S_api_Addr} (h : rS_api_Addr.R w M cs x) : cs = cS_api_Addr x := by
  obtain ⟨c0, k0, e0, h0, h1⟩ := h
  obtain rfl := h0
  obtain rfl := h1
  subst e0
  exact rfl
theorem rS_api_Addr.mk {w : World} {M : List Nat} (x : S_api_Addr) : rS_api_Addr.R w M (cS_api_Addr x) x := ⟨_, _, rfl, rfl, rfl⟩
def okS_api_Addr (x : S_api_Addr) : Prop := (okI .i64) x.Size ∧ (okA .u8 16) x.B
structure S_api_Tunnel where
  Leaf : Bool
  Kind : Int
  Label : Int
  Root : S_api_Addr
  Id : List Int
  deriving DecidableEq, Inhabited
def cS_api_Tunnel (x : S_api_Tunnel) (ao1 : Option Addr) (cap1 : Nat) : List Value := ([.bool x.Leaf] : List Value) ++ (([.int .i64 x.Kind] : List Value) ++ (([.int .i64 x.Label] : List Value) ++ (cS_api_Addr x.Root ++ (([.slice ao1 x.Id.length cap1] : List Value)))))
def rS_api_Tunnel : Rep S_api_Tunnel := rIso (fun x : S_api_Tunnel => (x.Leaf, (x.Kind, (x.Label, (x.Root, x.Id))))) (rPair rBool (rPair (rInt .i64) (rPair (rInt .i64) (rPair rS_api_Addr (rSl 5 (rInt .u8))))))
theorem rS_api_Tunnel.open {w : World} {M : List Nat} {cs : List Value} {x : S_api_Tunnel} (h : rS_api_Tunnel.R w M cs x) : ∃ (ao1 : Option Addr) (cap1 : Nat), cs = cS_api_Tunnel x ao1 cap1 ∧ RSl (rInt .u8) 5 w M ao1 cap1 x.Id := by
  obtain ⟨c0, k0, e0, h0, ⟨c1, k1, e1, h1, ⟨c2, k2, e2, h2, ⟨c3, k3, e3, h3, h4⟩⟩⟩⟩ := h
  have h3 := rS_api_Addr.open h3
  obtain rfl := h0
  obtain rfl := h1
  obtain rfl := h2
  obtain rfl := h3
  obtain ⟨ao1, cap1, rfl, f1⟩ := h4
  subst e3
  subst e2
  subst e1
  subst e0
  exact ⟨ao1, cap1, rfl, f1⟩
theorem rS_api_Tunnel.mk {w : World} {M : List Nat} (x : S_api_Tunnel) {ao1 : Option Addr} {cap1 : Nat} (f1 : RSl (rInt .u8) 5 w M ao1 cap1 x.Id) : rS_api_Tunnel.R w M (cS_api_Tunnel x ao1 cap1) x := ⟨_, _, rfl, rfl, ⟨_, _, rfl, rfl, ⟨_, _, rfl, rfl, ⟨_, _, rfl, (rS_api_Addr.mk x.Root), ⟨ao1, cap1, rfl, f1⟩⟩⟩⟩⟩
def okS_api_Tunnel (x : S_api_Tunnel) : Prop := okB x.Leaf ∧ (okI .i64) x.Kind ∧ (okI .i64) x.Label ∧ (okS_api_Addr) x.Root ∧ (okL 1 (okI .u8)) x.Id
structure S_api_Attrs where
  Origin : Int
  Path : List S_api_Segment
  Med : Int
  Pref : Int
  Originator : S_api_Addr
  Clusters : List S_api_Addr
  Exts : List (List Int)
  Tunnels : List S_api_Tunnel
  deriving DecidableEq, Inhabited
def cS_api_Attrs (x : S_api_Attrs) (ao1 : Option Addr) (cap1 : Nat) (ao2 : Option Addr) (cap2 : Nat) (ao3 : Option Addr) (cap3 : Nat) (ao4 : Option Addr) (cap4 : Nat) : List Value := ([.int .i64 x.Origin] : List Value) ++ (([.slice ao1 x.Path.length cap1] : List Value) ++ (([.int .i64 x.Med] : List Value) ++ (([.int .i64 x.Pref] : List Value) ++ (cS_api_Addr x.Originator ++ (([.slice ao2 x.Clusters.length cap2] : List Value) ++ (([.slice ao3 x.Exts.length cap3] : List Value) ++ (([.slice ao4 x.Tunnels.length cap4] : List Value))))))))
def rS_api_Attrs : Rep S_api_Attrs := rIso (fun x : S_api_Attrs => (x.Origin, (x.Path, (x.Med, (x.Pref, (x.Originator, (x.Clusters, (x.Exts, x.Tunnels)))))))) (rPair (rInt .i64) (rPair (rSl 49 rS_api_Segment) (rPair (rInt .i64) (rPair (rInt .i64) (rPair rS_api_Addr (rPair (rSl 25 rS_api_Addr) (rPair (rSl 75 (rArr .u8 8)) (rSl 51 rS_api_Tunnel))))))))
theorem rS_api_Attrs.open {w : World} {M : List Nat} {cs : List Value} {x : S_api_Attrs} (h : rS_api_Attrs.R w M cs x) : ∃ (ao1 : Option Addr) (cap1 : Nat) (ao2 : Option Addr) (cap2 : Nat) (ao3 : Option Addr) (cap3 : Nat) (ao4 : Option Addr) (cap4 : Nat), cs = cS_api_Attrs x ao1 cap1 ao2 cap2 ao3 cap3 ao4 cap4 ∧ RSl rS_api_Segment 49 w M ao1 cap1 x.Path ∧ RSl rS_api_Addr 25 w M ao2 cap2 x.Clusters ∧ RSl (rArr .u8 8) 75 w M ao3 cap3 x.Exts ∧ RSl rS_api_Tunnel 51 w M ao4 cap4 x.Tunnels := by
  obtain ⟨c0, k0, e0, h0, ⟨c1, k1, e1, h1, ⟨c2, k2, e2, h2, ⟨c3, k3, e3, h3, ⟨c4, k4, e4, h4, ⟨c5, k5, e5, h5, ⟨c6, k6, e6, h6, h7⟩⟩⟩⟩⟩⟩⟩ := h
  have h4 := rS_api_Addr.open h4
  obtain rfl := h0
  obtain ⟨ao1, cap1, rfl, f1⟩ := h1
  obtain rfl := h2
  obtain rfl := h3
  obtain rfl := h4
  obtain ⟨ao2, cap2, rfl, f2⟩ := h5
  obtain ⟨ao3, cap3, rfl, f3⟩ := h6
  obtain ⟨ao4, cap4, rfl, f4⟩ := h7
  subst e6
  subst e5
  subst e4
  subst e3
  subst e2
  subst e1
  subst e0
  exact ⟨ao1, cap1, ao2, cap2, ao3, cap3, ao4, cap4, rfl, f1, f2, f3, f4⟩
theorem rS_api_Attrs.mk {w : World} {M : List Nat} (x : S_api_Attrs) {ao1 : Option Addr} {cap1 : Nat} {ao2 : Option Addr} {cap2 : Nat} {ao3 : Option Addr} {cap3 : Nat} {ao4 : Option Addr} {cap4 : Nat} (f1 : RSl rS_api_Segment 49 w M ao1 cap1 x.Path) (f2 : RSl rS_api_Addr 25 w M ao2 cap2 x.Clusters) (f3 : RSl (rArr .u8 8) 75 w M ao3 cap3 x.Exts) (f4 : RSl rS_api_Tunnel 51 w M ao4 cap4 x.Tunnels) : rS_api_Attrs.R w M (cS_api_Attrs x ao1 cap1 ao2 cap2 ao3 cap3 ao4 cap4) x := ⟨_, _, rfl, rfl, ⟨_, _, rfl, ⟨ao1, cap1, rfl, f1⟩, ⟨_, _, rfl, rfl, ⟨_, _, rfl, rfl, ⟨_, _, rfl, (rS_api_Addr.mk x.Originator), ⟨_, _, rfl, ⟨ao2, cap2, rfl, f2⟩, ⟨_, _, rfl, ⟨ao3, cap3, rfl, f3⟩, ⟨ao4, cap4, rfl, f4⟩⟩⟩⟩⟩⟩⟩⟩
def okS_api_Attrs (x : S_api_Attrs) : Prop := (okI .i64) x.Origin ∧ (okL 32 (okS_api_Segment)) x.Path ∧ (okI .i64) x.Med ∧ (okI .i64) x.Pref ∧ (okS_api_Addr) x.Originator ∧ (okL 24 (okS_api_Addr)) x.Clusters ∧ (okL 8 (okA .u8 8)) x.Exts ∧ (okL 72 (okS_api_Tunnel)) x.Tunnels
structure S_api_Raw where
  Flags : Int
  Kind : Int
  Value : List Int
  deriving DecidableEq, Inhabited
def cS_api_Raw (x : S_api_Raw) (ao1 : Option Addr) (cap1 : Nat) : List Value := ([.int .i64 x.Flags] : List Value) ++ (([.int .i64 x.Kind] : List Value) ++ (([.slice ao1 x.Value.length cap1] : List Value)))
def rS_api_Raw : Rep S_api_Raw := rIso (fun x : S_api_Raw => (x.Flags, (x.Kind, x.Value))) (rPair (rInt .i64) (rPair (rInt .i64) (rSl 5 (rInt .u8))))
theorem rS_api_Raw.open {w : World} {M : List Nat} {cs : List Value} {x : S_api_Raw} (h : rS_api_Raw.R w M cs x) : ∃ (ao1 : Option Addr) (cap1 : Nat), cs = cS_api_Raw x ao1 cap1 ∧ RSl (rInt .u8) 5 w M ao1 cap1 x.Value := by
  obtain ⟨c0, k0, e0, h0, ⟨c1, k1, e1, h1, h2⟩⟩ := h
  obtain rfl := h0
  obtain rfl := h1
  obtain ⟨ao1, cap1, rfl, f1⟩ := h2
  subst e1
  subst e0
  exact ⟨ao1, cap1, rfl, f1⟩
theorem rS_api_Raw.mk {w : World} {M : List Nat} (x : S_api_Raw) {ao1 : Option Addr} {cap1 : Nat} (f1 : RSl (rInt .u8) 5 w M ao1 cap1 x.Value) : rS_api_Raw.R w M (cS_api_Raw x ao1 cap1) x := ⟨_, _, rfl, rfl, ⟨_, _, rfl, rfl, ⟨ao1, cap1, rfl, f1⟩⟩⟩
def okS_api_Raw (x : S_api_Raw) : Prop := (okI .i64) x.Flags ∧ (okI .i64) x.Kind ∧ (okL 1 (okI .u8)) x.Value
structure S_cursor_rest where
  left : List Int
  bad : Bool
  deriving DecidableEq, Inhabited
def cS_cursor_rest (x : S_cursor_rest) (ao1 : Option Addr) (cap1 : Nat) : List Value := ([.slice ao1 x.left.length cap1] : List Value) ++ (([.bool x.bad] : List Value))
def rS_cursor_rest : Rep S_cursor_rest := rIso (fun x : S_cursor_rest => (x.left, x.bad)) (rPair (rSl 5 (rInt .u8)) rBool)
theorem rS_cursor_rest.open {w : World} {M : List Nat} {cs : List Value} {x : S_cursor_rest} (h : rS_cursor_rest.R w M cs x) : ∃ (ao1 : Option Addr) (cap1 : Nat), cs = cS_cursor_rest x ao1 cap1 ∧ RSl (rInt .u8) 5 w M ao1 cap1 x.left := by
  obtain ⟨c0, k0, e0, h0, h1⟩ := h
  obtain ⟨ao1, cap1, rfl, f1⟩ := h0
  obtain rfl := h1
  subst e0
  exact ⟨ao1, cap1, rfl, f1⟩
theorem rS_cursor_rest.mk {w : World} {M : List Nat} (x : S_cursor_rest) {ao1 : Option Addr} {cap1 : Nat} (f1 : RSl (rInt .u8) 5 w M ao1 cap1 x.left) : rS_cursor_rest.R w M (cS_cursor_rest x ao1 cap1) x := ⟨_, _, rfl, ⟨ao1, cap1, rfl, f1⟩, rfl⟩
def okS_cursor_rest (x : S_cursor_rest) : Prop := (okL 1 (okI .u8)) x.left ∧ okB x.bad
structure S_cursor_Reader where
  rest : S_cursor_rest
  deriving DecidableEq, Inhabited
def cS_cursor_Reader (x : S_cursor_Reader) (ao1 : Option Addr) (cap1 : Nat) : List Value := cS_cursor_rest x.rest ao1 cap1
def rS_cursor_Reader : Rep S_cursor_Reader := rIso (fun x : S_cursor_Reader => x.rest) rS_cursor_rest
theorem rS_cursor_Reader.open {w : World} {M : List Nat} {cs : List Value} {x : S_cursor_Reader} (h : rS_cursor_Reader.R w M cs x) : ∃ (ao1 : Option Addr) (cap1 : Nat), cs = cS_cursor_Reader x ao1 cap1 ∧ RSl (rInt .u8) 5 w M ao1 cap1 x.rest.left := by
  have h0 := h
  have h0 := rS_cursor_rest.open h0
  obtain ⟨ao1, cap1, rfl, f1⟩ := h0
  exact ⟨ao1, cap1, rfl, f1⟩
theorem rS_cursor_Reader.mk {w : World} {M : List Nat} (x : S_cursor_Reader) {ao1 : Option Addr} {cap1 : Nat} (f1 : RSl (rInt .u8) 5 w M ao1 cap1 x.rest.left) : rS_cursor_Reader.R w M (cS_cursor_Reader x ao1 cap1) x := (rS_cursor_rest.mk x.rest f1)
def okS_cursor_Reader (x : S_cursor_Reader) : Prop := (okS_cursor_rest) x.rest

def bytes_Clone.f (a0:List Int):Option (List Int):=if a0.length≤140737488355328 then some a0 else none
theorem bytes_Clone.walk (w:World) (M:List Nat) (hM:MS M w) (a0:List Int) (ao1:Option Addr) (cap1:Nat) (f1:RSl (rInt .u8) 5 w M ao1 cap1 a0) (r:List Int) (H:bytes_Clone.f a0=some r) :
    To Tryz.prog 59 [.slice ao1 a0.length cap1] w fun v w'=>∃ (ao2:Option Addr) (cap2:Nat),v=.slice ao2 r.length cap2∧(Own (rInt .u8) 5 w' (blkL ao2++M) ao2 cap2 r)∧(∀ x∈blkL ao2,w.heap.size≤x)∧Chg [] w w'∧MS (blkL ao2++M) w':=by
  unfold bytes_Clone.f at H;obtain ⟨hb,H⟩:=ite_some H;obtain rfl:=oj H;refine ent Tryz.func59 rfl [(0,.slice ao1 a0.length cap1)] rfl rfl fun a ha=>?_;refine wp_seq_k fun K hK=>?_;refine wp_region_lit ?_;refine sd ha 1 [] [] fun a ha=>?_;refine hK _ _ ?_;clear hK K;refine wp_seq_k fun K hK=>?_;refine wsr fun K2 hK2=>?_;refine sd ha 2 [] [(4,.bool ao1.isNone)] fun a ha=>?_;refine hK2 _ _ ?_;clear hK2 K2;refine cnd ha rfl (fun hc=>?_) (fun hc=>?_)
  · refine wsr fun K2 hK2=>?_;refine sf ha 1 [(2,.slice none 0 0)] fun a ha=>?_;refine hK2 _ _ ?_;clear hK2 K2;refine wp_ret ?_;have hx:a0=[]:=by
      rcases f1 with ⟨_,_,h | ⟨g,o,cur,fr,e,_⟩⟩
      · exact h
      · subst e;simp at hc
    simp only [Exit.then];refine rt1 ha rfl rfl ?_;exact ⟨none,0,by rw [hx];rfl,by rw [hx];exact Own.nil,(fun _ h=>nomatch h),Chg.refl _ _,hM⟩
  · refine wp_skip ?_;refine hK _ _ ?_;clear hK K;refine wp_seq_k fun K hK=>?_;refine wp_region_lit ?_;refine bsl (vals:=[]) (T:=5) ha rfl [] (fun w=>by kernel_rfl) rfl rfl rfl fun a w1 g hN ha=>?_;refine sd ha 1 [4] [(5,.slice (some ⟨g,0,none⟩) 0 0),(6,.slice ao1 a0.length cap1)] fun a ha=>?_;have hO:Own (rInt .u8) 5 w1 ([g]++M) (some ⟨g,0,none⟩) 0 []:=hN.own rfl (Nat.zero_le _);have h1:RSl (rInt .u8) 5 w1 ([g]++M) ao1 cap1 a0:=f1.chg hN.chg (Ok.nil _ _) (Ok.app (hN.ok _) (Ok.refl _ _));refine app (r:=rInt .u8) (xs:=[]) ha (ElemT.mk' (bytes:=1) (by kernel_rfl)) rfl rfl rfl rfl rfl hO h1.src (by simpa using hb) (by decide) fun a w2 ao2 cap2 hO2 hc2 hok hlt ha=>?_;refine sf ha 1 [(2,.slice ao2 ([]++a0).length cap2)] fun a ha=>?_;refine hK _ _ ?_;clear hK K;refine wp_ret ?_;refine rt1 ha rfl rfl ⟨ao2,cap2,rfl,?_,?_,?_,?_⟩
    · exact hO2.chg (Chg.refl [] _) (Ok.nil _ _) (Ok.app (fun g hg=>.inl (ml hg)) (fun g hg=>.inl (mr (mr hg)))) (fun _ _ hh=>nomatch hh) (fun g hg=>ml hg)
    · intro x hx;rcases hok x hx with h | h
      · simp [blkL] at h;subst h;exact hN.ge
      · exact Nat.le_trans hN.chg.size h
    · exact hN.chg.trans hc2 (Ok.one (.inr hN.ge))
    · exact MS.app hlt ((hM.chg hN.chg).chg hc2)

def cursor_Open.f (a0:List Int):Option (S_cursor_Reader):=(bytes_Clone.f a0).bind fun t4=>some (((⟨(⟨t4,false⟩:S_cursor_rest)⟩:S_cursor_Reader):S_cursor_Reader))
set_option maxRecDepth 100000 in
theorem cursor_Open.walk (w:World) (M:List Nat) (hM:MS M w) (a0:List Int) (ao1:Option Addr) (cap1:Nat) (f1:RSl (rInt .u8) 5 w M ao1 cap1 a0) (r:S_cursor_Reader) (H:cursor_Open.f a0=some r) :
    To Tryz.prog 51 [.slice ao1 a0.length cap1] w fun v w'=>∃ (g10:Nat) (ao12:Option Addr) (cap12:Nat),v=.pointer (some ⟨g10,0,none⟩)∧(RSl (rInt .u8) 5 w' ([g10]++(M)) ao12 cap12 r.rest.left)∧(Box w' g10 (cS_cursor_Reader r ao12 cap12))∧(∀ x∈[g10],w.heap.size≤x)∧Chg [] w w'∧MS ([g10]++(M)) w':=by
 unfold cursor_Open.f at H;refine ent Tryz.func51 rfl [(0,.slice ao1 a0.length cap1)] rfl (by rfl) fun a ha=>?_;have hC:Chg [] w w:=Chg.refl _ _;refine sqd ha 1 [] [] fun a ha=>?_;refine wsr fun K3 hK3=>?_;refine sf ha 1 [(3,.slice ao1 a0.length cap1)] fun a ha=>?_;obtain ⟨t4,H4,H⟩:=bind_some H;refine cL ha (bytes_Clone.walk w _ hM a0 ao1 cap1 f1 _ H4) ?_;rintro _ w4 ⟨ao5,cap5,rfl,f5,ne_i5,hc4,hMn⟩ a ha;have p_i5_M:=pn (B:=M) hM ne_i5 fun _ hy=>hy;have hM:MS (blkL ao5++(M)) w4:=(MS.app (fun x h=>hMn x (ml h)) (hM.chg hc4))
 have hC:=hC.t0 hc4;refine oP (.agg (cS_cursor_rest (⟨t4,false⟩:S_cursor_rest) ao5 cap5).toArray) ha fun a ha=>?_;refine oP (.agg (cS_cursor_Reader (⟨(⟨t4,false⟩:S_cursor_rest)⟩:S_cursor_Reader) ao5 cap5).toArray) ha fun a ha=>?_;have fz:=f5.toRSl (M':=M) (fun _ h=>.inl (mr (h))) (fun x hx hm=>p_i5_M x hx hm);have hM:MS M w4:=hM.sb fun _ h=>mr (h);have f5:=fz;refine bx (cs:=(cS_cursor_Reader (⟨(⟨t4,false⟩:S_cursor_rest)⟩:S_cursor_Reader) ao5 cap5)) ha rfl rfl rfl rfl rfl fun a w6 g7 hN8 ha=>?_;have o1:=oN M w4;have o2:=oA hN8 M;have f5:=f5.chg hN8.chg o1 o2;have e_i9:=eN hC (hN8.ge1);have hM:=MS.app hN8.ms (hM.chg hN8.chg);have hC:=hC.t0 hN8.chg;have hBg7:=hN8.box;refine sf ha 1 [(2,pt g7 0)] fun a ha=>?_;refine hK3 _ _ ?_;refine wrt ?_;obtain rfl:=oj H;refine rt1 ha rfl rfl ?_;exact ⟨g7,ao5,cap5,rfl,f5,hBg7,e_i9,hC,hM⟩
def cursor_rest_Left.f (a0:S_cursor_rest):Option (Int):=(if a0.bad=true then some (((0:Int):Int)) else some (((a0.left.length:Int):Int)))
set_option maxRecDepth 100000 in
theorem cursor_rest_Left.walk (w:World) (M:List Nat) (hM:MS M w) (gp0:Nat) (a0:S_cursor_rest) (ao1:Option Addr) (cap1:Nat) (f1:RSl (rInt .u8) 5 w M ao1 cap1 a0.left) (hBgp0:Box w gp0 (cS_cursor_rest a0 ao1 cap1)) (hg_gp0:gp0∈M) (r:Int) (H:cursor_rest_Left.f a0=some r) :
    To Tryz.prog 52 [.pointer (some ⟨gp0,0,none⟩)] w fun v w'=>v=.int .i64 r∧Chg [] w w'∧MS (M) w':=by
 unfold cursor_rest_Left.f at H;refine ent Tryz.func52 rfl [(0,.pointer (some ⟨gp0,0,none⟩))] rfl (by rfl) fun a ha=>?_;have hC:Chg [] w w:=Chg.refl _ _;refine sqd ha 1 [] [] fun a ha=>?_;refine wp_seq_k fun K3 hK3=>?_;refine wsr fun K4 hK4=>?_;refine sd ha 3 [] [(5,pt gp0 1)] fun a ha=>?_;refine ld (v:=.bool a0.bad) ha rfl (by kernel_rfl) rfl rfl rfl (hBgp0.cell' (o:=1) rfl (by kernel_rfl)) fun a ha=>?_;refine hK4 _ _ ?_;refine cnH H ha (fun hc5 H=>?_) (fun hc5 H=>?_)
 ·refine sq ha 1 [(2,.int .i64 0)] fun a ha=>?_;refine wrt ?_;obtain rfl:=oj H;refine rt1 ha rfl rfl ?_;exact ⟨rfl,hC,hM⟩
 ·refine wp_skip ?_;refine hK3 _ _ ?_;refine wsr fun K7 hK7=>?_;refine sf ha 3 [(9,pt gp0 0)] fun a ha=>?_;refine ld (v:=.slice ao1 a0.left.length cap1) ha rfl (by kernel_rfl) rfl rfl rfl (hBgp0.cell' (o:=0) rfl (by kernel_rfl)) fun a ha=>?_;refine sf ha 2 [(2,.int .i64 (a0.left.length:Int))] fun a ha=>?_;refine hK7 _ _ ?_;refine wrt ?_;obtain rfl:=oj H;refine rt1 ha rfl rfl ?_;exact ⟨rfl,hC,hM⟩
def cursor_rest_next.f (a0:S_cursor_rest) (a1:Int):Option (List Int×S_cursor_rest):=((if a0.bad=true then some (true:Bool) else (if (decide (a1 < (0:Int)))=true then some (true:Bool) else some (decide (a1 > (a0.left.length:Int)):Bool)))).bind fun s5=>(if s5=true then some ((([]:List Int):List Int),((⟨a0.left,true⟩:S_cursor_rest):S_cursor_rest)) else (if 0≤(0:Int)∧(0:Int)≤a1∧a1≤(a0.left.length:Int) then (if 0≤a1∧a1≤(a0.left.length:Int)∧(a0.left.length:Int)≤(a0.left.length:Int) then some ((((a0.left.take (Int.toNat a1)).drop (Int.toNat (0:Int))):List Int),((⟨((a0.left.take (Int.toNat (a0.left.length:Int))).drop (Int.toNat a1)),a0.bad⟩:S_cursor_rest):S_cursor_rest)) else none) else none))
set_option maxRecDepth 100000 in
theorem cursor_rest_next.walk (w:World) (M:List Nat) (hM:MS M w) (gp0:Nat) (a0:S_cursor_rest) (ao1:Option Addr) (cap1:Nat) (f1:RSl (rInt .u8) 5 w M ao1 cap1 a0.left) (hBgp0:Box w gp0 (cS_cursor_rest a0 ao1 cap1)) (hg_gp0:gp0∈M) (a1:Int) (r:List Int×S_cursor_rest) (H:cursor_rest_next.f a0 a1=some r) :
    To Tryz.prog 76 [.pointer (some ⟨gp0,0,none⟩),.int .i64 a1] w fun v w'=>∃ (ao22:Option Addr) (cap22:Nat) (ao23:Option Addr) (cap23:Nat),v=.slice ao22 r.1.length cap22∧(RSl (rInt .u8) 5 w' (M) ao22 cap22 r.1)∧(RSl (rInt .u8) 5 w' (M) ao23 cap23 r.2.left)∧(Box w' gp0 (cS_cursor_rest r.2 ao23 cap23))∧Chg [gp0] w w'∧MS (M) w':=by
 unfold cursor_rest_next.f at H;refine ent Tryz.func76 rfl [(0,.pointer (some ⟨gp0,0,none⟩)),(1,.int .i64 a1)] rfl (by rfl) fun a ha=>?_;have hC:Chg [gp0] w w:=Chg.refl _ _;refine sqd ha 1 [] [] fun a ha=>?_;refine wp_seq_k fun K3 hK3=>?_;refine wsr fun K4 hK4=>?_;obtain ⟨s5,H5,H⟩:=bind_some H;have J5:∀ (a:Act) (w5:World),Has a Tryz.f76.ntmps [(0,pt gp0 0),(1,.int .i64 a1),(22,.bool s5)]→(RSl (rInt .u8) 5 w5 (M) ao1 cap1 a0.left)→(Box w5 gp0 (cS_cursor_rest a0 ao1 cap1))→(Chg [gp0] w w5)→(MS (M) w5)→K4 a w5:=by
  intro a w5 ha f1 hBgp0 hC hM;refine hK4 _ _ ?_;refine cnH H ha (fun hc6 H=>?_) (fun hc6 H=>?_)
  ·refine wsr fun K7 hK7=>?_;refine sf ha 3 [(25,pt gp0 1)] fun a ha=>?_;refine st ha rfl rfl rfl (by kernel_rfl) rfl rfl hBgp0 (Nat.le_of_ble_eq_true (by kernel_rfl)) fun a w8 ha hb2 hc9 _=>?_;have o1:Ok [gp0] (M) w5.heap.size:=Ok.one (.inl (hg_gp0));have o2:=oR M w5;have f1:=f1.chg hc9 o1 o2;have hM:=hM.chg hc9;have hC:=hC.trans hc9 (Ok.one (.inl (by simp)));have hBgp0:Box w8 gp0 (cS_cursor_rest (⟨a0.left,true⟩:S_cursor_rest) ao1 cap1):=hb2;refine hK7 _ _ ?_;refine sq ha 1 [(4,.slice none 0 0)] fun a ha=>?_;refine wrt ?_;obtain rfl:=oj H;refine rt1 ha rfl rfl ?_;exact ⟨none,0,ao1,cap1,rfl,(RSl.nil (Nat.zero_le _)),f1,hBgp0,hC,hM⟩
  ·refine wp_skip ?_;refine hK3 _ _ ?_;refine wsr fun K11 hK11=>?_;refine sd ha 3 [22] [(28,pt gp0 0)] fun a ha=>?_;refine ld (v:=.slice ao1 a0.left.length cap1) ha rfl (by kernel_rfl) rfl rfl rfl (hBgp0.cell' (o:=0) rfl (by kernel_rfl)) fun a ha=>?_;refine sd ha 1 [28] [(29,.slice ao1 a0.left.length cap1),(30,.int .i64 a1)] fun a ha=>?_;obtain ⟨⟨hx12,hx12',hx12''⟩,H⟩:=ite_some H;refine slc (r:=(rInt .u8)) (l:=(0:Int)) (h:=a1) ha (by kernel_rfl) (by kernel_rfl) rfl rfl rfl rfl rfl rfl f1 hx12 hx12' hx12'' fun a ao13 cap13 f13 ha=>?_;refine sd ha 1 [29,30] [(5,.slice ao13 ((a0.left.take (Int.toNat a1)).drop (Int.toNat (0:Int))).length cap13)] fun a ha=>?_;refine hK11 _ _ ?_;refine wsr fun K14 hK14=>?_;refine sd ha 4 [0] [(32,pt gp0 0),(35,pt gp0 0)] fun a ha=>?_;refine ld (v:=.slice ao1 a0.left.length cap1) ha rfl (by kernel_rfl) rfl rfl rfl (hBgp0.cell' (o:=0) rfl (by kernel_rfl)) fun a ha=>?_;refine sd ha 1 [1,35] [(36,.slice ao1 a0.left.length cap1),(37,.int .i64 a1)] fun a ha=>?_;obtain ⟨⟨hx15,hx15',hx15''⟩,H⟩:=ite_some H;refine slc (r:=(rInt .u8)) (l:=a1) (h:=(a0.left.length:Int)) ha (by kernel_rfl) (by kernel_rfl) rfl rfl rfl rfl rfl rfl f1 hx15 hx15' hx15'' fun a ao16 cap16 f16 ha=>?_;refine sd ha 2 [32,36,37] [(38,.slice ao16 ((a0.left.take (Int.toNat (a0.left.length:Int))).drop (Int.toNat a1)).length cap16),(40,pt gp0 0)] fun a ha=>?_;refine st ha rfl rfl rfl (by kernel_rfl) rfl rfl hBgp0 (Nat.le_of_ble_eq_true (by kernel_rfl)) fun a w17 ha hb2 hc18 _=>?_;have o1:Ok [gp0] (M) w5.heap.size:=Ok.one (.inl (hg_gp0));have o2:=oR M w5;have f13:=f13.chg hc18 o1 o2;have f16:=f16.chg hc18 o1 o2;have hM:=hM.chg hc18;have hC:=hC.trans hc18 (Ok.one (.inl (by simp)));have hBgp0:Box w17 gp0 (cS_cursor_rest (⟨((a0.left.take (Int.toNat (a0.left.length:Int))).drop (Int.toNat a1)),a0.bad⟩:S_cursor_rest) ao16 cap16):=hb2;refine hK14 _ _ ?_;refine sq ha 2 [(4,.slice ao13 ((a0.left.take (Int.toNat a1)).drop (Int.toNat (0:Int))).length cap13)] fun a ha=>?_;refine wrt ?_;obtain rfl:=oj H;refine rt1 ha rfl rfl ?_;exact ⟨ao13,cap13,ao16,cap16,rfl,f13,f16,hBgp0,hC,hM⟩
 have H:=H5;refine sd ha 3 [] [(8,pt gp0 1)] fun a ha=>?_;refine ld (v:=.bool a0.bad) ha rfl (by kernel_rfl) rfl rfl rfl (hBgp0.cell' (o:=1) rfl (by kernel_rfl)) fun a ha=>?_;refine sd ha 1 [8] [(10,.bool a0.bad)] fun a ha=>?_;rcases Bool.eq_false_or_eq_true (a0.bad) with hb20 | hb20
 ·have ha:=ha.lit hb20;have H:=ite_t hb20 H;refine sgd ha 12 [1,1,3,0,1,1,1,1,1,1,1,3] [10] [(22,.bool true)] fun a ha=>?_;obtain rfl:=oj H;exact J5 _ _ (ha.sel (by kernel_rfl)) f1 hBgp0 hC hM
 ·have ha:=ha.lit hb20;have H:=ite_f hb20 H;refine sgd ha 4 [2,2,4,0] [10] [(14,.bool (decide (a1 < (0:Int))))] fun a ha=>?_;rcases Bool.eq_false_or_eq_true (decide (a1 < (0:Int))) with hb21 | hb21
  ·have ha:=ha.lit hb21;have H:=ite_t hb21 H;refine sgd ha 8 [1,1,1,1,1,1,1,3] [14] [(22,.bool true)] fun a ha=>?_;obtain rfl:=oj H;exact J5 _ _ (ha.sel (by kernel_rfl)) f1 hBgp0 hC hM
  ·have ha:=ha.lit hb21;have H:=ite_f hb21 H;refine sgd ha 4 [2,2,2,2] [] [(14,.bool false),(15,.int .i64 a1),(18,pt gp0 0)] fun a ha=>?_;refine ld (v:=.slice ao1 a0.left.length cap1) ha rfl (by kernel_rfl) rfl rfl rfl (hBgp0.cell' (o:=0) rfl (by kernel_rfl)) fun a ha=>?_;refine sgd ha 3 [2,2,4] [14,15,18] [(22,.bool (decide (a1 > (a0.left.length:Int))))] fun a ha=>?_;obtain rfl:=oj H;exact J5 _ _ (ha.sel (by kernel_rfl)) f1 hBgp0 hC hM
def cursor_Reader_Num.l0 (t8:List Int×S_cursor_rest):Nat→Int→Int→Option (Int)
  | 0,_,_=>none
  | kk+1,x12,x13=>(if (decide (x13 < (t8.1.length:Int)))=true then (if 0≤x13∧x13 < (t8.1.length:Int) then cursor_Reader_Num.l0 t8 kk (IntKind.i64.wrap (BitVec.ofInt IntKind.i64.bits (IntKind.i64.wrap (x12*2^(min (8:Int).toNat IntKind.i64.bits))) ||| BitVec.ofInt IntKind.i64.bits (IntKind.i64.wrap (rd t8.1 x13))).toNat) (IntKind.i64.wrap (x13+(1:Int))) else none) else some (x12:Int))
def cursor_Reader_Num.f (k:Nat) (a0:S_cursor_Reader) (a1:Int):Option (Int×S_cursor_Reader):=((if (if (decide (a1 < (1:Int)))=true then true else (decide (a1 > (4:Int))))=true then some ((-1:Int):Int) else some (a1:Int))).bind fun s4=>(cursor_rest_next.f a0.rest s4).bind fun t8=>(cursor_Reader_Num.l0 t8 k (0:Int) (0:Int)).bind fun s11=>some ((s11:Int),((⟨t8.2⟩:S_cursor_Reader):S_cursor_Reader))
set_option maxRecDepth 100000 in
theorem cursor_Reader_Num.walk (w:World) (M:List Nat) (hM:MS M w) (gp0:Nat) (a0:S_cursor_Reader) (ao1:Option Addr) (cap1:Nat) (f1:RSl (rInt .u8) 5 w M ao1 cap1 a0.rest.left) (hBgp0:Box w gp0 (cS_cursor_Reader a0 ao1 cap1)) (hg_gp0:gp0∈M) (a1:Int) (k:Nat) (r:Int×S_cursor_Reader) (H:cursor_Reader_Num.f k a0 a1=some r) :
    To Tryz.prog 53 [.pointer (some ⟨gp0,0,none⟩),.int .i64 a1] w fun v w'=>∃ (ao29:Option Addr) (cap29:Nat),v=.int .i64 r.1∧(RSl (rInt .u8) 5 w' (M) ao29 cap29 r.2.rest.left)∧(Box w' gp0 (cS_cursor_Reader r.2 ao29 cap29))∧Chg [gp0] w w'∧MS (M) w':=by
 unfold cursor_Reader_Num.f at H;refine ent Tryz.func53 rfl [(0,.pointer (some ⟨gp0,0,none⟩)),(1,.int .i64 a1)] rfl (by rfl) fun a ha=>?_;have hC:Chg [gp0] w w:=Chg.refl _ _;refine sqd ha 1 [] [] fun a ha=>?_;refine wp_seq_k fun K3 hK3=>?_;obtain ⟨s4,H4,H⟩:=bind_some H;have J4:∀ (a:Act) (w4:World),Has a Tryz.f53.ntmps [(0,pt gp0 0),(1,.int .i64 s4)]→(RSl (rInt .u8) 5 w4 (M) ao1 cap1 a0.rest.left)→(Box w4 gp0 (cS_cursor_Reader a0 ao1 cap1))→(Chg [gp0] w w4)→(MS (M) w4)→K3 a w4:=by
  intro a w4 ha f1 hBgp0 hC hM;refine hK3 _ _ ?_;refine sqd ha 1 [] [(5,.int .i64 0)] fun a ha=>?_;refine wp_seq_k fun K6 hK6=>?_;refine wsr fun K7 hK7=>?_;refine sd ha 4 [0,1] [(16,pt gp0 0),(17,.int .i64 s4)] fun a ha=>?_;obtain ⟨t8,H8,H⟩:=bind_some H;refine cL ha (cursor_rest_next.walk w4 _ hM gp0 a0.rest ao1 cap1 f1 hBgp0 (hg_gp0) s4 _ H8) ?_;rintro _ w8 ⟨ao9,cap9,ao10,cap10,rfl,f9,f10,qhBgp0,hc8,hMn⟩ a ha;have hM:=hM.chg hc8;have hC:=hC.trans hc8 (Ok.one (.inl (by simp)));have hBgp0:=qhBgp0;refine sd ha 2 [16,17] [(18,.slice ao9 t8.1.length cap9),(19,.int .i64 (t8.1.length:Int)),(20,.int .i64 0)] fun a ha=>?_;refine hK7 _ _ ?_;refine wp_block ?_;obtain ⟨s11,H11,H⟩:=bind_some H;have J11:∀ (a:Act) (wx11:World),Has a Tryz.f53.ntmps [(5,.int .i64 s11)]→(RSl (rInt .u8) 5 wx11 (M) ao10 cap10 t8.2.left)→(Box wx11 gp0 (cS_cursor_Reader (⟨t8.2⟩:S_cursor_Reader) ao10 cap10))→(Chg [gp0] w wx11)→(MS (M) wx11)→K6 a wx11:=by
   intro a wx11 ha f10 hBgp0 hC hM;refine hK6 _ _ ?_;refine sq ha 2 [(4,.int .i64 s11)] fun a ha=>?_;refine wrt ?_;obtain rfl:=oj H;refine rt1 ha rfl rfl ?_;exact ⟨ao10,cap10,rfl,f10,hBgp0,hC,hM⟩
  have Hc11:=H;have H:=H11;refine wp_loop_ghost (fun kk a w11=>∃ (x12:Int) (x13:Int),cursor_Reader_Num.l0 t8 kk x12 x13=some s11∧Has a Tryz.f53.ntmps [(5,.int .i64 x12),(18,.slice ao9 t8.1.length cap9),(19,.int .i64 (t8.1.length:Int)),(20,.int .i64 x13)]∧(RSl (rInt .u8) 5 w11 (M) ao9 cap9 t8.1)∧(RSl (rInt .u8) 5 w11 (M) ao10 cap10 t8.2.left)∧(Box w11 gp0 (cS_cursor_Reader (⟨t8.2⟩:S_cursor_Reader) ao10 cap10))∧(Chg [gp0] w w11)∧(MS (M) w11)) k ?_ ?_
  ·skip;exact ⟨(0:Int),(0:Int),H,(ha.sel (by kernel_rfl)),f9,f10,hBgp0,hC,hM⟩
  ·rintro kk a w11 ⟨x12,x13,H,ha,f9,f10,hBgp0,hC,hM⟩;obtain _ | kk:=kk
   ·exact nomatch (show none=some _ from H)
   rw [cursor_Reader_Num.l0] at H;refine sqd ha 1 [] [(21,.bool (decide (x13 < (t8.1.length:Int))))] fun a ha=>?_;refine wp_seq_k fun K16 hK16=>?_;refine cnH H ha (fun hc17 H=>?_) (fun hc17 H=>?_)
   ·refine wp_skip ?_;refine hK16 _ _ ?_;refine wp_seq_k fun K18 hK18=>?_;refine wp_block ?_;refine wsr fun K19 hK19=>?_;obtain ⟨⟨hx20,hx20'⟩,H⟩:=ite_some H;refine ix (r:=(rInt .u8)) ha (by kernel_rfl) (by kernel_rfl) rfl rfl rfl rfl rfl f9 hx20 hx20' fun a ge21 oe22 cs23 hn26 hR24 hE25 ha=>?_;rw [rd_get] at hR24;obtain rfl:=hR24;have hE25:Cs w11 ge21 oe22 ([.int .u8 (rd t8.1 x13)]:List Value):=hE25;refine ld ha rfl (by kernel_rfl) rfl rfl rfl (hE25 0 (.int .u8 (rd t8.1 x13)) (by kernel_rfl)) fun a ha=>?_;refine sd ha 1 [21] [(7,.int .u8 (rd t8.1 x13))] fun a ha=>?_;refine hK19 _ _ ?_;refine wp_region_lit ?_;refine sd ha 6 [7] [(5,.int .i64 (IntKind.i64.wrap (BitVec.ofInt IntKind.i64.bits (IntKind.i64.wrap (x12*2^(min (8:Int).toNat IntKind.i64.bits))) ||| BitVec.ofInt IntKind.i64.bits (IntKind.i64.wrap (rd t8.1 x13))).toNat))] fun a ha=>?_;refine hK18 _ _ ?_;refine wp_region_lit ?_;refine sd ha 2 [] [(20,.int .i64 (IntKind.i64.wrap (x13+(1:Int))))] fun a ha=>?_;exact ⟨kk,Nat.lt_succ_self _,⟨IntKind.i64.wrap (BitVec.ofInt IntKind.i64.bits (IntKind.i64.wrap (x12*2^(min (8:Int).toNat IntKind.i64.bits))) ||| BitVec.ofInt IntKind.i64.bits (IntKind.i64.wrap (rd t8.1 x13))).toNat,IntKind.i64.wrap (x13+(1:Int)),H,(ha.sel (by kernel_rfl)),f9,f10,hBgp0,hC,hM⟩⟩
   ·refine wx ?_;obtain rfl:=oj H;exact J11 _ _ (ha.sel (by kernel_rfl)) f10 hBgp0 hC hM
 have H:=H4;refine sqd ha 6 [] [(13,.bool (if (decide (a1 < (1:Int)))=true then true else (decide (a1 > (4:Int)))))] fun a ha=>?_;refine cnH H ha (fun hc28 H=>?_) (fun hc28 H=>?_)
 ·refine wp_region_lit ?_;refine sd ha 1 [13] [(1,.int .i64 (-1))] fun a ha=>?_;obtain rfl:=oj H;exact J4 _ _ (ha.sel (by kernel_rfl)) f1 hBgp0 hC hM
 ·refine wp_skip ?_;obtain rfl:=oj H;exact J4 _ _ (ha.sel (by kernel_rfl)) f1 hBgp0 hC hM
def cursor_Reader_Take.f (a0:S_cursor_Reader) (a1:Int):Option (List Int×S_cursor_Reader):=(cursor_rest_next.f a0.rest a1).bind fun t4=>(bytes_Clone.f t4.1).bind fun t7=>some ((t7:List Int),((⟨t4.2⟩:S_cursor_Reader):S_cursor_Reader))
set_option maxRecDepth 100000 in
theorem cursor_Reader_Take.walk (w:World) (M:List Nat) (hM:MS M w) (gp0:Nat) (a0:S_cursor_Reader) (ao1:Option Addr) (cap1:Nat) (f1:RSl (rInt .u8) 5 w M ao1 cap1 a0.rest.left) (hBgp0:Box w gp0 (cS_cursor_Reader a0 ao1 cap1)) (hg_gp0:gp0∈M) (a1:Int) (r:List Int×S_cursor_Reader) (H:cursor_Reader_Take.f a0 a1=some r) :
    To Tryz.prog 54 [.pointer (some ⟨gp0,0,none⟩),.int .i64 a1] w fun v w'=>∃ (ao9:Option Addr) (cap9:Nat) (ao10:Option Addr) (cap10:Nat),v=.slice ao9 r.1.length cap9∧(Own (rInt .u8) 5 w' (blkL ao9++(M)) ao9 cap9 r.1)∧(RSl (rInt .u8) 5 w' (blkL ao9++(M)) ao10 cap10 r.2.rest.left)∧(Box w' gp0 (cS_cursor_Reader r.2 ao10 cap10))∧(∀ x∈blkL ao9,w.heap.size≤x)∧Chg [gp0] w w'∧MS (blkL ao9++(M)) w':=by
 unfold cursor_Reader_Take.f at H;refine ent Tryz.func54 rfl [(0,.pointer (some ⟨gp0,0,none⟩)),(1,.int .i64 a1)] rfl (by rfl) fun a ha=>?_;have hC:Chg [gp0] w w:=Chg.refl _ _;refine sqd ha 1 [] [] fun a ha=>?_;refine wsr fun K3 hK3=>?_;refine sf ha 4 [(7,pt gp0 0),(8,.int .i64 a1)] fun a ha=>?_;obtain ⟨t4,H4,H⟩:=bind_some H;refine cL ha (cursor_rest_next.walk w _ hM gp0 a0.rest ao1 cap1 f1 hBgp0 (hg_gp0) a1 _ H4) ?_;rintro _ w4 ⟨ao5,cap5,ao6,cap6,rfl,f5,f6,qhBgp0,hc4,hMn⟩ a ha;have hM:=hM.chg hc4;have hC:=hC.trans hc4 (Ok.one (.inl (by simp)));have hBgp0:=qhBgp0;obtain ⟨t7,H7,H⟩:=bind_some H;refine cL ha (bytes_Clone.walk w4 _ hM t4.1 ao5 cap5 f5 _ H7) ?_;rintro _ w7 ⟨ao8,cap8,rfl,f8,ne_i8,hc7,hMn⟩ a ha;have o1:=oN M w4;have o2:Ok (blkL ao8++(M)) (M) w4.heap.size:=(Ok.app (fun x h=>.inr (ne_i8 x h)) (Ok.refl _ _))
 have f6:=f6.chg hc7 o1 o2;have hBgp0:=hBgp0.c0 hc7;have e_i8:=eN hC ne_i8;have hM:MS (blkL ao8++(M)) w7:=(MS.app (fun x h=>hMn x (ml h)) (hM.chg hc7))
 have hC:=hC.t0 hc7;refine sf ha 1 [(4,.slice ao8 t7.length cap8)] fun a ha=>?_;refine hK3 _ _ ?_;refine wrt ?_;obtain rfl:=oj H;refine rt1 ha rfl rfl ?_;exact ⟨ao8,cap8,ao6,cap6,rfl,f8,f6,hBgp0,e_i8,hC,hM⟩
def cursor_rest_Bad.f (a0:S_cursor_rest):Option (Bool):=some ((a0.bad:Bool))
set_option maxRecDepth 100000 in
theorem cursor_rest_Bad.walk (w:World) (M:List Nat) (hM:MS M w) (gp0:Nat) (a0:S_cursor_rest) (ao1:Option Addr) (cap1:Nat) (f1:RSl (rInt .u8) 5 w M ao1 cap1 a0.left) (hBgp0:Box w gp0 (cS_cursor_rest a0 ao1 cap1)) (hg_gp0:gp0∈M) (r:Bool) (H:cursor_rest_Bad.f a0=some r) :
    To Tryz.prog 55 [.pointer (some ⟨gp0,0,none⟩)] w fun v w'=>v=.bool r∧Chg [] w w'∧MS (M) w':=by
 unfold cursor_rest_Bad.f at H;refine ent Tryz.func55 rfl [(0,.pointer (some ⟨gp0,0,none⟩))] rfl (by rfl) fun a ha=>?_;have hC:Chg [] w w:=Chg.refl _ _;refine sqd ha 1 [] [] fun a ha=>?_;refine wsr fun K3 hK3=>?_;refine sf ha 3 [(5,pt gp0 1)] fun a ha=>?_;refine ld (v:=.bool a0.bad) ha rfl (by kernel_rfl) rfl rfl rfl (hBgp0.cell' (o:=1) rfl (by kernel_rfl)) fun a ha=>?_;refine sf ha 1 [(2,.bool a0.bad)] fun a ha=>?_;refine hK3 _ _ ?_;refine wrt ?_;obtain rfl:=oj H;refine rt1 ha rfl rfl ?_;exact ⟨rfl,hC,hM⟩
def attr_Split.l0 (k:Nat):Nat→(List S_api_Raw)→(List Int)→Bool→Option ((List S_api_Raw×Int) ⊕ (List S_api_Raw×List Int×Bool))
  | 0,_,_,_=>none
  | kk+1,x13,x14,x15=>(cursor_rest_Left.f (⟨x14,x15⟩:S_cursor_rest)).bind fun t22=>(if (decide (t22 > (0:Int)))=true then (if ((x13.length:Int)==(64:Int))=true then some (.inl ((([]:List S_api_Raw):List S_api_Raw),((2:Int):Int))) else (cursor_Reader_Num.f k (⟨(⟨x14,x15⟩:S_cursor_rest)⟩:S_cursor_Reader) (1:Int)).bind fun t30=>(cursor_Reader_Num.f k t30.2 (1:Int)).bind fun t33=>((if ((IntKind.i64.wrap (BitVec.ofInt IntKind.i64.bits t30.1 &&& BitVec.ofInt IntKind.i64.bits (16:Int)).toNat) != (0:Int))=true then some ((2:Int):Int) else some ((1:Int):Int))).bind fun s43=>(cursor_Reader_Num.f k t33.2 s43).bind fun t45=>(cursor_Reader_Take.f t45.2 t45.1).bind fun t48=>(cursor_rest_Bad.f t48.2.rest).bind fun t55=>(if t55=true then some (.inl ((([]:List S_api_Raw):List S_api_Raw),((3:Int):Int))) else (if (x13.length+([(⟨IntKind.i64.wrap (BitVec.ofInt IntKind.i64.bits t30.1 &&& ~~~ BitVec.ofInt IntKind.i64.bits (16:Int)).toNat,t33.1,t48.1⟩:S_api_Raw)]:List S_api_Raw).length)*40≤140737488355328 then attr_Split.l0 k kk (x13++([(⟨IntKind.i64.wrap (BitVec.ofInt IntKind.i64.bits t30.1 &&& ~~~ BitVec.ofInt IntKind.i64.bits (16:Int)).toNat,t33.1,t48.1⟩:S_api_Raw)]:List S_api_Raw)) t48.2.rest.left t48.2.rest.bad else none))) else some (.inr ((x13:List S_api_Raw),(x14:List Int),(x15:Bool))))
def attr_Split.f (k:Nat) (a0:List Int):Option (List S_api_Raw×Int):=(cursor_Open.f a0).bind fun t6=>(attr_Split.l0 k k ([]:List S_api_Raw) t6.rest.left t6.rest.bad).bind fun s10=>match s10 with | .inl r=>some r | .inr s10'=>some ((s10'.1:List S_api_Raw),((0:Int):Int))
set_option maxRecDepth 100000 in
theorem attr_Split.walk (w:World) (M:List Nat) (hM:MS M w) (a0:List Int) (ao1:Option Addr) (cap1:Nat) (f1:RSl (rInt .u8) 5 w M ao1 cap1 a0) (k:Nat) (r:List S_api_Raw×Int) (H:attr_Split.f k a0=some r) :
    To Tryz.prog 16 [.slice ao1 a0.length cap1] w fun v w'=>∃ (ao69:Option Addr) (cap69:Nat),v=.tuple #[.slice ao69 r.1.length cap69,.int .i64 r.2]∧(Own rS_api_Raw 46 w' (blkL ao69++(M)) ao69 cap69 r.1)∧(∀ x∈blkL ao69,w.heap.size≤x)∧Chg [] w w'∧MS (blkL ao69++(M)) w':=by
 unfold attr_Split.f at H;refine ent Tryz.func16 rfl [(0,.slice ao1 a0.length cap1)] rfl (by rfl) fun a ha=>?_;have hC:Chg [] w w:=Chg.refl _ _;refine sqd ha 2 [] [] fun a ha=>?_;refine sqd ha 1 [] [(4,.slice none 0 0)] fun a ha=>?_;refine wp_seq_k fun K4 hK4=>?_;refine wsr fun K5 hK5=>?_;refine sd ha 1 [0] [(10,.slice ao1 a0.length cap1)] fun a ha=>?_;obtain ⟨t6,H6,H⟩:=bind_some H;refine cL ha (cursor_Open.walk w _ hM a0 ao1 cap1 f1 _ H6) ?_;rintro _ w6 ⟨g7,ao9,cap9,rfl,f9,hBg7,ne_i8,hc6,hMn⟩ a ha;have o1:=oN M w;have o2:Ok ([g7]++(M)) (M) w.heap.size:=(Ok.app (fun x h=>.inr (ne_i8 x h)) (Ok.refl _ _))
 have e_i8:=eN hC ne_i8;have hM:MS ([g7]++(M)) w6:=(MS.app (fun x h=>hMn x (ml h)) (hM.chg hc6))
 have hC:=hC.t0 hc6;refine sd ha 1 [10] [(5,pt g7 0)] fun a ha=>?_;refine hK5 _ _ ?_;refine wp_block ?_;obtain ⟨s10,H10,H⟩:=bind_some H;have J10:∀ s10' (a:Act) (wx10:World) (ao16:Option Addr) (cap16:Nat) (ao17:Option Addr) (cap17:Nat),s10=.inr s10'→Has a Tryz.f16.ntmps [(4,.slice ao16 s10'.1.length cap16)]→(Own rS_api_Raw 46 wx10 (blkL ao16++([g7]++(M))) ao16 cap16 s10'.1)→(RSl (rInt .u8) 5 wx10 (blkL ao16++([g7]++(M))) ao17 cap17 s10'.2.1)→(Box wx10 g7 (cS_cursor_Reader (⟨(⟨s10'.2.1,s10'.2.2⟩:S_cursor_rest)⟩:S_cursor_Reader) ao17 cap17))→(∀ x∈blkL ao16,w.heap.size≤x)→(∀ x∈blkL ao16,x∉[g7])→(∀ x∈blkL ao16,x∉M)→(Chg [] w wx10)→(MS (blkL ao16++([g7]++(M))) wx10)→K4 a wx10:=by
  intro s10' a wx10 ao16 cap16 ao17 cap17 hs ha f16 f17 hBg7 e_i16 p_i16_i8 p_i16_M hC hM;subst hs;refine hK4 _ _ ?_;refine sq ha 3 [(2,.slice ao16 s10'.1.length cap16),(3,.int .i64 0)] fun a ha=>?_;refine wrt ?_;have o1:=oN (blkL ao16++([g7]++(M))) wx10;have o2:Ok (blkL ao16++(M)) (blkL ao16++([g7]++(M))) wx10.heap.size:=(Ok.app (fun _ h=>.inl (ml h)) (fun _ h=>.inl (mr (mr (h)))))
  have f16:=f16.chg (Chg.refl [] _) o1 o2 (fun _ _ h=>nomatch h) (fun _ h=>ml h);have hM:MS (blkL ao16++(M)) wx10:=(MS.app (fun x h=>hM.chg (Chg.refl [] _) x (ml h)) (fun x h=>hM.chg (Chg.refl [] _) x (mr (mr (h)))))
  obtain rfl:=oj H;refine rt2 ha rfl rfl rfl ?_;exact ⟨ao16,cap16,rfl,f16,e_i16,hC,hM⟩
 have Hc10:=H;have H:=H10;refine wp_loop_ghost (fun kk a w10=>∃ (x13:List S_api_Raw) (x14:List Int) (x15:Bool) (ao11:Option Addr) (cap11:Nat) (ao12:Option Addr) (cap12:Nat),attr_Split.l0 k kk x13 x14 x15=some s10∧Has a Tryz.f16.ntmps [(4,.slice ao11 x13.length cap11),(5,pt g7 0)]∧(Own rS_api_Raw 46 w10 (blkL ao11++([g7]++(M))) ao11 cap11 x13)∧(RSl (rInt .u8) 5 w10 (blkL ao11++([g7]++(M))) ao12 cap12 x14)∧(Box w10 g7 (cS_cursor_Reader (⟨(⟨x14,x15⟩:S_cursor_rest)⟩:S_cursor_Reader) ao12 cap12))∧(∀ x∈blkL ao11,w.heap.size≤x)∧(∀ x∈blkL ao11,x∉[g7])∧(∀ x∈blkL ao11,x∉M)∧(Chg [] w w10)∧(MS (blkL ao11++([g7]++(M))) w10)) k ?_ ?_
 ·skip;have o1:=oN ([g7]++(M)) w6;have o2:Ok (blkL none++([g7]++(M))) ([g7]++(M)) w6.heap.size:=(Ok.app (fun _ h=>nomatch h) (Ok.refl _ _))
  have f9:=f9.chg (Chg.refl [] _) o1 o2;have p_z19_i8:∀ x∈blkL none,x∉([g7]):=fun x hx hy=>absurd (hM x (ml hy)) (Nat.not_lt.2 ((fun _ h=>nomatch h) x hx));have p_z19_M:∀ x∈blkL none,x∉M:=fun x hx hy=>absurd (hM x (mr (hy))) (Nat.not_lt.2 ((fun _ h=>nomatch h) x hx));have e_z19:∀ x∈blkL none,w.heap.size≤x:=fun x hx=>Nat.le_trans hC.size ((fun _ h=>nomatch h) x hx);have hM:MS (blkL none++([g7]++(M))) w6:=(MS.app (fun _ h=>nomatch h) (hM.chg (Chg.refl [] _)))
  exact ⟨([]:List S_api_Raw),t6.rest.left,t6.rest.bad,none,0,ao9,cap9,H,(ha.sel (by kernel_rfl)),Own.nil,f9,hBg7,e_z19,p_z19_i8,p_z19_M,hC,hM⟩
 ·rintro kk a w10 ⟨x13,x14,x15,ao11,cap11,ao12,cap12,H,ha,f11,f12,hBg7,e_i11,p_i11_i8,p_i11_M,hC,hM⟩;obtain _ | kk:=kk
  ·exact nomatch (show none=some _ from H)
  rw [attr_Split.l0] at H;refine wp_seq_k fun K20 hK20=>?_;refine wsr fun K21 hK21=>?_;refine sd ha 3 [] [(14,pt g7 0)] fun a ha=>?_;obtain ⟨t22,H22,H⟩:=bind_some H;refine cL ha (cursor_rest_Left.walk w10 _ hM g7 (⟨x14,x15⟩:S_cursor_rest) ao12 cap12 f12 hBg7 (mr (ml (List.mem_singleton.2 rfl))) _ H22) ?_;rintro _ w22 ⟨rfl,hc22,hMn⟩ a ha;have o1:=oN (blkL ao11++([g7]++(M))) w10;have o2:=oR (blkL ao11++([g7]++(M))) w10;have f11:=f11.chg hc22 o1 o2 (fun _ _ h=>nomatch h) (fun _ h=>ml h);have f12:=f12.chg hc22 o1 o2;have hBg7:=hBg7.c0 hc22;have hM:=hM.chg hc22;have hC:=hC.t0 hc22;refine sd ha 1 [14] [(16,.bool (decide (t22 > (0:Int))))] fun a ha=>?_;refine hK21 _ _ ?_;refine cnH H ha (fun hc23 H=>?_) (fun hc23 H=>?_)
  ·refine wp_skip ?_;refine hK20 _ _ ?_;refine wp_block ?_;refine wp_seq_k fun K24 hK24=>?_;refine sqd ha 3 [16] [(19,.bool ((x13.length:Int)==(64:Int)))] fun a ha=>?_;refine cnH H ha (fun hc26 H=>?_) (fun hc26 H=>?_)
   ·refine sq ha 2 [(2,.slice none 0 0),(3,.int .i64 2)] fun a ha=>?_;refine wrt ?_;have o1:=oN (blkL ao11++([g7]++(M))) w22;have o2:Ok (blkL none++(M)) (blkL ao11++([g7]++(M))) w22.heap.size:=(Ok.app (fun _ h=>nomatch h) (fun _ h=>.inl (mr (mr (h)))))
    have f12:=f12.chg (Chg.refl [] _) o1 o2;have e_z28:∀ x∈blkL none,w.heap.size≤x:=fun x hx=>Nat.le_trans hC.size ((fun _ h=>nomatch h) x hx);have hM:MS (blkL none++(M)) w22:=(MS.app (fun _ h=>nomatch h) (fun x h=>hM.chg (Chg.refl [] _) x (mr (mr (h)))))
    obtain rfl:=oj H;have H:=(show some _=some _ from Hc10)
    obtain rfl:=oj H;refine rt2 ha rfl rfl rfl ?_;exact ⟨none,0,rfl,Own.nil,e_z28,hC,hM⟩
   ·refine wp_skip ?_;refine hK24 _ _ ?_;refine wsr fun K29 hK29=>?_;refine sd ha 1 [19] [(20,pt g7 0)] fun a ha=>?_;obtain ⟨t30,H30,H⟩:=bind_some H;refine cL ha (cursor_Reader_Num.walk w22 _ hM g7 (⟨(⟨x14,x15⟩:S_cursor_rest)⟩:S_cursor_Reader) ao12 cap12 f12 hBg7 (mr (ml (List.mem_singleton.2 rfl))) (1:Int) k _ H30) ?_;rintro _ w30 ⟨ao31,cap31,rfl,f31,qhBg7,hc30,hMn⟩ a ha;have o1:Ok [g7] (blkL ao11++([g7]++(M))) w22.heap.size:=(fun _ h=>.inl (mr (ml h)))
    have o2:=oR (blkL ao11++([g7]++(M))) w22;have f11:=f11.chg hc30 o1 o2 p_i11_i8 (fun _ h=>ml h);have hM:=hM.chg hc30;have hC:=hC.t1 hc30 e_i8;have hBg7:=qhBg7;refine sd ha 1 [20] [(6,.int .i64 t30.1)] fun a ha=>?_;refine hK29 _ _ ?_;refine wsr fun K32 hK32=>?_;refine sd ha 3 [] [(23,.int .i64 (IntKind.i64.wrap (BitVec.ofInt IntKind.i64.bits t30.1 &&& ~~~ BitVec.ofInt IntKind.i64.bits (16:Int)).toNat)),(24,pt g7 0)] fun a ha=>?_;obtain ⟨t33,H33,H⟩:=bind_some H;refine cL ha (cursor_Reader_Num.walk w30 _ hM g7 t30.2 ao31 cap31 f31 hBg7 (mr (ml (List.mem_singleton.2 rfl))) (1:Int) k _ H33) ?_;rintro _ w33 ⟨ao34,cap34,rfl,f34,qhBg7,hc33,hMn⟩ a ha;have o1:Ok [g7] (blkL ao11++([g7]++(M))) w30.heap.size:=(fun _ h=>.inl (mr (ml h)))
    have o2:=oR (blkL ao11++([g7]++(M))) w30;have f11:=f11.chg hc33 o1 o2 p_i11_i8 (fun _ h=>ml h);have hM:=hM.chg hc33;have hC:=hC.t1 hc33 e_i8;have hBg7:=qhBg7;refine oP (.agg (cS_api_Raw (⟨IntKind.i64.wrap (BitVec.ofInt IntKind.i64.bits t30.1 &&& ~~~ BitVec.ofInt IntKind.i64.bits (16:Int)).toNat,t33.1,([]:List Int)⟩:S_api_Raw) none 0).toArray) ha fun a ha=>?_;refine alE (cS_api_Raw (⟨(0:Int),(0:Int),([]:List Int)⟩:S_api_Raw) none 0) ha fun a w35 g36 hN37 ha=>?_;have o1:=oN (blkL ao11++([g7]++(M))) w33;have o2:=oA hN37 (blkL ao11++([g7]++(M)));have f11:=f11.chg hN37.chg o1 o2 (fun _ _ h=>nomatch h) (fun _ h=>mr (ml h));have f34:=f34.chg hN37.chg o1 o2;have hBg7:=hBg7.c0 hN37.chg;have p_i38_i11:=pn (B:=(blkL ao11)) hM (hN37.ge1) fun _ hy=>ml hy;have p_i38_i8:=pn (B:=[g7]) hM (hN37.ge1) fun _ hy=>mr (ml hy);have e_i38:=eN hC (hN37.ge1);have hM:=MS.app hN37.ms (hM.chg hN37.chg);have hC:=hC.t0 hN37.chg;have hBg36:=hN37.box;refine stE (cS_api_Raw (⟨IntKind.i64.wrap (BitVec.ofInt IntKind.i64.bits t30.1 &&& ~~~ BitVec.ofInt IntKind.i64.bits (16:Int)).toNat,t33.1,([]:List Int)⟩:S_api_Raw) none 0) ha hBg36 fun a w39 ha hBg36 hc40 _=>?_;have o1:Ok [g36] ([g36]++(blkL ao11++([g7]++(M)))) w35.heap.size:=(fun _ h=>.inl (ml h))
    have o2:=oR ([g36]++(blkL ao11++([g7]++(M)))) w35;have f11:=f11.chg hc40 o1 o2 (fun x (hx:x∈blkL ao11) (hy:x∈[g36])=>p_i38_i11 x hy hx) (fun _ h=>mr (ml h));have f34:=f34.chg hc40 o1 o2;have hBg7:=hBg7.chg hc40 ((fun x (hx:x∈[g7]) (hy:x∈[g36])=>p_i38_i8 x hy hx) g7 (by simp));have hM:=hM.chg hc40;have hC:=hC.t1 hc40 e_i38;refine hK32 _ _ ?_;refine sqd ha 1 [23,24] [(7,pt g36 0),(8,.int .i64 1)] fun a ha=>?_;refine wp_seq_k fun K42 hK42=>?_;obtain ⟨s43,H43,H⟩:=bind_some H;have J43:∀ (a:Act) (w43:World),Has a Tryz.f16.ntmps [(4,.slice ao11 x13.length cap11),(5,pt g7 0),(7,pt g36 0),(8,.int .i64 s43)]→(Own rS_api_Raw 46 w43 ([g36]++(blkL ao11++([g7]++(M)))) ao11 cap11 x13)→(RSl (rInt .u8) 5 w43 ([g36]++(blkL ao11++([g7]++(M)))) ao34 cap34 t33.2.rest.left)→(Box w43 g7 (cS_cursor_Reader t33.2 ao34 cap34))→(Box w43 g36 (cS_api_Raw (⟨IntKind.i64.wrap (BitVec.ofInt IntKind.i64.bits t30.1 &&& ~~~ BitVec.ofInt IntKind.i64.bits (16:Int)).toNat,t33.1,([]:List Int)⟩:S_api_Raw) none 0))→(Chg [] w w43)→(MS ([g36]++(blkL ao11++([g7]++(M)))) w43)→K42 a w43:=by
     intro a w43 ha f11 f34 hBg7 hBg36 hC hM;refine hK42 _ _ ?_;refine wsr fun K44 hK44=>?_;refine sd ha 2 [8] [(30,pt g7 0),(31,.int .i64 s43)] fun a ha=>?_;obtain ⟨t45,H45,H⟩:=bind_some H;refine cL ha (cursor_Reader_Num.walk w43 _ hM g7 t33.2 ao34 cap34 f34 hBg7 (mr (mr (ml (List.mem_singleton.2 rfl)))) s43 k _ H45) ?_;rintro _ w45 ⟨ao46,cap46,rfl,f46,qhBg7,hc45,hMn⟩ a ha;have o1:Ok [g7] ([g36]++(blkL ao11++([g7]++(M)))) w43.heap.size:=(fun _ h=>.inl (mr (mr (ml h))))
     have o2:=oR ([g36]++(blkL ao11++([g7]++(M)))) w43;have f11:=f11.chg hc45 o1 o2 p_i11_i8 (fun _ h=>mr (ml h));have hBg36:=hBg36.chg hc45 (p_i38_i8 g36 (by simp));have hM:=hM.chg hc45;have hC:=hC.t1 hc45 e_i8;have hBg7:=qhBg7;refine sd ha 1 [30,31] [(9,.int .i64 t45.1)] fun a ha=>?_;refine hK44 _ _ ?_;refine wsr fun K47 hK47=>?_;refine sd ha 2 [9] [(33,pt g7 0),(34,.int .i64 t45.1)] fun a ha=>?_;obtain ⟨t48,H48,H⟩:=bind_some H;refine cL ha (cursor_Reader_Take.walk w45 _ hM g7 t45.2 ao46 cap46 f46 hBg7 (mr (mr (ml (List.mem_singleton.2 rfl)))) t45.1 _ H48) ?_;rintro _ w48 ⟨ao49,cap49,ao50,cap50,rfl,f49,f50,qhBg7,ne_i49,hc48,hMn⟩ a ha;have o1:Ok [g7] ([g36]++(blkL ao11++([g7]++(M)))) w45.heap.size:=(fun _ h=>.inl (mr (mr (ml h))))
     have o2:Ok (blkL ao49++([g36]++(blkL ao11++([g7]++(M))))) ([g36]++(blkL ao11++([g7]++(M)))) w45.heap.size:=(Ok.app (fun x h=>.inr (ne_i49 x h)) (Ok.refl _ _))
     have f11:=f11.chg hc48 o1 o2 p_i11_i8 (fun _ h=>mr (mr (ml h)));have hBg36:=hBg36.chg hc48 (p_i38_i8 g36 (by simp));have p_i49_i38:=pn (B:=[g36]) hM ne_i49 fun _ hy=>ml hy;have p_i49_i11:=pn (B:=(blkL ao11)) hM ne_i49 fun _ hy=>mr (ml hy);have p_i49_i8:=pn (B:=[g7]) hM ne_i49 fun _ hy=>mr (mr (ml hy));have p_i49_M:=pn (B:=M) hM ne_i49 fun _ hy=>mr (mr (mr (hy)));have hM:MS (blkL ao49++([g36]++(blkL ao11++([g7]++(M))))) w48:=(MS.app (fun x h=>hMn x (ml h)) (hM.chg hc48))
     have hC:=hC.t1 hc48 e_i8;have hBg7:=qhBg7;refine sd ha 1 [33,34] [(35,.slice ao49 t48.1.length cap49),(36,pt g36 2)] fun a ha=>?_;refine st ha rfl rfl rfl (by kernel_rfl) rfl rfl hBg36 (Nat.le_of_ble_eq_true (by kernel_rfl)) fun a w51 ha hb2 hc52 _=>?_;have o1:Ok [g36] (blkL ao49++([g36]++(blkL ao11++([g7]++(M))))) w48.heap.size:=(fun _ h=>.inl (mr (ml h)))
     have o2:=oR (blkL ao49++([g36]++(blkL ao11++([g7]++(M))))) w48;have f11:=f11.chg hc52 o1 o2 (fun x (hx:x∈blkL ao11) (hy:x∈[g36])=>p_i38_i11 x hy hx) (fun _ h=>mr (mr (ml h)));have f49:=f49.chg hc52 o1 o2 p_i49_i38 (fun _ h=>ml h);have f50:=f50.chg hc52 o1 o2;have hBg7:=hBg7.chg hc52 ((fun x (hx:x∈[g7]) (hy:x∈[g36])=>p_i38_i8 x hy hx) g7 (by simp));have hM:=hM.chg hc52;have hC:=hC.t1 hc52 e_i38;have hBg36:Box w51 g36 (cS_api_Raw (⟨IntKind.i64.wrap (BitVec.ofInt IntKind.i64.bits t30.1 &&& ~~~ BitVec.ofInt IntKind.i64.bits (16:Int)).toNat,t33.1,t48.1⟩:S_api_Raw) ao49 cap49):=hb2;refine hK47 _ _ ?_;refine wp_seq_k fun K53 hK53=>?_;refine wsr fun K54 hK54=>?_;refine sd ha 3 [35,36] [(39,pt g7 0)] fun a ha=>?_;obtain ⟨t55,H55,H⟩:=bind_some H;refine cL ha (cursor_rest_Bad.walk w51 _ hM g7 t48.2.rest ao50 cap50 f50 hBg7 (mr (mr (mr (ml (List.mem_singleton.2 rfl))))) _ H55) ?_;rintro _ w55 ⟨rfl,hc55,hMn⟩ a ha;have o1:=oN (blkL ao49++([g36]++(blkL ao11++([g7]++(M))))) w51;have o2:=oR (blkL ao49++([g36]++(blkL ao11++([g7]++(M))))) w51;have f11:=f11.chg hc55 o1 o2 (fun _ _ h=>nomatch h) (fun _ h=>mr (mr (ml h)));have f50:=f50.chg hc55 o1 o2;have f49:=f49.chg hc55 o1 o2 (fun _ _ h=>nomatch h) (fun _ h=>ml h);have hBg7:=hBg7.c0 hc55;have hBg36:=hBg36.c0 hc55;have hM:=hM.chg hc55;have hC:=hC.t0 hc55;refine hK54 _ _ ?_;refine cnH H ha (fun hc56 H=>?_) (fun hc56 H=>?_)
     ·refine sq ha 2 [(2,.slice none 0 0),(3,.int .i64 3)] fun a ha=>?_;refine wrt ?_;have o1:=oN (blkL ao49++([g36]++(blkL ao11++([g7]++(M))))) w55;have o2:Ok (blkL none++(M)) (blkL ao49++([g36]++(blkL ao11++([g7]++(M))))) w55.heap.size:=(Ok.app (fun _ h=>nomatch h) (fun _ h=>.inl (mr (mr (mr (mr (h)))))))
      have f50:=f50.chg (Chg.refl [] _) o1 o2;have e_z58:∀ x∈blkL none,w.heap.size≤x:=fun x hx=>Nat.le_trans hC.size ((fun _ h=>nomatch h) x hx);have hM:MS (blkL none++(M)) w55:=(MS.app (fun _ h=>nomatch h) (fun x h=>hM.chg (Chg.refl [] _) x (mr (mr (mr (mr (h)))))))
      obtain rfl:=oj H;have H:=(show some _=some _ from Hc10)
      obtain rfl:=oj H;refine rt2 ha rfl rfl rfl ?_;exact ⟨none,0,rfl,Own.nil,e_z58,hC,hM⟩
     ·refine wp_skip ?_;refine hK53 _ _ ?_;refine wp_region_lit ?_;refine sd ha 1 [4,39] [(41,.slice ao11 x13.length cap11)] fun a ha=>?_;refine ldE (Box.cells hBg36) ha fun a ha=>?_;have fz:=f49.toRSl (M':=[g36]++(blkL ao11++([g7]++(M)))) (fun _ h=>.inl (mr (h))) (fun x hx hm=>(List.mem_append.1 hm).elim (fun h=>p_i49_i38 x hx h) (fun h=>(List.mem_append.1 h).elim (fun h=>p_i49_i11 x hx h) (fun h=>(List.mem_append.1 h).elim (fun h=>p_i49_i8 x hx h) (fun h=>p_i49_M x hx h))));have o1:=oN (blkL ao49++([g36]++(blkL ao11++([g7]++(M))))) w55;have o2:Ok ([g36]++(blkL ao11++([g7]++(M)))) (blkL ao49++([g36]++(blkL ao11++([g7]++(M))))) w55.heap.size:=(fun _ h=>.inl (mr (h)))
      have f11:=f11.chg (Chg.refl [] _) o1 o2 (fun _ _ h=>nomatch h) (fun _ h=>mr (ml h));have f50:=f50.chg (Chg.refl [] _) o1 o2;have hM:MS ([g36]++(blkL ao11++([g7]++(M)))) w55:=hM.sb fun _ h=>mr (h);have f49:=fz;refine bslA (vals:=([.agg (cS_api_Raw (⟨IntKind.i64.wrap (BitVec.ofInt IntKind.i64.bits t30.1 &&& ~~~ BitVec.ofInt IntKind.i64.bits (16:Int)).toNat,t33.1,t48.1⟩:S_api_Raw) ao49 cap49).toArray]:List Value)) (T:=46) (z:=.agg (cS_api_Raw (⟨(0:Int),(0:Int),([]:List Int)⟩:S_api_Raw) none 0).toArray) ha rfl (by kernel_rfl) rfl (by kernel_rfl) (s:=3) (by kernel_rfl) rfl rfl (fun w=>by kernel_rfl) (by kernel_rfl) rfl rfl rfl fun a w59 g60 hN61 ha=>?_;have hN61:=(show New _ _ _ (.cells (((cS_api_Raw (⟨IntKind.i64.wrap (BitVec.ofInt IntKind.i64.bits t30.1 &&& ~~~ BitVec.ofInt IntKind.i64.bits (16:Int)).toNat,t33.1,t48.1⟩:S_api_Raw) ao49 cap49)++([]:List Value))).toArray 46 (0,0)) from hN61)
      have o1:=oN ([g36]++(blkL ao11++([g7]++(M)))) w55;have o2:=oA hN61 ([g36]++(blkL ao11++([g7]++(M))));have f11:=f11.chg hN61.chg o1 o2 (fun _ _ h=>nomatch h) (fun _ h=>mr (mr (ml h)));have f49:=f49.chg hN61.chg o1 o2;have f50:=f50.chg hN61.chg o1 o2;have hBg7:=hBg7.c0 hN61.chg;have hM:=MS.app hN61.ms (hM.chg hN61.chg);have hC:=hC.t0 hN61.chg;have f63:Own rS_api_Raw 46 w59 ([g60]++([g36]++(blkL ao11++([g7]++(M))))) (some ⟨g60,0,none⟩) 1 ([(⟨IntKind.i64.wrap (BitVec.ofInt IntKind.i64.bits t30.1 &&& ~~~ BitVec.ofInt IntKind.i64.bits (16:Int)).toNat,t33.1,t48.1⟩:S_api_Raw)]:List S_api_Raw):=hN61.own ⟨(cS_api_Raw (⟨IntKind.i64.wrap (BitVec.ofInt IntKind.i64.bits t30.1 &&& ~~~ BitVec.ofInt IntKind.i64.bits (16:Int)).toNat,t33.1,t48.1⟩:S_api_Raw) ao49 cap49),_,rfl,(rS_api_Raw.mk (⟨IntKind.i64.wrap (BitVec.ofInt IntKind.i64.bits t30.1 &&& ~~~ BitVec.ofInt IntKind.i64.bits (16:Int)).toNat,t33.1,t48.1⟩:S_api_Raw) f49),rfl⟩ (Nat.le_of_ble_eq_true rfl);obtain ⟨hx64,H⟩:=ite_some H;refine app (r:=rS_api_Raw) (xs:=x13) (ys:=([(⟨IntKind.i64.wrap (BitVec.ofInt IntKind.i64.bits t30.1 &&& ~~~ BitVec.ofInt IntKind.i64.bits (16:Int)).toNat,t33.1,t48.1⟩:S_api_Raw)]:List S_api_Raw)) ha (ElemT.mk' (bytes:=40) (by kernel_rfl)) rfl rfl rfl rfl rfl f11 f63.src hx64 (by decide) fun a w65 ao66 cap66 hO66 hc66 hk66 hl66 ha=>?_;have o1:Ok (blkL ao11) ([g60]++([g36]++(blkL ao11++([g7]++(M))))) w59.heap.size:=(fun _ h=>.inl (mr (mr (ml h))))
      have o2:Ok (blkL ao66++([g60]++([g36]++([g7]++(M))))) ([g60]++([g36]++(blkL ao11++([g7]++(M))))) w59.heap.size:=(Ok.app (Ok.to hk66 (fun _ h=>mr (mr (ml h)))) (Ok.app (fun _ h=>.inl (ml h)) (Ok.app (fun _ h=>.inl (mr (ml h))) (fun _ h=>.inl (mr (mr (mr (h))))))))
      have f50:=f50.chg hc66 o1 o2;have hBg7:=hBg7.chg hc66 ((fun x (hx:x∈[g7]) (hy:x∈blkL ao11)=>p_i11_i8 x hy hx) g7 (by simp));have p_i66_i8:=pf (B:=[g7]) hk66 p_i11_i8 hM fun _ hy=>mr (mr (mr (ml hy)));have p_i66_M:=pf (B:=M) hk66 p_i11_M hM fun _ hy=>mr (mr (mr (mr (hy))));have e_i66:=ef hk66 e_i11 hC;have hM:MS (blkL ao66++([g60]++([g36]++([g7]++(M))))) w65:=(MS.app hl66 (MS.app (fun x h=>hM.chg hc66 x (ml h)) (MS.app (fun x h=>hM.chg hc66 x (mr (ml h))) (fun x h=>hM.chg hc66 x (mr (mr (mr (h))))))))
      have hC:=hC.t1 hc66 e_i11;have f66:=hO66.chg (M':=blkL ao66++([g60]++([g36]++([g7]++(M))))) (Chg.refl [] _) (Ok.nil _ _) (Ok.app (fun _ h=>.inl (ml h)) (Ok.to (Ok.app (fun _ h=>.inl (ml h)) (Ok.app (fun _ h=>.inl (mr (ml h))) (fun _ h=>.inl (mr (mr (mr (h))))))) (fun _ h=>mr h))) (fun _ _ h=>nomatch h) (fun _ h=>ml h);refine sd ha 1 [7,41] [(4,.slice ao66 (x13++([(⟨IntKind.i64.wrap (BitVec.ofInt IntKind.i64.bits t30.1 &&& ~~~ BitVec.ofInt IntKind.i64.bits (16:Int)).toNat,t33.1,t48.1⟩:S_api_Raw)]:List S_api_Raw)).length cap66)] fun a ha=>?_;have o1:=oN (blkL ao66++([g60]++([g36]++([g7]++(M))))) w65;have o2:Ok (blkL ao66++([g7]++(M))) (blkL ao66++([g60]++([g36]++([g7]++(M))))) w65.heap.size:=(Ok.app (fun _ h=>.inl (ml h)) (fun _ h=>.inl (mr (mr (mr (h))))))
      have f66:=f66.chg (Chg.refl [] _) o1 o2 (fun _ _ h=>nomatch h) (fun _ h=>ml h);have f50:=f50.chg (Chg.refl [] _) o1 o2;have hM:MS (blkL ao66++([g7]++(M))) w65:=(MS.app (fun x h=>hM.chg (Chg.refl [] _) x (ml h)) (fun x h=>hM.chg (Chg.refl [] _) x (mr (mr (mr (h))))))
      exact ⟨kk,Nat.lt_succ_self _,⟨(x13++([(⟨IntKind.i64.wrap (BitVec.ofInt IntKind.i64.bits t30.1 &&& ~~~ BitVec.ofInt IntKind.i64.bits (16:Int)).toNat,t33.1,t48.1⟩:S_api_Raw)]:List S_api_Raw)),t48.2.rest.left,t48.2.rest.bad,ao66,cap66,ao50,cap50,H,(ha.sel (by kernel_rfl)),f66,f50,hBg7,e_i66,p_i66_i8,p_i66_M,hC,hM⟩⟩
    have H:=H43;refine sqd ha 3 [6] [(29,.bool ((IntKind.i64.wrap (BitVec.ofInt IntKind.i64.bits t30.1 &&& BitVec.ofInt IntKind.i64.bits (16:Int)).toNat) != (0:Int)))] fun a ha=>?_;refine cnH H ha (fun hc68 H=>?_) (fun hc68 H=>?_)
    ·refine wp_region_lit ?_;refine sd ha 1 [29] [(8,.int .i64 2)] fun a ha=>?_;obtain rfl:=oj H;exact J43 _ _ (ha.sel (by kernel_rfl)) f11 f34 hBg7 hBg36 hC hM
    ·refine wp_skip ?_;obtain rfl:=oj H;exact J43 _ _ (ha.sel (by kernel_rfl)) f11 f34 hBg7 hBg36 hC hM
  ·refine wx ?_;obtain rfl:=oj H;exact J10 _ _ _ ao11 cap11 ao12 cap12 rfl (ha.sel (by kernel_rfl)) f11 f12 hBg7 e_i11 p_i11_i8 p_i11_M hC hM
def attr_flagsOf.f (a0:Int):Option (Int×Bool):=((if (a0==(1:Int))=true then some (a0==(1:Int):Bool) else (if (a0==(2:Int))=true then some (a0==(2:Int):Bool) else some (a0==(5:Int):Bool)))).bind fun s5=>(if s5=true then some (((64:Int):Int),(true:Bool)) else ((if (a0==(4:Int))=true then some (a0==(4:Int):Bool) else (if (a0==(9:Int))=true then some (a0==(9:Int):Bool) else (if (a0==(10:Int))=true then some (a0==(10:Int):Bool) else (if (a0==(14:Int))=true then some (a0==(14:Int):Bool) else some (a0==(15:Int):Bool)))))).bind fun s9=>(if s9=true then some (((128:Int):Int),(true:Bool)) else ((if (a0==(16:Int))=true then some (a0==(16:Int):Bool) else some (a0==(22:Int):Bool))).bind fun s13=>(if s13=true then some (((192:Int):Int),(true:Bool)) else some (((0:Int):Int),(false:Bool)))))
set_option maxRecDepth 100000 in
theorem attr_flagsOf.walk (w:World) (M:List Nat) (hM:MS M w) (a0:Int) (r:Int×Bool) (H:attr_flagsOf.f a0=some r) :
    To Tryz.prog 19 [.int .i64 a0] w fun v w'=>v=.tuple #[.int .i64 r.1,.bool r.2]∧Chg [] w w'∧MS (M) w':=by
 unfold attr_flagsOf.f at H;refine ent Tryz.func19 rfl [(0,.int .i64 a0)] rfl (by rfl) fun a ha=>?_;have hC:Chg [] w w:=Chg.refl _ _;refine sqd ha 2 [] [] fun a ha=>?_;refine wp_seq_k fun K2 hK2=>?_;refine sq ha 1 [(4,.int .i64 a0)] fun a ha=>?_;refine wp_block ?_;refine wp_seq_k fun K4 hK4=>?_;obtain ⟨s5,H5,H⟩:=bind_some H;have J5:∀ (a:Act) (w5:World),Has a Tryz.f19.ntmps [(4,.int .i64 a0),(5,.bool s5)]→(Chg [] w w5)→(MS (M) w5)→K4 a w5:=by
  intro a w5 ha hC hM;refine hK4 _ _ ?_;refine cnH H ha (fun hc6 H=>?_) (fun hc6 H=>?_)
  ·refine sq ha 2 [(2,.int .i64 64),(3,.bool true)] fun a ha=>?_;refine wrt ?_;obtain rfl:=oj H;refine rt2 ha rfl rfl rfl ?_;exact ⟨rfl,hC,hM⟩
  ·refine wp_seq_k fun K8 hK8=>?_;obtain ⟨s9,H9,H⟩:=bind_some H;have J9:∀ (a:Act) (w9:World),Has a Tryz.f19.ntmps [(4,.int .i64 a0),(9,.bool s9)]→(Chg [] w w9)→(MS (M) w9)→K8 a w9:=by
    intro a w9 ha hC hM;refine hK8 _ _ ?_;refine cnH H ha (fun hc10 H=>?_) (fun hc10 H=>?_)
    ·refine sq ha 2 [(2,.int .i64 128),(3,.bool true)] fun a ha=>?_;refine wrt ?_;obtain rfl:=oj H;refine rt2 ha rfl rfl rfl ?_;exact ⟨rfl,hC,hM⟩
    ·refine wp_seq_k fun K12 hK12=>?_;obtain ⟨s13,H13,H⟩:=bind_some H;have J13:∀ (a:Act) (w13:World),Has a Tryz.f19.ntmps [(15,.bool s13)]→(Chg [] w w13)→(MS (M) w13)→K12 a w13:=by
      intro a w13 ha hC hM;refine hK12 _ _ ?_;refine cnH H ha (fun hc14 H=>?_) (fun hc14 H=>?_)
      ·refine sq ha 2 [(2,.int .i64 192),(3,.bool true)] fun a ha=>?_;refine wrt ?_;obtain rfl:=oj H;refine rt2 ha rfl rfl rfl ?_;exact ⟨rfl,hC,hM⟩
      ·refine wp_skip ?_;refine hK2 _ _ ?_;refine sq ha 2 [(2,.int .i64 0),(3,.bool false)] fun a ha=>?_;refine wrt ?_;obtain rfl:=oj H;refine rt2 ha rfl rfl rfl ?_;exact ⟨rfl,hC,hM⟩
     have H:=H13;refine sqd ha 2 [9] [(15,.bool (a0==(16:Int)))] fun a ha=>?_;refine cnH H ha (fun hc18 H=>?_) (fun hc18 H=>?_)
     ·refine wp_skip ?_;obtain rfl:=oj H;exact J13 _ _ (ha.sel (by kernel_rfl)) hC hM
     ·refine wp_region_lit ?_;refine sf ha 2 [(15,.bool (a0==(22:Int)))] fun a ha=>?_;obtain rfl:=oj H;exact J13 _ _ (ha.sel (by kernel_rfl)) hC hM
   have H:=H9;refine sqd ha 2 [5] [(9,.bool (a0==(4:Int)))] fun a ha=>?_;refine cnH H ha (fun hc20 H=>?_) (fun hc20 H=>?_)
   ·refine wp_skip ?_;obtain rfl:=oj H;exact J9 _ _ (ha.sel (by kernel_rfl)) hC hM
   ·refine sqd ha 2 [] [(9,.bool (a0==(9:Int)))] fun a ha=>?_;refine cnH H ha (fun hc22 H=>?_) (fun hc22 H=>?_)
    ·refine wp_skip ?_;obtain rfl:=oj H;exact J9 _ _ (ha.sel (by kernel_rfl)) hC hM
    ·refine sqd ha 2 [] [(9,.bool (a0==(10:Int)))] fun a ha=>?_;refine cnH H ha (fun hc24 H=>?_) (fun hc24 H=>?_)
     ·refine wp_skip ?_;obtain rfl:=oj H;exact J9 _ _ (ha.sel (by kernel_rfl)) hC hM
     ·refine sqd ha 2 [] [(9,.bool (a0==(14:Int)))] fun a ha=>?_;refine cnH H ha (fun hc26 H=>?_) (fun hc26 H=>?_)
      ·refine wp_skip ?_;obtain rfl:=oj H;exact J9 _ _ (ha.sel (by kernel_rfl)) hC hM
      ·refine wp_region_lit ?_;refine sd ha 2 [] [(9,.bool (a0==(15:Int)))] fun a ha=>?_;obtain rfl:=oj H;exact J9 _ _ (ha.sel (by kernel_rfl)) hC hM
 have H:=H5;refine sqd ha 2 [] [(5,.bool (a0==(1:Int)))] fun a ha=>?_;refine cnH H ha (fun hc28 H=>?_) (fun hc28 H=>?_)
 ·refine wp_skip ?_;obtain rfl:=oj H;exact J5 _ _ (ha.sel (by kernel_rfl)) hC hM
 ·refine sqd ha 2 [] [(5,.bool (a0==(2:Int)))] fun a ha=>?_;refine cnH H ha (fun hc30 H=>?_) (fun hc30 H=>?_)
  ·refine wp_skip ?_;obtain rfl:=oj H;exact J5 _ _ (ha.sel (by kernel_rfl)) hC hM
  ·refine wp_region_lit ?_;refine sd ha 2 [] [(5,.bool (a0==(5:Int)))] fun a ha=>?_;obtain rfl:=oj H;exact J5 _ _ (ha.sel (by kernel_rfl)) hC hM
def attr_table.f (a0:Int):Option (Bool):=some ((if (a0==(14:Int))=true then true else (a0==(15:Int)):Bool))
set_option maxRecDepth 100000 in
theorem attr_table.walk (w:World) (M:List Nat) (hM:MS M w) (a0:Int) (r:Bool) (H:attr_table.f a0=some r) :
    To Tryz.prog 78 [.int .i64 a0] w fun v w'=>v=.bool r∧Chg [] w w'∧MS (M) w':=by
 unfold attr_table.f at H;refine ent Tryz.func78 rfl [(0,.int .i64 a0)] rfl (by rfl) fun a ha=>?_;have hC:Chg [] w w:=Chg.refl _ _;refine sqd ha 1 [] [] fun a ha=>?_;refine sq ha 7 [(2,.bool (if (a0==(14:Int))=true then true else (a0==(15:Int))))] fun a ha=>?_;refine wrt ?_;obtain rfl:=oj H;refine rt1 ha rfl rfl ?_;exact ⟨rfl,hC,hM⟩
def attr_fits.f (a0:Int) (a1:Int):Option (Bool):=some ((if (a0==a1)=true then true else (if (a1==(192:Int))=true then (a0==(224:Int)) else false):Bool))
set_option maxRecDepth 100000 in
theorem attr_fits.walk (w:World) (M:List Nat) (hM:MS M w) (a0:Int) (a1:Int) (r:Bool) (H:attr_fits.f a0 a1=some r) :
    To Tryz.prog 80 [.int .i64 a0,.int .i64 a1] w fun v w'=>v=.bool r∧Chg [] w w'∧MS (M) w':=by
 unfold attr_fits.f at H;refine ent Tryz.func80 rfl [(0,.int .i64 a0),(1,.int .i64 a1)] rfl (by rfl) fun a ha=>?_;have hC:Chg [] w w:=Chg.refl _ _;refine sqd ha 1 [] [] fun a ha=>?_;refine sq ha 12 [(4,.bool (if (a0==a1)=true then true else (if (a1==(192:Int))=true then (a0==(224:Int)) else false)))] fun a ha=>?_;refine wrt ?_;obtain rfl:=oj H;refine rt1 ha rfl rfl ?_;exact ⟨rfl,hC,hM⟩
structure RdS where
  o:Int
  m:Int
  p:Int
  out:Int
  had:List (Int×Bool)
def av3 (o m p:Int):S_api_Attrs:=⟨o,[],m,p,⟨0,List.replicate 16 0⟩,[],[],[]⟩
def cAt (o m p:Int):List Value:=cS_api_Attrs (av3 o m p) none 0 none 0 none 0 none 0
def cRd (s:RdS) (gm:Nat):List Value:=cAt s.o s.m s.p++[.slice none 0 0,.int .i64 s.out,.map (some gm)]
def RdAt (w:World) (g gm:Nat) (s:RdS):Prop:=g≠gm∧Box w g (cRd s gm)∧MapR (kI .i64) kB w gm s.had
theorem RdAt.nil {w w':World} {g gm:Nat} {s:RdS} (h:RdAt w g gm s) (hc:Chg [] w w'):RdAt w' g gm s :=
  ⟨h.1,h.2.1.chg hc (fun h=>nomatch h),h.2.2.chg hc (fun h=>nomatch h)⟩
theorem u104:Tryz.prog.underlying 88=some (.map 3 4):=by kernel_rfl
theorem K3i:MKey Tryz.prog 3 (kI .i64):=mkey_int (by kernel_rfl)
theorem rd_none (w:World):To Tryz.prog 14 [] w fun v w'=>v=.agg (cAt 0 (-1) (-1)).toArray∧Chg [] w w':=by
  refine ent Tryz.func14 rfl [] rfl (by rfl) fun a ha=>?_
  refine wp_seq_k fun K hK=>?_
  refine wp_region_lit ?_
  refine al (cs:=cAt 0 0 0) (z:=.agg (cAt 0 0 0).toArray) ha (fun w=>by kernel_rfl) rfl rfl rfl rfl fun a w2 g hN ha=>?_
  refine sf ha 0 [(0,pt g 0)] fun a ha=>?_
  refine hK _ _ ?_;clear hK K
  refine wp_seq_k fun K hK=>?_
  refine wp_region_lit ?_
  refine oP (.agg (cAt 0 (-1) (-1)).toArray) ha fun a ha=>?_
  refine stA (l:=cAt 0 (-1) (-1)) ha rfl rfl rfl (by kernel_rfl) rfl rfl hN.box rfl fun a w3 ha hb2 hc _=>?_
  have hB:Box w3 g (cAt 0 (-1) (-1)):=hb2.cast (by kernel_rfl)
  refine wpl_end ?_
  have ha:=ha.sel (env':=[(0,.pointer (some ⟨g,0,none⟩))]) (by kernel_rfl)
  refine hK _ _ ?_;clear hK K
  refine wp_ret ?_
  refine rtr ha (res1 rfl (roA ha rfl hB (by kernel_rfl))) ?_
  exact ⟨rfl,hN.chg.trans hc (Ok.one (.inr hN.ge))⟩
def mxo (s:RdS) (n:Int):RdS:=⟨s.o,s.m,s.p,if n > s.out then n else s.out,s.had⟩
theorem came_walk (w:World) (g gm:Nat) (s:RdS) (h:RdAt w g gm s) (n:Int) :
    To Tryz.prog 57 [.pointer (some ⟨g,0,none⟩),.int .i64 n] w fun v w'=>v=.tuple #[]∧RdAt w' g gm (mxo s n)∧Chg [g] w w':=by
  obtain ⟨hne,hB,hm⟩:=h
  refine ent Tryz.func57 rfl [(0,.pointer (some ⟨g,0,none⟩)),(1,.int .i64 n)] rfl (by rfl) fun a ha=>?_
  refine wp_region_lit ?_
  refine sf ha 4 [(1,.int .i64 n),(4,pt g 0),(7,pt g 25)] fun a ha=>?_
  refine ld (v:=.int .i64 s.out) ha rfl (by kernel_rfl) rfl rfl rfl (hB.cell' (o:=25) rfl (by kernel_rfl)) fun a ha=>?_
  refine sf ha 1 [(4,pt g 0),(8,.int .i64 s.out),(9,.int .i64 n)] fun a ha=>?_
  refine oP (.int .i64 (if n > s.out then n else s.out)) ha fun a ha=>?_
  refine sf ha 2 [(10,.int .i64 (if n > s.out then n else s.out)),(12,pt g 25)] fun a ha=>?_
  refine st ha rfl rfl rfl (by kernel_rfl) rfl rfl hB (Nat.le_of_ble_eq_true (by kernel_rfl)) fun a w2 ha hb2 hc _=>?_
  refine wpl_end ?_
  have hB:Box w2 g (cRd (mxo s n) gm):=hb2.cast (by kernel_rfl)
  exact rt0 ha rfl ⟨rfl,⟨hne,hB,hm.chg hc (by simp [Ne.symm hne])⟩,hc⟩
theorem strange_walk (w:World) (g gm:Nat) (s:RdS) (h:RdAt w g gm s) (x:S_api_Raw) (ao:Option Addr) (cap:Nat) (hq:(IntKind.i64.wrap (BitVec.ofInt IntKind.i64.bits x.Flags &&& BitVec.ofInt IntKind.i64.bits (128:Int)).toNat==(0:Int))=true) :
    To Tryz.prog 77 [.pointer (some ⟨g,0,none⟩),.agg (cS_api_Raw x ao cap).toArray] w fun v w'=>v=.tuple #[]∧RdAt w' g gm (mxo s 3)∧Chg [g] w w':=by
  refine ent Tryz.func77 rfl [(0,.pointer (some ⟨g,0,none⟩)),(1,.agg (cS_api_Raw x ao cap).toArray)] rfl (by rfl) fun a ha=>?_
  refine wp_top_k fun K0 hK0=>?_
  refine wp_seq_k fun K hK=>?_
  refine wp_region_lit ?_
  refine bx (cs:=cS_api_Raw x ao cap) ha rfl rfl rfl rfl rfl fun a w1 gN hN ha=>?_
  have h:=h.nil hN.chg
  refine sf ha 0 [(0,pt g 0),(3,pt gN 0)] fun a ha=>?_
  refine hK _ _ ?_;clear hK K
  refine wp_block ?_
  refine wp_seq_k fun K hK=>?_
  refine wp_region_lit ?_
  refine sf ha 1 [(0,pt g 0),(5,pt gN 0)] fun a ha=>?_
  refine ld (v:=.int .i64 x.Flags) ha rfl (by kernel_rfl) rfl rfl rfl (hN.box.cell' (o:=0) rfl (by kernel_rfl)) fun a ha=>?_
  refine sf ha 3 [(4,.bool (IntKind.i64.wrap (BitVec.ofInt IntKind.i64.bits x.Flags &&& BitVec.ofInt IntKind.i64.bits (128:Int)).toNat==(0:Int))),(0,pt g 0)] fun a ha=>?_
  have ha:=ha.lit hq
  refine hK _ _ ?_;clear hK K
  refine cnd ha rfl (fun _=>?_) (fun h=>nomatch h)
  refine wp_region_lit ?_
  refine sf ha 1 [(9,pt g 0)] fun a ha=>?_
  refine cL ha (came_walk w1 g gm s h 3) ?_
  rintro _ w2 ⟨rfl,h2,c2⟩ a ha
  refine wpl_end ?_
  refine hK0 _ _ ?_
  exact rt0 ha rfl ⟨rfl,h2,(hN.chg.mono (Ok.nil _ _)).trans c2 (Ok.one (.inl (by simp)))⟩
def said1.f (k:Nat) (b:List Int):Option (Int×Bool):=(cursor_Open.f b).bind fun t=>(cursor_Reader_Num.f k t 1).bind fun n=>some (n.1,if ((b.length:Int)==1)=true then decide (n.1≤(2:Int)) else false)
def said4.f (k:Nat) (b:List Int):Option (Int×Bool):=(cursor_Open.f b).bind fun t=>(cursor_Reader_Num.f k t 4).bind fun n=>some (n.1,((b.length:Int)==4))
theorem said1_walk (w:World) (M:List Nat) (hM:MS M w) (b:List Int) (ao:Option Addr) (cap:Nat) (f1:RSl (rInt .u8) 5 w M ao cap b) (k:Nat) (r:Int×Bool) (H:said1.f k b=some r) :
    To Tryz.prog 81 [.int .i64 1,.slice ao b.length cap] w fun v w'=>v=.tuple #[.iface 3 (.int .i64 r.1),.bool r.2]∧Chg [] w w':=by
  unfold said1.f at H
  obtain ⟨t,Ht,H⟩:=bind_some H
  obtain ⟨n,Hn,H⟩:=bind_some H
  have H:=oj H
  refine ent Tryz.func81 rfl [(0,.int .i64 1),(1,.slice ao b.length cap)] rfl (by rfl) fun a ha=>?_
  refine wp_seq_k fun K hK=>?_
  refine wp_region_lit ?_
  refine sf ha 2 [(0,.int .i64 1),(1,.slice ao b.length cap)] fun a ha=>?_
  refine hK _ _ ?_;clear hK K
  refine wp_seq_k fun K hK=>?_
  refine wp_region_lit ?_
  refine sf ha 1 [(0,.int .i64 1),(1,.slice ao b.length cap),(18,.slice ao b.length cap)] fun a ha=>?_
  refine cL ha (cursor_Open.walk w _ hM b ao cap f1 _ Ht) ?_
  rintro _ w1 ⟨g,ao2,cap2,rfl,f2,hB,he,c1,hM1⟩ a ha
  refine sf ha 1 [(0,.int .i64 1),(1,.slice ao b.length cap),(6,pt g 0)] fun a ha=>?_
  refine hK _ _ ?_;clear hK K
  refine wp_seq_k fun K hK=>?_
  refine wsr fun K2 hK2=>?_
  refine sf ha 1 [(20,.int .i64 1),(1,.slice ao b.length cap),(6,pt g 0)] fun a ha=>?_
  refine hK2 _ _ ?_;clear hK2 K2
  refine wp_block ?_
  refine wsr fun K2 hK2=>?_
  refine sf ha 2 [(21,.bool true),(1,.slice ao b.length cap),(6,pt g 0)] fun a ha=>?_
  refine hK2 _ _ ?_;clear hK2 K2
  refine cnd ha rfl (fun _=>?_) (fun h=>nomatch h)
  refine wsr fun K2 hK2=>?_
  refine sf ha 1 [(23,pt g 0),(1,.slice ao b.length cap)] fun a ha=>?_
  refine cL ha (cursor_Reader_Num.walk w1 _ hM1 g t ao2 cap2 f2 hB (by simp) 1 k _ Hn) ?_
  rintro _ w2 ⟨ao3,cap3,rfl,f3,hB2,c2,hM2⟩ a ha
  refine sf ha 1 [(7,.int .i64 n.1),(1,.slice ao b.length cap)] fun a ha=>?_
  refine hK2 _ _ ?_;clear hK2 K2
  refine wsr fun K2 hK2=>?_
  refine sf ha 1 [(25,.int .i64 n.1),(7,.int .i64 n.1),(1,.slice ao b.length cap)] fun a ha=>?_
  refine oP (.iface 3 (.int .i64 n.1)) ha fun a ha=>?_
  refine sf ha 9 [(4,.iface 3 (.int .i64 n.1)),(5,.bool (if ((b.length:Int)==1)=true then decide (n.1≤(2:Int)) else false))] fun a ha=>?_
  refine hK2 _ _ ?_;clear hK2 K2
  refine wp_ret ?_
  simp only [Exit.then,Exit.inBlock]
  subst H
  exact rt2 ha rfl rfl rfl ⟨rfl,c1.trans c2 (Ok.one (.inr (he g (by simp))))⟩
theorem said4_walk (w:World) (M:List Nat) (hM:MS M w) (b:List Int) (ao:Option Addr) (cap:Nat) (f1:RSl (rInt .u8) 5 w M ao cap b) (k:Nat) (r:Int×Bool) (H:said4.f k b=some r) :
    To Tryz.prog 81 [.int .i64 4,.slice ao b.length cap] w fun v w'=>v=.tuple #[.iface 3 (.int .i64 r.1),.bool r.2]∧Chg [] w w':=by
  unfold said4.f at H
  obtain ⟨t,Ht,H⟩:=bind_some H
  obtain ⟨n,Hn,H⟩:=bind_some H
  have H:=oj H
  refine ent Tryz.func81 rfl [(0,.int .i64 4),(1,.slice ao b.length cap)] rfl (by rfl) fun a ha=>?_
  refine wp_seq_k fun K hK=>?_
  refine wp_region_lit ?_
  refine sf ha 2 [(0,.int .i64 4),(1,.slice ao b.length cap)] fun a ha=>?_
  refine hK _ _ ?_;clear hK K
  refine wp_seq_k fun K hK=>?_
  refine wp_region_lit ?_
  refine sf ha 1 [(0,.int .i64 4),(1,.slice ao b.length cap),(18,.slice ao b.length cap)] fun a ha=>?_
  refine cL ha (cursor_Open.walk w _ hM b ao cap f1 _ Ht) ?_
  rintro _ w1 ⟨g,ao2,cap2,rfl,f2,hB,he,c1,hM1⟩ a ha
  refine sf ha 1 [(0,.int .i64 4),(1,.slice ao b.length cap),(6,pt g 0)] fun a ha=>?_
  refine hK _ _ ?_;clear hK K
  refine wp_seq_k fun K hK=>?_
  refine wsr fun K2 hK2=>?_
  refine sf ha 1 [(20,.int .i64 4),(1,.slice ao b.length cap),(6,pt g 0)] fun a ha=>?_
  refine hK2 _ _ ?_;clear hK2 K2
  refine wp_block ?_
  refine wsr fun K2 hK2=>?_
  refine sf ha 2 [(21,.bool false),(20,.int .i64 4),(1,.slice ao b.length cap),(6,pt g 0)] fun a ha=>?_
  refine hK2 _ _ ?_;clear hK2 K2
  refine cnd ha rfl (fun h=>nomatch h) (fun _=>?_)
  refine wp_seq_k fun K2 hK2=>?_
  refine wsr fun K3 hK3=>?_
  refine sf ha 2 [(34,.bool true),(1,.slice ao b.length cap),(6,pt g 0)] fun a ha=>?_
  refine hK3 _ _ ?_;clear hK3 K3
  refine cnd ha rfl (fun _=>?_) (fun h=>nomatch h)
  refine wp_skip ?_
  refine hK2 _ _ ?_;clear hK2 K2
  refine cnd ha rfl (fun _=>?_) (fun h=>nomatch h)
  refine wsr fun K2 hK2=>?_
  refine sf ha 1 [(37,pt g 0),(1,.slice ao b.length cap)] fun a ha=>?_
  refine cL ha (cursor_Reader_Num.walk w1 _ hM1 g t ao2 cap2 f2 hB (by simp) 4 k _ Hn) ?_
  rintro _ w2 ⟨ao3,cap3,rfl,f3,hB2,c2,hM2⟩ a ha
  refine oP (.iface 3 (.int .i64 n.1)) ha fun a ha=>?_
  refine sf ha 5 [(4,.iface 3 (.int .i64 n.1)),(5,.bool ((b.length:Int)==4))] fun a ha=>?_
  refine hK2 _ _ ?_;clear hK2 K2
  refine wp_ret ?_
  simp only [Exit.then,Exit.inBlock]
  subst H
  exact rt2 ha rfl rfl rfl ⟨rfl,c1.trans c2 (Ok.one (.inr (he g (by simp))))⟩
def said.f (k:Nat) (kind:Int) (b:List Int):Option (Int×Bool):=if kind=1 then said1.f k b else if kind=4 then said4.f k b else none
theorem said_walk (w:World) (M:List Nat) (hM:MS M w) (kind:Int) (b:List Int) (ao:Option Addr) (cap:Nat) (f1:RSl (rInt .u8) 5 w M ao cap b) (k:Nat) (r:Int×Bool) (H:said.f k kind b=some r) :
    To Tryz.prog 81 [.int .i64 kind,.slice ao b.length cap] w fun v w'=>v=.tuple #[.iface 3 (.int .i64 r.1),.bool r.2]∧Chg [] w w':=by
  unfold said.f at H
  by_cases h1:kind=1
  · subst h1
    exact said1_walk w M hM b ao cap f1 k r H
  · rw [if_neg h1] at H
    by_cases h4:kind=4
    · subst h4
      exact said4_walk w M hM b ao cap f1 k r H
    · rw [if_neg h4] at H;cases H
theorem set1_walk (w:World) (g gm:Nat) (s:RdS) (h:RdAt w g gm s) (v:Int) :
    To Tryz.prog 82 [.pointer (some ⟨g,0,none⟩),.int .i64 1,.iface 3 (.int .i64 v)] w fun u w'=>u=.tuple #[]∧RdAt w' g gm ⟨v,s.m,s.p,s.out,s.had⟩∧Chg [g] w w':=by
  obtain ⟨hne,hB,hm⟩:=h
  refine ent Tryz.func82 rfl [(0,.pointer (some ⟨g,0,none⟩)),(1,.int .i64 1),(2,.iface 3 (.int .i64 v))] rfl (by rfl) fun a ha=>?_
  refine wp_top_k fun K0 hK0=>?_
  refine wp_seq_k fun K hK=>?_
  refine wp_region_lit ?_
  refine sf ha 1 [(0,pt g 0),(6,.int .i64 1),(2,.iface 3 (.int .i64 v))] fun a ha=>?_
  refine hK _ _ ?_;clear hK K
  refine wp_block ?_
  refine wp_seq_k fun K hK=>?_
  refine wp_region_lit ?_
  refine sf ha 2 [(7,.bool true),(0,pt g 0),(2,.iface 3 (.int .i64 v))] fun a ha=>?_
  refine hK _ _ ?_;clear hK K
  refine cnd ha rfl (fun _=>?_) (fun h=>nomatch h)
  refine wp_region_lit ?_
  refine sf ha 2 [(9,pt g 0),(10,.iface 3 (.int .i64 v))] fun a ha=>?_
  refine oP (.int .i64 v) ha fun a ha=>?_
  refine sf ha 2 [(13,pt g 0),(11,.int .i64 v)] fun a ha=>?_
  refine st ha rfl rfl rfl (by kernel_rfl) rfl rfl hB (Nat.le_of_ble_eq_true (by kernel_rfl)) fun a w2 ha hb2 hc _=>?_
  refine wpl_end ?_
  refine hK0 _ _ ?_
  have hB:Box w2 g (cRd ⟨v,s.m,s.p,s.out,s.had⟩ gm):=hb2.cast (by kernel_rfl)
  exact rt0 ha rfl ⟨rfl,⟨hne,hB,hm.chg hc (by simp [Ne.symm hne])⟩,hc⟩
theorem set4_walk (w:World) (g gm:Nat) (s:RdS) (h:RdAt w g gm s) (v:Int) :
    To Tryz.prog 82 [.pointer (some ⟨g,0,none⟩),.int .i64 4,.iface 3 (.int .i64 v)] w fun u w'=>u=.tuple #[]∧RdAt w' g gm ⟨s.o,v,s.p,s.out,s.had⟩∧Chg [g] w w':=by
  obtain ⟨hne,hB,hm⟩:=h
  refine ent Tryz.func82 rfl [(0,.pointer (some ⟨g,0,none⟩)),(1,.int .i64 4),(2,.iface 3 (.int .i64 v))] rfl (by rfl) fun a ha=>?_
  refine wp_top_k fun K0 hK0=>?_
  refine wp_seq_k fun K hK=>?_
  refine wp_region_lit ?_
  refine sf ha 1 [(0,pt g 0),(6,.int .i64 4),(2,.iface 3 (.int .i64 v))] fun a ha=>?_
  refine hK _ _ ?_;clear hK K
  refine wp_block ?_
  refine wp_seq_k fun K hK=>?_
  refine wp_region_lit ?_
  refine sf ha 2 [(7,.bool false),(6,.int .i64 4),(0,pt g 0),(2,.iface 3 (.int .i64 v))] fun a ha=>?_
  refine hK _ _ ?_;clear hK K
  refine cnd ha rfl (fun h=>nomatch h) (fun _=>?_)
  refine wp_seq_k fun K hK=>?_
  refine wp_region_lit ?_
  refine sf ha 2 [(14,.bool false),(6,.int .i64 4),(0,pt g 0),(2,.iface 3 (.int .i64 v))] fun a ha=>?_
  refine hK _ _ ?_;clear hK K
  refine cnd ha rfl (fun h=>nomatch h) (fun _=>?_)
  refine wp_seq_k fun K hK=>?_
  refine wp_region_lit ?_
  refine sf ha 2 [(21,.bool true),(0,pt g 0),(2,.iface 3 (.int .i64 v))] fun a ha=>?_
  refine hK _ _ ?_;clear hK K
  refine cnd ha rfl (fun _=>?_) (fun h=>nomatch h)
  refine wp_region_lit ?_
  refine sf ha 2 [(23,pt g 0),(24,.iface 3 (.int .i64 v))] fun a ha=>?_
  refine oP (.int .i64 v) ha fun a ha=>?_
  refine sf ha 2 [(27,pt g 2),(25,.int .i64 v)] fun a ha=>?_
  refine st ha rfl rfl rfl (by kernel_rfl) rfl rfl hB (Nat.le_of_ble_eq_true (by kernel_rfl)) fun a w2 ha hb2 hc _=>?_
  refine wpl_end ?_
  refine hK0 _ _ ?_
  have hB:Box w2 g (cRd ⟨s.o,v,s.p,s.out,s.had⟩ gm):=hb2.cast (by kernel_rfl)
  exact rt0 ha rfl ⟨rfl,⟨hne,hB,hm.chg hc (by simp [Ne.symm hne])⟩,hc⟩
def setf.f (s:RdS) (kind v:Int):Option RdS:=if kind=1 then some ⟨v,s.m,s.p,s.out,s.had⟩ else if kind=4 then some ⟨s.o,v,s.p,s.out,s.had⟩ else none
theorem set_walk (w:World) (g gm:Nat) (s:RdS) (h:RdAt w g gm s) (kind v:Int) (r:RdS) (H:setf.f s kind v=some r) :
    To Tryz.prog 82 [.pointer (some ⟨g,0,none⟩),.int .i64 kind,.iface 3 (.int .i64 v)] w fun u w'=>u=.tuple #[]∧RdAt w' g gm r∧Chg [g] w w':=by
  unfold setf.f at H
  by_cases h1:kind=1
  · subst h1
    obtain rfl:=oj H
    exact set1_walk w g gm s h v
  · rw [if_neg h1] at H
    by_cases h4:kind=4
    · subst h4
      obtain rfl:=oj H
      exact set4_walk w g gm s h v
    · rw [if_neg h4] at H;cases H
theorem mlk1_run {α β:Type} [BEq α] {P:Program} {kv:α→Value} {vv:β→Value} {n:Nat} {w:World} {a:Act} {env:Env} {dd:Option Tmp} {ty:TypeId} {pos:String} {af:Array Edge} {gd:Option (Nat×Bool)} {t kt e:TypeId} {x y:Operand} {g:Nat} {l:List (α×β)} {k:α} {z:β} (ha:Has a n env) (ht:P.underlying t=some (.map kt e)) (K:MKey P kt kv) (hx:ev env x=some (.map (some g))) (hy:ev env y=some (kv k))
    (hz:∀ w,(zeroValue e).run P w=.ok (vv z) w) (h:MapR kv vv w g l) :
    (execOp a.eval ⟨dd,.lookup t x y false,ty,pos,af,gd⟩).run P w=.ok (.value (vv ((mget l k).getD z))) w:=by
  obtain ⟨es,c,hb,he,_⟩:=h
  have e1:execOp a.eval ⟨dd,.lookup t x y false,ty,pos,af,gd⟩=(Instr.lookup t (.map (some g)) (kv k) false >>= fun v=>pure (Next.value v)):=by
    simp [execOp,ha.ev hx,ha.ev hy]
  refine execOp_val' e1 ?_
  rcases findKey_run K he k w with ⟨a1,a2,_⟩ | ⟨v,j,a1,a2,_⟩
  · simp [Instr.lookup,run_underlying ht,getObj,Sem.run,hb,K.check w _ k,a1,a2,hz w]
  · simp [Instr.lookup,run_underlying ht,getObj,Sem.run,hb,K.check w _ k,a1,a2]
def hadv (s:RdS) (k:Int):Bool:=(mget s.had k).getD false
def taken (s:RdS) (k:Int):RdS:=⟨s.o,s.m,s.p,s.out,mset s.had k true⟩
def take.f (k:Nat) (s:RdS) (x:S_api_Raw):Option RdS :=
  (attr_flagsOf.f x.Kind).bind fun t =>
  if (!t.2)=true then (if (IntKind.i64.wrap (BitVec.ofInt IntKind.i64.bits x.Flags &&& BitVec.ofInt IntKind.i64.bits (128:Int)).toNat==(0:Int))=true then some (mxo s 3) else none) else
  if hadv s x.Kind=false then
    (attr_table.f x.Kind).bind fun tb=>if tb=true then none else
    (said.f k x.Kind x.Value).bind fun r=>(attr_fits.f x.Flags t.1).bind fun ft =>
    if (if (!r.2)=true then true else (!ft))=true then some (mxo (taken s x.Kind) 2) else setf.f (taken s x.Kind) x.Kind r.1
  else none
structure Tk (w0 w:World) (M:List Nat) (g gm gN:Nat) (s:RdS) (x:S_api_Raw) (ao:Option Addr) (cap:Nat):Prop where
  rd:RdAt w g gm s
  bx:Box w gN (cS_api_Raw x ao cap)
  sl:RSl (rInt .u8) 5 w M ao cap x.Value
  ms:MS M w
  ch:Chg [g,gm] w0 w
theorem Tk.nil {w0 w w':World} {M:List Nat} {g gm gN:Nat} {s:RdS} {x:S_api_Raw} {ao:Option Addr} {cap:Nat} (h:Tk w0 w M g gm gN s x ao cap) (hc:Chg [] w w'):Tk w0 w' M g gm gN s x ao cap :=
  ⟨h.rd.nil hc,h.bx.chg hc (fun h=>nomatch h),h.sl.chg hc (Ok.nil _ _) (Ok.refl _ _),h.ms.chg hc,h.ch.trans hc (Ok.nil _ _)⟩
theorem take_walk (w:World) (M:List Nat) (hM:MS M w) (g gm:Nat) (s:RdS) (h:RdAt w g gm s) (hgM:g∈M) (hmM:gm∈M) (x:S_api_Raw) (ao:Option Addr) (cap:Nat) (f1:RSl (rInt .u8) 5 w M ao cap x.Value) (k:Nat) (r:RdS) (H:take.f k s x=some r) :
    To Tryz.prog 56 [.pointer (some ⟨g,0,none⟩),.agg (cS_api_Raw x ao cap).toArray] w fun v w'=>v=.tuple #[]∧RdAt w' g gm r∧Chg [g,gm] w w':=by
  unfold take.f at H
  obtain ⟨t,Ht,H⟩:=bind_some H
  refine ent Tryz.func56 rfl [(0,.pointer (some ⟨g,0,none⟩)),(1,.agg (cS_api_Raw x ao cap).toArray)] rfl (by rfl) fun a ha=>?_
  refine wp_top_k fun K0 hK0=>?_
  refine wp_seq_k fun K hK=>?_
  refine wp_region_lit ?_
  refine bx (cs:=cS_api_Raw x ao cap) ha rfl rfl rfl rfl rfl fun a w1 gN hN ha=>?_
  have hgN:g≠gN:=fun e=>by have:=hM g hgM;have:=hN.ge;omega
  have hmN:gm≠gN:=fun e=>by have:=hM gm hmM;have:=hN.ge;omega
  have T:Tk w w1 M g gm gN s x ao cap:=⟨h.nil hN.chg,hN.box,f1.chg hN.chg (Ok.nil _ _) (Ok.refl _ _),hM.chg hN.chg,hN.chg.mono (Ok.nil _ _)⟩
  have hne:=h.1
  refine sf ha 0 [(0,pt g 0),(3,pt gN 0)] fun a ha=>?_
  refine hK _ _ ?_;clear hK K
  refine wp_seq_k fun K hK=>?_
  refine wp_region_lit ?_
  refine sf ha 1 [(0,pt g 0),(3,pt gN 0),(9,pt gN 1)] fun a ha=>?_
  refine ld (v:=.int .i64 x.Kind) ha rfl (by kernel_rfl) rfl rfl rfl (T.bx.cell' (o:=1) rfl (by kernel_rfl)) fun a ha=>?_
  refine cL ha (attr_flagsOf.walk w1 [] (MS.nil _) x.Kind _ Ht) ?_
  rintro _ w2 ⟨rfl,c2,_⟩ a ha
  have T:=T.nil c2
  refine sf ha 5 [(0,pt g 0),(3,pt gN 0),(4,.int .i64 t.1),(5,.bool t.2)] fun a ha=>?_
  refine hK _ _ ?_;clear hK K
  refine wp_seq_k fun K hK=>?_
  refine wp_block ?_
  refine wsr fun K2 hK2=>?_
  refine sf ha 3 [(0,pt g 0),(3,pt gN 0),(4,.int .i64 t.1),(14,.bool (!t.2))] fun a ha=>?_
  refine hK2 _ _ ?_;clear hK2 K2
  refine cnd ha rfl (fun hc=>?_) (fun hc=>?_)
  · obtain ⟨hq,H⟩:=ite_some (ite_t hc H)
    have H:=oj H
    refine wsr fun K2 hK2=>?_
    refine sf ha 1 [(3,pt gN 0),(17,pt g 0)] fun a ha=>?_
    refine ldA (cs:=cS_api_Raw x ao cap) ha rfl (by kernel_rfl) rfl rfl rfl (cells_sub (Box.cells T.bx) (all:=cS_api_Raw x ao cap) [] [] (by kernel_rfl)) fun a ha=>?_
    refine cL ha (strange_walk w2 g gm s T.rd x ao cap hq) ?_
    rintro _ w3 ⟨rfl,h3,c3⟩ a ha
    refine wpl_end ?_
    refine hK2 _ _ ?_;clear hK2 K2
    refine wp_ret ?_
    simp only [Exit.then,Exit.inBlock,topQ]
    subst H
    exact rtr ha (results_none rfl _ _ _) ⟨rfl,h3,T.ch.trans c3 (Ok.one (.inl (by simp)))⟩
  have H:=ite_f hc H
  obtain ⟨hh,H⟩:=ite_some H
  have hlk:∀ (w':World),Chg [] w2 w'→MapR (kI .i64) kB w' gm s.had:=fun w' hs=>T.rd.2.2.chg hs (fun h=>nomatch h)
  refine wp_seq_k fun K2 hK2=>?_
  refine drq0 (fun w'=>Chg [] w2 w') (by kernel_rfl) (by kernel_rfl) (fun _ h=>h) ?_
  refine qP 0 (pt g 0) ha fun a ha=>?_
  refine qP 0 (pt g 0) ha fun a ha=>?_
  refine qP 0 (pt g 26) ha fun a ha=>?_
  refine qV (v:=.map (some gm)) ha (fun w' hs=>ld_run ha rfl (by kernel_rfl) ((T.rd.2.1.chg hs (fun h=>nomatch h)).cell' (o:=26) rfl (by kernel_rfl))) fun a ha=>?_
  refine qP 0 (pt gN 1) ha fun a ha=>?_
  refine qV (v:=.int .i64 x.Kind) ha (fun w' hs=>ld_run ha rfl (by kernel_rfl) ((T.bx.chg hs (fun h=>nomatch h)).cell' (o:=1) rfl (by kernel_rfl))) fun a ha=>?_
  refine qV (v:=.bool (hadv s x.Kind)) ha (fun w' hs=>mlk1_run (k:=x.Kind) (z:=false) ha u104 K3i rfl rfl (fun w=>by kernel_rfl) (hlk w' hs)) fun a ha=>?_
  have ha:=ha.lit hh
  refine qP 0 (.bool false) ha fun a ha=>?_
  refine qO ha fun a ha=>?_
  refine qO ha fun a ha=>?_
  refine qO ha fun a ha=>?_
  refine qP 4 (.bool false) ha fun a ha=>?_
  refine qP 0 (.bool false) ha fun a ha=>?_
  have ha:=ha.sel (env':=[(20,.bool false),(0,.pointer (some ⟨g,0,none⟩)),(3,.pointer (some ⟨gN,0,none⟩)),(4,.int .i64 t.1)]) (by kernel_rfl)
  intro w3 hs3
  refine wpl_end ?_
  have T:=T.nil hs3
  refine hK2 _ _ ?_;clear hK2 K2
  refine cnd ha rfl (fun h=>nomatch h) (fun _=>?_)
  have hlk:∀ (w':World),Chg [] w3 w'→MapR (kI .i64) kB w' gm s.had:=fun w' hs=>T.rd.2.2.chg hs (fun h=>nomatch h)
  refine wp_seq_k fun K2 hK2=>?_
  refine drq0 (fun w'=>Chg [] w3 w') (by kernel_rfl) (by kernel_rfl) (fun _ h=>h) ?_
  refine qP 0 (pt g 0) ha fun a ha=>?_
  refine qP 0 (pt g 0) ha fun a ha=>?_
  refine qP 0 (pt g 26) ha fun a ha=>?_
  refine qV (v:=.map (some gm)) ha (fun w' hs=>ld_run ha rfl (by kernel_rfl) ((T.rd.2.1.chg hs (fun h=>nomatch h)).cell' (o:=26) rfl (by kernel_rfl))) fun a ha=>?_
  refine qP 0 (pt gN 1) ha fun a ha=>?_
  refine qV (v:=.int .i64 x.Kind) ha (fun w' hs=>ld_run ha rfl (by kernel_rfl) ((T.bx.chg hs (fun h=>nomatch h)).cell' (o:=1) rfl (by kernel_rfl))) fun a ha=>?_
  refine qV (v:=.bool (hadv s x.Kind)) ha (fun w' hs=>mlk1_run (k:=x.Kind) (z:=false) ha u104 K3i rfl rfl (fun w=>by kernel_rfl) (hlk w' hs)) fun a ha=>?_
  have ha:=ha.lit hh
  refine qP 0 (.bool false) ha fun a ha=>?_
  have ha:=ha.sel (env':=[(35,.bool false),(0,.pointer (some ⟨g,0,none⟩)),(3,.pointer (some ⟨gN,0,none⟩)),(4,.int .i64 t.1)]) (by kernel_rfl)
  intro w4 hs4
  refine wpl_end ?_
  have T:=T.nil hs4
  refine hK2 _ _ ?_;clear hK2 K2
  refine cnd ha rfl (fun h=>nomatch h) (fun _=>?_)
  refine wp_skip ?_
  refine hK _ _ ?_;clear hK K
  refine wp_seq_k fun K hK=>?_
  refine drq 6 (fun w'=>Chg [] w4 w') (by kernel_rfl) (by kernel_rfl) (fun _ h=>h) ?_
  refine qP 0 (pt g 0) ha fun a ha=>?_
  refine qP 0 (pt g 0) ha fun a ha=>?_
  refine qP 0 (pt g 26) ha fun a ha=>?_
  refine qV (v:=.map (some gm)) ha (fun w' hs=>ld_run ha rfl (by kernel_rfl) ((T.rd.2.1.chg hs (fun h=>nomatch h)).cell' (o:=26) rfl (by kernel_rfl))) fun a ha=>?_
  refine qP 0 (pt gN 1) ha fun a ha=>?_
  refine qV (v:=.int .i64 x.Kind) ha (fun w' hs=>ld_run ha rfl (by kernel_rfl) ((T.bx.chg hs (fun h=>nomatch h)).cell' (o:=1) rfl (by kernel_rfl))) fun a ha=>?_
  have ha:=ha.sel (env':=[(48,.map (some gm)),(50,.int .i64 x.Kind),(0,.pointer (some ⟨g,0,none⟩)),(3,.pointer (some ⟨gN,0,none⟩)),(4,.int .i64 t.1)]) (by kernel_rfl)
  intro w5 hs5
  have T:=T.nil hs5
  refine mup (k:=x.Kind) (u:=true) ha u104 K3i rfl rfl rfl rfl T.rd.2.2 fun a w6 ha hm6 c6=>?_
  have T:Tk w w6 M g gm gN (taken s x.Kind) x ao cap:=⟨⟨hne,T.rd.2.1.chg c6 (by simp [hne]),hm6⟩,T.bx.chg c6 (by simp [Ne.symm hmN]),T.sl.chg c6 (Ok.one (.inl hmM)) (Ok.refl _ _),T.ms.chg c6,T.ch.trans c6 (Ok.one (.inl (by simp)))⟩
  refine wpl_end ?_
  have ha:=ha.sel (env':=[(0,.pointer (some ⟨g,0,none⟩)),(3,.pointer (some ⟨gN,0,none⟩)),(4,.int .i64 t.1)]) (by kernel_rfl)
  refine hK _ _ ?_;clear hK K
  obtain ⟨tb,Htb,H⟩:=bind_some H
  refine wp_seq_k fun K hK=>?_
  refine wsr fun K2 hK2=>?_
  refine sf ha 1 [(0,pt g 0),(3,pt gN 0),(4,.int .i64 t.1),(51,pt gN 1)] fun a ha=>?_
  refine ld (v:=.int .i64 x.Kind) ha rfl (by kernel_rfl) rfl rfl rfl (T.bx.cell' (o:=1) rfl (by kernel_rfl)) fun a ha=>?_
  refine cL ha (attr_table.walk w6 [] (MS.nil _) x.Kind _ Htb) ?_
  rintro _ w7 ⟨rfl,c7,_⟩ a ha
  have T:=T.nil c7
  refine wpl_end ?_
  have ha:=ha.sel (env':=[(0,.pointer (some ⟨g,0,none⟩)),(3,.pointer (some ⟨gN,0,none⟩)),(4,.int .i64 t.1),(53,.bool tb)]) (by kernel_rfl)
  refine hK2 _ _ ?_;clear hK2 K2
  refine cnd ha rfl (fun hc=>?_) (fun hc=>?_)
  · have H:=ite_t hc H
    cases H
  have H:=ite_f hc H
  obtain ⟨q,Hq,H⟩:=bind_some H
  obtain ⟨ft,Hft,H⟩:=bind_some H
  refine wp_skip ?_
  refine hK _ _ ?_;clear hK K
  refine wp_seq_k fun K hK=>?_
  refine wp_region_lit ?_
  refine sf ha 1 [(0,pt g 0),(3,pt gN 0),(4,.int .i64 t.1),(73,pt gN 1)] fun a ha=>?_
  refine ld (v:=.int .i64 x.Kind) ha rfl (by kernel_rfl) rfl rfl rfl (T.bx.cell' (o:=1) rfl (by kernel_rfl)) fun a ha=>?_
  refine sf ha 1 [(0,pt g 0),(3,pt gN 0),(4,.int .i64 t.1),(74,.int .i64 x.Kind),(75,pt gN 2)] fun a ha=>?_
  refine ld (v:=.slice ao x.Value.length cap) ha rfl (by kernel_rfl) rfl rfl rfl (T.bx.cell' (o:=2) rfl (by kernel_rfl)) fun a ha=>?_
  refine cL ha (said_walk w7 M T.ms x.Kind x.Value ao cap T.sl k q Hq) ?_
  rintro _ w8 ⟨rfl,c8⟩ a ha
  have T:=T.nil c8
  refine sf ha 5 [(0,pt g 0),(3,pt gN 0),(4,.int .i64 t.1),(6,.iface 3 (.int .i64 q.1)),(7,.bool q.2)] fun a ha=>?_
  refine hK _ _ ?_;clear hK K
  refine wp_seq_k fun K hK=>?_
  refine wsr fun K2 hK2=>?_
  have J:∀ (a:Act) (w9:World),Has a Tryz.f56.ntmps [(0,pt g 0),(3,pt gN 0),(6,.iface 3 (.int .i64 q.1)),(88,.bool (if (!q.2)=true then true else (!ft)))]→Tk w w9 M g gm gN (taken s x.Kind) x ao cap→K2 a w9:=by
    intro a w9 ha T
    refine hK2 _ _ ?_;clear hK2 K2
    refine cnd ha rfl (fun hc=>?_) (fun hc=>?_)
    · have H:=Option.some.inj (ite_t hc H)
      refine wsr fun K2 hK2=>?_
      refine sf ha 1 [(89,pt g 0)] fun a ha=>?_
      refine cL ha (came_walk w9 g gm _ T.rd 2) ?_
      rintro _ w10 ⟨rfl,h10,c10⟩ a ha
      refine wpl_end ?_
      refine hK2 _ _ ?_;clear hK2 K2
      refine wp_ret ?_
      simp only [Exit.then,Exit.inBlock,topQ]
      subst H
      exact rtr ha (results_none rfl _ _ _) ⟨rfl,h10,T.ch.trans c10 (Ok.one (.inl (by simp)))⟩
    · have H:=ite_f hc H
      refine wp_skip ?_
      refine hK _ _ ?_;clear hK K
      refine drq 6 (fun w'=>Chg [] w9 w') (by kernel_rfl) (by kernel_rfl) (fun _ h=>h) ?_
      refine qP 0 (pt g 0) ha fun a ha=>?_
      refine qP 0 (pt g 0) ha fun a ha=>?_
      refine qP 0 (pt g 0) ha fun a ha=>?_
      refine qP 0 (pt gN 1) ha fun a ha=>?_
      refine qV (v:=.int .i64 x.Kind) ha (fun w' hs=>ld_run ha rfl (by kernel_rfl) ((T.bx.chg hs (fun h=>nomatch h)).cell' (o:=1) rfl (by kernel_rfl))) fun a ha=>?_
      refine qP 0 (.iface 3 (.int .i64 q.1)) ha fun a ha=>?_
      intro w10 hs10
      have T:=T.nil hs10
      refine cL ha (set_walk w10 g gm _ T.rd x.Kind q.1 r H) ?_
      rintro _ w11 ⟨rfl,h11,c11⟩ a ha
      refine wpl_end ?_
      refine hK0 _ _ ?_
      exact rt0 ha rfl ⟨rfl,h11,T.ch.trans c11 (Ok.one (.inl (by simp)))⟩
  refine sf ha 3 [(82,.bool (!q.2)),(0,pt g 0),(3,pt gN 0),(4,.int .i64 t.1),(6,.iface 3 (.int .i64 q.1))] fun a ha=>?_
  rcases Bool.eq_false_or_eq_true (!q.2) with hb | hb
  · have ha:=ha.lit hb
    refine sgf ha 6 [1,1,1,1,1,3] [(88,.bool true),(0,pt g 0),(3,pt gN 0),(6,.iface 3 (.int .i64 q.1))] fun a ha=>?_
    refine J _ _ (by rw [hb];exact ha.sel (by kernel_rfl)) T
  · have ha:=ha.lit hb
    refine sgf ha 1 [2] [(82,.bool false),(0,pt g 0),(3,pt gN 0),(4,.int .i64 t.1),(6,.iface 3 (.int .i64 q.1)),(83,pt gN 0)] fun a ha=>?_
    refine ld (v:=.int .i64 x.Flags) ha rfl (by kernel_rfl) rfl rfl rfl (T.bx.cell' (o:=0) rfl (by kernel_rfl)) fun a ha=>?_
    refine sgf ha 1 [2] [(82,.bool false),(0,pt g 0),(3,pt gN 0),(6,.iface 3 (.int .i64 q.1)),(84,.int .i64 x.Flags),(85,.int .i64 t.1)] fun a ha=>?_
    refine cL ha (attr_fits.walk w8 [] (MS.nil _) x.Flags t.1 _ Hft) ?_
    rintro _ w9 ⟨rfl,c9,_⟩ a ha
    have T:=T.nil c9
    refine sgf ha 2 [2,4] [(88,.bool (!ft)),(0,pt g 0),(3,pt gN 0),(6,.iface 3 (.int .i64 q.1))] fun a ha=>?_
    refine J _ _ (by rw [hb];exact ha.sel (by kernel_rfl)) T
def Read.l0 (k:Nat) (l:List S_api_Raw):Nat→RdS→Int→Option RdS
  | 0,_,_=>none
  | kk+1,s,i=>if decide (i < (l.length:Int))=true then (if 0≤i∧i < (l.length:Int) then (take.f k s (rd l i)).bind fun s'=>Read.l0 k l kk s' (IntKind.i64.wrap (i+(1:Int))) else none) else some s
def attr_Read.f (k:Nat) (l:List S_api_Raw):Option (S_api_Attrs×List S_api_Raw×Int) :=
  (Read.l0 k l k ⟨0,-1,-1,0,[]⟩ 0).bind fun s=>if hadv s 14=false then some (av3 s.o s.m s.p,[],s.out) else none
theorem attr_Read.walk (w:World) (M:List Nat) (hM:MS M w) (l:List S_api_Raw) (ao:Option Addr) (cap:Nat) (f1:RSl rS_api_Raw 46 w M ao cap l) (k:Nat) (r:S_api_Attrs×List S_api_Raw×Int) (H:attr_Read.f k l=some r) :
    To Tryz.prog 17 [.slice ao l.length cap] w fun v w'=>∃ (ao1:Option Addr) (cap1:Nat) (ao2:Option Addr) (cap2:Nat) (ao3:Option Addr) (cap3:Nat) (ao4:Option Addr) (cap4:Nat) (ao5:Option Addr) (cap5:Nat),v=.tuple #[.agg (cS_api_Attrs r.1 ao1 cap1 ao2 cap2 ao3 cap3 ao4 cap4).toArray,.slice ao5 r.2.1.length cap5,.int .i64 r.2.2]∧(RSl rS_api_Segment 49 w' M ao1 cap1 r.1.Path)∧(RSl rS_api_Addr 25 w' M ao2 cap2 r.1.Clusters)∧(RSl (rArr .u8 8) 75 w' M ao3 cap3 r.1.Exts)∧(RSl rS_api_Tunnel 51 w' M ao4 cap4 r.1.Tunnels)∧(RSl rS_api_Raw 46 w' M ao5 cap5 r.2.1)∧Chg [] w w'∧MS M w':=by
  unfold attr_Read.f at H;obtain ⟨sF,HF,H⟩:=bind_some H;obtain ⟨hh,H⟩:=ite_some H;have H:=oj H;refine ent Tryz.func17 rfl [(0,.slice ao l.length cap)] rfl (by rfl) fun a ha=>?_;refine wp_seq_k fun K hK=>?_;refine wp_region_lit ?_;refine al (cs:=cAt 0 0 0) (z:=.agg (cAt 0 0 0).toArray) ha (fun w=>by kernel_rfl) rfl rfl rfl rfl fun a w1 gR hR ha=>?_;refine sd ha 2 [] [(2,pt gR 0)] fun a ha=>?_;refine hK _ _ ?_;clear hK K;refine wp_seq_k fun K hK=>?_;refine wp_region_lit ?_;refine cL ha (rd_none w1) ?_;rintro _ w2 ⟨rfl,c2⟩ a ha;refine mmk ha rfl rfl rfl fun a w3 gm hm ha=>?_;refine oP (.agg (cRd ⟨0,-1,-1,0,[]⟩ gm).toArray) ha fun a ha=>?_;refine bx (cs:=cRd ⟨0,-1,-1,0,[]⟩ gm) ha rfl rfl rfl rfl rfl fun a w4 g hg ha=>?_;refine sd ha 1 [] [(5,pt g 0)] fun a ha=>?_;refine hK _ _ ?_;clear hK K;have z1:=hR.ge;have z2:=c2.size;have z3:=hm.ge;have z4:=hg.ge;have y1:=hR.size;have y3:=hm.size;have y4:=hg.size;have hRg:gR≠g:=by omega
  have hRm:gR≠gm:=by omega
  have hgm:g≠gm:=by omega
  have hC:Chg [] w w4:=((hR.chg.trans c2 (Ok.nil _ _)).trans hm.chg (Ok.nil _ _)).trans hg.chg (Ok.nil _ _);have hB:Box w4 gR (cAt 0 0 0):=((hR.box.chg c2 (fun h=>nomatch h)).chg hm.chg (fun h=>nomatch h)).chg hg.chg (fun h=>nomatch h);have hA:RdAt w4 g gm ⟨0,-1,-1,0,[]⟩:=⟨hgm,hg.box,hm.mapR.chg hg.chg (fun h=>nomatch h)⟩
  have hM4:MS ([g,gm]++M) w4:=MS.app (fun y hy=>by simp at hy;omega) (hM.chg hC);have f1:RSl rS_api_Raw 46 w4 ([g,gm]++M) ao cap l:=f1.chg hC (Ok.nil _ _) (Ok.app (fun y hy=>.inr (by simp at hy;omega)) (Ok.refl _ _));have hRM:gR∉M:=fun e=>by have:=hM gR e;omega
  refine wp_seq_k fun K hK=>?_;refine wsr fun K2 hK2=>?_;refine sd ha 3 [0] [(12,.slice ao l.length cap),(13,.int .i64 (l.length:Int)),(14,.int .i64 0)] fun a ha=>?_;refine hK2 _ _ ?_;clear hK2 K2;refine wp_block ?_;have J:∀ (a:Act) (w5:World),Has a Tryz.f17.ntmps [(2,pt gR 0),(5,pt g 0)]→RdAt w5 g gm sF→Box w5 gR (cAt 0 0 0)→Chg [] w w5→MS M w5→K a w5:=by
    intro a w5 ha hA hB hC hM;refine hK _ _ ?_;clear hK K;refine wp_seq_k fun K hK=>?_;refine wsr fun K2 hK2=>?_;refine sd ha 3 [12,13,14] [(24,pt g 26)] fun a ha=>?_;refine ld (v:=.map (some gm)) ha rfl (by kernel_rfl) rfl rfl rfl (hA.2.1.cell' (o:=26) rfl (by kernel_rfl)) fun a ha=>?_;refine hop (v:=.bool (hadv sF 14)) (w':=w5) ha rfl rfl rfl (mlk1_run (k:=(14:Int)) (z:=false) ha u104 K3i rfl rfl (fun w=>by kernel_rfl) hA.2.2) fun a ha=>?_;have ha:=ha.lit hh;refine sgd ha 15 [0,1,1,1,1,1,1,1,1,1,1,1,1,1,4] [24] [(41,.bool false)] fun a ha=>?_;refine hK2 _ _ ?_;clear hK2 K2;refine cnd ha rfl (fun h=>nomatch h) (fun _=>?_);refine wp_skip ?_;refine hK _ _ ?_;clear hK K;refine wp_seq_k fun K hK=>?_;refine drw (fun w'=>Chg [gR] w5 w') (by kernel_rfl) fun w6 hs6 _=>?_;have hS:Chg [gR] w5 w6:=hs6.mono (Ok.nil _ _);refine tp 0 0 (pt g 0) ha hS fun a ha=>?_;refine tp 1 0 (pt g 0) ha hS fun a ha=>?_;refine tp 2 0 (pt g 0) ha hS fun a ha=>?_;refine tz 3 (v:=.agg (cAt sF.o sF.m sF.p).toArray) ha rfl (fun w' hs=>ldA_run (cs:=cAt sF.o sF.m sF.p) ha rfl (by kernel_rfl) (cells_sub (Box.cells (hA.2.1.chg hs (by simp [Ne.symm hRg]))) (all:=cRd sF gm) [] [.slice none 0 0,.int .i64 sF.out,.map (some gm)] (by kernel_rfl))) hS fun a ha=>?_;refine tp 4 0 (pt g 0) ha hS fun a ha=>?_;refine tp 5 0 (pt g 0) ha hS fun a ha=>?_;refine tp 6 0 (pt g 24) ha hS fun a ha=>?_;refine tz 7 (v:=.slice none 0 0) ha rfl (fun w' hs=>ld_run ha rfl (by kernel_rfl) ((hA.2.1.chg hs (by simp [Ne.symm hRg])).cell' (o:=24) rfl (by kernel_rfl))) hS fun a ha=>?_;refine tp 8 0 (pt g 0) ha hS fun a ha=>?_;refine tp 9 0 (pt g 0) ha hS fun a ha=>?_;refine tp 10 0 (pt g 25) ha hS fun a ha=>?_;refine tz 11 (v:=.int .i64 sF.out) ha rfl (fun w' hs=>ld_run ha rfl (by kernel_rfl) ((hA.2.1.chg hs (by simp [Ne.symm hRg])).cell' (o:=25) rfl (by kernel_rfl))) hS fun a ha=>?_;have ha:=ha.sel (env':=[(2,.pointer (some ⟨gR,0,none⟩)),(47,.agg (cAt sF.o sF.m sF.p).toArray),(51,.slice none 0 0),(55,.int .i64 sF.out)]) (by kernel_rfl);have hs:=hs6;have hB:=hB.chg hs (fun h=>nomatch h);refine ac 12 (by kernel_rfl) rfl fun K2 hK2=>?_;refine stA (l:=cAt sF.o sF.m sF.p) ha rfl rfl rfl (by kernel_rfl) rfl rfl hB rfl fun a w7 ha hb2 hc7 _=>?_;have hB:Box w7 gR (cAt sF.o sF.m sF.p):=hb2.cast (by kernel_rfl);have hS:=hS.trans hc7 (Ok.one (.inl (by simp)));refine ae hK2 hS ?_;clear hK2 K2;refine tp 13 0 (.slice none 0 0) ha hS fun a ha=>?_;refine tp 14 0 (.int .i64 sF.out) ha hS fun a ha=>?_;refine dn (by kernel_rfl) ?_;have ha:=ha.sel (env':=[(2,.pointer (some ⟨gR,0,none⟩)),(3,.slice none 0 0),(4,.int .i64 sF.out)]) (by kernel_rfl);refine hK _ _ ?_;clear hK K;refine wp_ret ?_;subst H;refine rtr ha (res3 rfl (roA ha rfl hB (by kernel_rfl)) (roT ha rfl) (roT ha rfl)) ?_;exact ⟨none,0,none,0,none,0,none,0,none,0,rfl,RSl.nil (Nat.zero_le _),RSl.nil (Nat.zero_le _),RSl.nil (Nat.zero_le _),RSl.nil (Nat.zero_le _),RSl.nil (Nat.zero_le _),(hC.trans hs (Ok.nil _ _)).trans hc7 (Ok.one (.inr hR.ge)),(hM.chg hs).chg hc7⟩
  refine wp_loop_ghost (fun kk a w5=>∃ (s:RdS) (i:Int),Read.l0 k l kk s i=some sF∧Has a Tryz.f17.ntmps [(2,pt gR 0),(5,pt g 0),(12,.slice ao l.length cap),(13,.int .i64 (l.length:Int)),(14,.int .i64 i)]∧RdAt w5 g gm s∧Box w5 gR (cAt 0 0 0)∧RSl rS_api_Raw 46 w5 ([g,gm]++M) ao cap l∧Chg [] w w5∧MS ([g,gm]++M) w5) k ?_ ?_
  · exact ⟨_,_,HF,ha.sel (by kernel_rfl),hA,hB,f1,hC,hM4⟩
  · rintro kk a w5 ⟨s,i,Hn,ha,hA,hB,f1,hC,hM5⟩;obtain _ | kk:=kk
    · exact nomatch (show none=some _ from Hn)
    rw [Read.l0] at Hn;refine wsr fun K2 hK2=>?_;refine sd ha 1 [] [(15,.bool (decide (i < (l.length:Int))))] fun a ha=>?_;refine hK2 _ _ ?_;clear hK2 K2;refine wp_seq_k fun K2 hK2=>?_;refine cnd ha rfl (fun hc=>?_) (fun hc=>?_)
    · have Hn:=ite_t hc Hn;obtain ⟨⟨hx,hx'⟩,Hn⟩:=ite_some Hn;obtain ⟨s',Hs,Hn⟩:=bind_some Hn;refine wp_skip ?_;refine hK2 _ _ ?_;clear hK2 K2;refine wp_seq_k fun K2 hK2=>?_;refine wp_block ?_;refine wsr fun K3 hK3=>?_;refine ix (r:=rS_api_Raw) ha (by kernel_rfl) (by kernel_rfl) rfl rfl rfl rfl rfl f1 hx hx' fun a ge oe cs hn hR' hE ha=>?_;rw [rd_get] at hR';obtain ⟨ao3,cap3,rfl,f3⟩:=rS_api_Raw.open hR';refine ldA (cs:=cS_api_Raw (rd l i) ao3 cap3) ha rfl (by kernel_rfl) rfl rfl rfl (cells_sub hE (all:=cS_api_Raw (rd l i) ao3 cap3) [] [] (by kernel_rfl)) fun a ha=>?_;refine al (cs:=cS_api_Raw (⟨(0:Int),(0:Int),([]:List Int)⟩:S_api_Raw) none 0) (z:=.agg (cS_api_Raw (⟨(0:Int),(0:Int),([]:List Int)⟩:S_api_Raw) none 0).toArray) ha (fun w=>by kernel_rfl) rfl rfl rfl rfl fun a w6 g7 hN ha=>?_;refine stA (l:=cS_api_Raw (rd l i) ao3 cap3) ha rfl rfl rfl (by kernel_rfl) rfl rfl hN.box rfl fun a w7 ha hb2 hc7 _=>?_;have hB7:Box w7 g7 (cS_api_Raw (rd l i) ao3 cap3):=hb2.cast (by kernel_rfl);have n7:=hN.ge;have sz5:=hC.size;have q1:Chg [] w5 w7:=hN.chg.trans hc7 (Ok.one (.inr hN.ge));have hA7:RdAt w7 g gm s:=hA.nil q1;have hB:=hB.chg q1 (fun h=>nomatch h);have f1:=f1.chg q1 (Ok.nil _ _) (Ok.refl _ _);have f3:=f3.chg q1 (Ok.nil _ _) (Ok.refl _ _);have hM7:=hM5.chg q1;refine wpl_end ?_;have ha:=ha.sel (env':=[(2,.pointer (some ⟨gR,0,none⟩)),(5,.pointer (some ⟨g,0,none⟩)),(7,.pointer (some ⟨g7,0,none⟩)),(12,.slice ao l.length cap),(13,.int .i64 (l.length:Int)),(14,.int .i64 i)]) (by kernel_rfl);refine hK3 _ _ ?_;clear hK3 K3;refine wp_region_lit ?_;refine sd ha 1 [] [(18,pt g 0)] fun a ha=>?_;refine ldE (Box.cells hB7) ha fun a ha=>?_;refine cL ha (take_walk w7 _ hM7 g gm s hA7 (by simp) (by simp) (rd l i) ao3 cap3 f3 k s' Hs) ?_;rintro _ w8 ⟨rfl,hA8,c8⟩ a ha;have q8:Chg [] w w8:=(hC.trans q1 (Ok.nil _ _)).trans c8 (fun y hy=>.inr (by simp at hy;omega));have hB:=hB.chg c8 (by simp [hRg,hRm]);have f1:=f1.chg c8 (fun y hy=>.inl (ml hy)) (Ok.refl _ _);have hM8:=hM7.chg c8;refine wpl_end ?_;have ha:=ha.sel (env':=[(2,.pointer (some ⟨gR,0,none⟩)),(5,.pointer (some ⟨g,0,none⟩)),(12,.slice ao l.length cap),(13,.int .i64 (l.length:Int)),(14,.int .i64 i)]) (by kernel_rfl);refine hK2 _ _ ?_;clear hK2 K2;refine wp_region_lit ?_;refine sd ha 2 [] [(14,.int .i64 (IntKind.i64.wrap (i+(1:Int))))] fun a ha=>?_;exact ⟨kk,Nat.lt_succ_self _,⟨s',_,Hn,ha.sel (by kernel_rfl),hA8,hB,f1,q8,hM8⟩⟩
    · have Hn:=ite_f hc Hn;refine wx ?_;obtain rfl:=oj Hn;exact J _ _ (ha.sel (by kernel_rfl)) hA hB hC (fun y hy=>hM5 y (mr hy))

def vinerylaw09_small.f (k:Nat):Option (Bool):=(attr_Split.f k ([(64:Int),(1:Int),(1:Int),(0:Int),(128:Int),(4:Int),(4:Int),(0:Int),(0:Int),(0:Int),(9:Int)]:List Int)).bind fun t8=>(attr_Read.f k t8.1).bind fun t11=>(attr_Read.f k ([(⟨(64:Int),(1:Int),([(3:Int)]:List Int)⟩:S_api_Raw)]:List S_api_Raw)).bind fun t34=>(attr_Read.f k ([(⟨(64:Int),(77:Int),([]:List Int)⟩:S_api_Raw)]:List S_api_Raw)).bind fun t52=>((if (t8.2==(0:Int))=true then (if ((t8.1.length:Int)==(2:Int))=true then (if 0≤(1:Int)∧(1:Int) < (t8.1.length:Int) then (if (((rd t8.1 (1:Int)).Kind)==(4:Int))=true then (if (t11.1.Origin==(0:Int))=true then (if (t11.1.Med==(9:Int))=true then (if (t11.1.Pref==(-1:Int))=true then (if ((t11.2.1.length:Int)==(0:Int))=true then (if (t11.2.2==(0:Int))=true then (if (t34.2.2==(2:Int))=true then some (t52.2.2==(3:Int):Bool) else some (false:Bool)) else some (false:Bool)) else some (false:Bool)) else some (false:Bool)) else some (false:Bool)) else some (false:Bool)) else some (false:Bool)) else none) else some (false:Bool)) else some (false:Bool))).bind fun s65=>some ((s65:Bool))
set_option maxRecDepth 100000 in
theorem vinerylaw09_small.walk (w:World) (M:List Nat) (hM:MS M w)  (k:Nat) (r:Bool) (H:vinerylaw09_small.f k=some r) :
    To Tryz.prog 4 [] w fun v w'=>v=.bool r∧Chg [] w w'∧MS (M) w':=by
 unfold vinerylaw09_small.f at H;refine ent Tryz.func4 rfl [] rfl (by rfl) fun a ha=>?_;have hC:Chg [] w w:=Chg.refl _ _;refine sq ha 1 [] fun a ha=>?_;refine wsr fun K2 hK2=>?_;refine bsl (vals:=([.int .u8 (64:Int),.int .u8 (1:Int),.int .u8 (1:Int),.int .u8 (0:Int),.int .u8 (128:Int),.int .u8 (4:Int),.int .u8 (4:Int),.int .u8 (0:Int),.int .u8 (0:Int),.int .u8 (0:Int),.int .u8 (9:Int)]:List Value)) (T:=5) ha rfl (([.int .u8 (64:Int)]:List Value)++(([.int .u8 (1:Int)]:List Value)++(([.int .u8 (1:Int)]:List Value)++(([.int .u8 (0:Int)]:List Value)++(([.int .u8 (128:Int)]:List Value)++(([.int .u8 (4:Int)]:List Value)++(([.int .u8 (4:Int)]:List Value)++(([.int .u8 (0:Int)]:List Value)++(([.int .u8 (0:Int)]:List Value)++(([.int .u8 (0:Int)]:List Value)++(([.int .u8 (9:Int)]:List Value)++([]:List Value)))))))))))) (fun w=>by kernel_rfl) rfl rfl rfl fun a w3 g4 hN5 ha=>?_;have p_i6_M:=pn (B:=M) hM (hN5.ge1) fun _ hy=>hy;have hM:=MS.app hN5.ms (hM.chg hN5.chg);have hC:=hC.t0 hN5.chg;have f7:Own (rInt .u8) 5 w3 ([g4]++(M)) (some ⟨g4,0,none⟩) 11 ([(64:Int),(1:Int),(1:Int),(0:Int),(128:Int),(4:Int),(4:Int),(0:Int),(0:Int),(0:Int),(9:Int)]:List Int):=hN5.own ⟨([.int .u8 (64:Int)]:List Value),_,rfl,rfl,⟨([.int .u8 (1:Int)]:List Value),_,rfl,rfl,⟨([.int .u8 (1:Int)]:List Value),_,rfl,rfl,⟨([.int .u8 (0:Int)]:List Value),_,rfl,rfl,⟨([.int .u8 (128:Int)]:List Value),_,rfl,rfl,⟨([.int .u8 (4:Int)]:List Value),_,rfl,rfl,⟨([.int .u8 (4:Int)]:List Value),_,rfl,rfl,⟨([.int .u8 (0:Int)]:List Value),_,rfl,rfl,⟨([.int .u8 (0:Int)]:List Value),_,rfl,rfl,⟨([.int .u8 (0:Int)]:List Value),_,rfl,rfl,⟨([.int .u8 (9:Int)]:List Value),_,rfl,rfl,rfl⟩⟩⟩⟩⟩⟩⟩⟩⟩⟩⟩ (Nat.le_of_ble_eq_true rfl);have fz:=f7.toRSl (M':=M) (fun _ h=>.inl (mr (h))) (fun x hx hm=>p_i6_M x hx hm);have hM:MS M w3:=hM.sb fun _ h=>mr (h);have f7:=fz;obtain ⟨t8,H8,H⟩:=bind_some H;refine cL ha (attr_Split.walk w3 _ hM ([(64:Int),(1:Int),(1:Int),(0:Int),(128:Int),(4:Int),(4:Int),(0:Int),(0:Int),(0:Int),(9:Int)]:List Int) (some ⟨g4,0,none⟩) 11 f7 k _ H8) ?_;rintro _ w8 ⟨ao9,cap9,rfl,f9,ne_i9,hc8,hMn⟩ a ha;have p_i9_M:=pn (B:=M) hM ne_i9 fun _ hy=>hy;have hM:MS (blkL ao9++(M)) w8:=(MS.app (fun x h=>hMn x (ml h)) (hM.chg hc8))
 have hC:=hC.t0 hc8;refine sf ha 5 [(1,.slice ao9 t8.1.length cap9),(2,.int .i64 t8.2)] fun a ha=>?_;refine hK2 _ _ ?_;refine wsr fun K10 hK10=>?_;refine sd ha 1 [] [(18,.slice ao9 t8.1.length cap9)] fun a ha=>?_;have fz:=f9.toRSl (M':=M) (fun _ h=>.inl (mr (h))) (fun x hx hm=>p_i9_M x hx hm);have hM:MS M w8:=hM.sb fun _ h=>mr (h);have f9:=fz;obtain ⟨t11,H11,H⟩:=bind_some H;refine cL ha (attr_Read.walk w8 _ hM t8.1 ao9 cap9 f9 k _ H11) ?_;rintro _ w11 ⟨ao12,cap12,ao13,cap13,ao14,cap14,ao15,cap15,ao16,cap16,rfl,f12,f13,f14,f15,f16,hc11,hMn⟩ a ha;have o1:=oN M w8;have o2:=oR M w8;have f9:=f9.chg hc11 o1 o2;have hM:=hM.chg hc11;have hC:=hC.t0 hc11;refine sd ha 4 [18] [(20,.agg (cS_api_Attrs t11.1 ao12 cap12 ao13 cap13 ao14 cap14 ao15 cap15).toArray),(21,.slice ao16 t11.2.1.length cap16),(22,.int .i64 t11.2.2)] fun a ha=>?_;refine alE (cS_api_Attrs (⟨(0:Int),([]:List S_api_Segment),(0:Int),(0:Int),(⟨(0:Int),(List.replicate 16 (0:Int))⟩:S_api_Addr),([]:List S_api_Addr),([]:List (List Int)),([]:List S_api_Tunnel)⟩:S_api_Attrs) none 0 none 0 none 0 none 0) ha fun a w17 g18 hN19 ha=>?_;have o1:=oN M w11;have o2:=oA hN19 M;have f9:=f9.chg hN19.chg o1 o2;have f12:=f12.chg hN19.chg o1 o2;have f13:=f13.chg hN19.chg o1 o2;have f14:=f14.chg hN19.chg o1 o2;have f15:=f15.chg hN19.chg o1 o2;have e_i20:=eN hC (hN19.ge1);have hM:=MS.app hN19.ms (hM.chg hN19.chg);have hC:=hC.t0 hN19.chg;have hBg18:=hN19.box;refine stE (cS_api_Attrs t11.1 ao12 cap12 ao13 cap13 ao14 cap14 ao15 cap15) ha hBg18 fun a w21 ha hBg18 hc22 _=>?_;have o1:Ok [g18] ([g18]++(M)) w17.heap.size:=(fun _ h=>.inl (ml h))
 have o2:=oR ([g18]++(M)) w17;have f9:=f9.chg hc22 o1 o2;have f12:=f12.chg hc22 o1 o2;have f13:=f13.chg hc22 o1 o2;have f14:=f14.chg hc22 o1 o2;have f15:=f15.chg hc22 o1 o2;have hM:=hM.chg hc22;have hC:=hC.t1 hc22 e_i20;refine sd ha 2 [20,21,22] [(3,pt g18 0),(4,.slice ao16 t11.2.1.length cap16),(5,.int .i64 t11.2.2)] fun a ha=>?_;refine hK10 _ _ ?_;refine wsr fun K23 hK23=>?_;refine bsl (vals:=([.int .u8 (3:Int)]:List Value)) (T:=5) ha rfl (([.int .u8 (3:Int)]:List Value)++([]:List Value)) (fun w=>by kernel_rfl) rfl rfl rfl fun a w24 g25 hN26 ha=>?_;have o1:=oN ([g18]++(M)) w21;have o2:=oA hN26 ([g18]++(M));have f9:=f9.chg hN26.chg o1 o2;have f12:=f12.chg hN26.chg o1 o2;have f13:=f13.chg hN26.chg o1 o2;have f14:=f14.chg hN26.chg o1 o2;have f15:=f15.chg hN26.chg o1 o2;have hBg18:=hBg18.c0 hN26.chg;have p_i27_i20:=pn (B:=[g18]) hM (hN26.ge1) fun _ hy=>ml hy;have p_i27_M:=pn (B:=M) hM (hN26.ge1) fun _ hy=>mr (hy);have hM:=MS.app hN26.ms (hM.chg hN26.chg);have hC:=hC.t0 hN26.chg;have f28:Own (rInt .u8) 5 w24 ([g25]++([g18]++(M))) (some ⟨g25,0,none⟩) 1 ([(3:Int)]:List Int):=hN26.own ⟨([.int .u8 (3:Int)]:List Value),_,rfl,rfl,rfl⟩ (Nat.le_of_ble_eq_true rfl);refine oP (.agg (cS_api_Raw (⟨(64:Int),(1:Int),([(3:Int)]:List Int)⟩:S_api_Raw) (some ⟨g25,0,none⟩) 1).toArray) ha fun a ha=>?_;have fz:=f28.toRSl (M':=[g18]++(M)) (fun _ h=>.inl (mr (h))) (fun x hx hm=>(List.mem_append.1 hm).elim (fun h=>p_i27_i20 x hx h) (fun h=>p_i27_M x hx h));have o1:=oN ([g25]++([g18]++(M))) w24;have o2:Ok ([g18]++(M)) ([g25]++([g18]++(M))) w24.heap.size:=(fun _ h=>.inl (mr (h)))
 have f9:=f9.chg (Chg.refl [] _) o1 o2;have f12:=f12.chg (Chg.refl [] _) o1 o2;have f13:=f13.chg (Chg.refl [] _) o1 o2;have f14:=f14.chg (Chg.refl [] _) o1 o2;have f15:=f15.chg (Chg.refl [] _) o1 o2;have hM:MS ([g18]++(M)) w24:=hM.sb fun _ h=>mr (h);have f28:=fz;refine bslA (vals:=([.agg (cS_api_Raw (⟨(64:Int),(1:Int),([(3:Int)]:List Int)⟩:S_api_Raw) (some ⟨g25,0,none⟩) 1).toArray]:List Value)) (T:=46) (z:=.agg (cS_api_Raw (⟨(0:Int),(0:Int),([]:List Int)⟩:S_api_Raw) none 0).toArray) ha rfl (by kernel_rfl) rfl (by kernel_rfl) (s:=3) (by kernel_rfl) rfl rfl (fun w=>by kernel_rfl) (by kernel_rfl) rfl rfl rfl fun a w29 g30 hN31 ha=>?_;have hN31:=(show New _ _ _ (.cells (((cS_api_Raw (⟨(64:Int),(1:Int),([(3:Int)]:List Int)⟩:S_api_Raw) (some ⟨g25,0,none⟩) 1)++([]:List Value))).toArray 46 (0,0)) from hN31)
 have o1:=oN ([g18]++(M)) w24;have o2:=oA hN31 ([g18]++(M));have f9:=f9.chg hN31.chg o1 o2;have f28:=f28.chg hN31.chg o1 o2;have f12:=f12.chg hN31.chg o1 o2;have f13:=f13.chg hN31.chg o1 o2;have f14:=f14.chg hN31.chg o1 o2;have f15:=f15.chg hN31.chg o1 o2;have hBg18:=hBg18.c0 hN31.chg;have p_i32_i20:=pn (B:=[g18]) hM (hN31.ge1) fun _ hy=>ml hy;have p_i32_M:=pn (B:=M) hM (hN31.ge1) fun _ hy=>mr (hy);have hM:=MS.app hN31.ms (hM.chg hN31.chg);have hC:=hC.t0 hN31.chg;have f33:Own rS_api_Raw 46 w29 ([g30]++([g18]++(M))) (some ⟨g30,0,none⟩) 1 ([(⟨(64:Int),(1:Int),([(3:Int)]:List Int)⟩:S_api_Raw)]:List S_api_Raw):=hN31.own ⟨(cS_api_Raw (⟨(64:Int),(1:Int),([(3:Int)]:List Int)⟩:S_api_Raw) (some ⟨g25,0,none⟩) 1),_,rfl,(rS_api_Raw.mk (⟨(64:Int),(1:Int),([(3:Int)]:List Int)⟩:S_api_Raw) f28),rfl⟩ (Nat.le_of_ble_eq_true rfl);have fz:=f33.toRSl (M':=[g18]++(M)) (fun _ h=>.inl (mr (h))) (fun x hx hm=>(List.mem_append.1 hm).elim (fun h=>p_i32_i20 x hx h) (fun h=>p_i32_M x hx h));have o1:=oN ([g30]++([g18]++(M))) w29;have o2:Ok ([g18]++(M)) ([g30]++([g18]++(M))) w29.heap.size:=(fun _ h=>.inl (mr (h)))
 have f9:=f9.chg (Chg.refl [] _) o1 o2;have f12:=f12.chg (Chg.refl [] _) o1 o2;have f13:=f13.chg (Chg.refl [] _) o1 o2;have f14:=f14.chg (Chg.refl [] _) o1 o2;have f15:=f15.chg (Chg.refl [] _) o1 o2;have hM:MS ([g18]++(M)) w29:=hM.sb fun _ h=>mr (h);have f33:=fz;obtain ⟨t34,H34,H⟩:=bind_some H;refine cL ha (attr_Read.walk w29 _ hM ([(⟨(64:Int),(1:Int),([(3:Int)]:List Int)⟩:S_api_Raw)]:List S_api_Raw) (some ⟨g30,0,none⟩) 1 f33 k _ H34) ?_;rintro _ w34 ⟨ao35,cap35,ao36,cap36,ao37,cap37,ao38,cap38,ao39,cap39,rfl,f35,f36,f37,f38,f39,hc34,hMn⟩ a ha;have o1:=oN ([g18]++(M)) w29;have o2:=oR ([g18]++(M)) w29;have f9:=f9.chg hc34 o1 o2;have f12:=f12.chg hc34 o1 o2;have f13:=f13.chg hc34 o1 o2;have f14:=f14.chg hc34 o1 o2;have f15:=f15.chg hc34 o1 o2;have hBg18:=hBg18.c0 hc34;have hM:=hM.chg hc34;have hC:=hC.t0 hc34;refine sd ha 4 [] [(28,.agg (cS_api_Attrs t34.1 ao35 cap35 ao36 cap36 ao37 cap37 ao38 cap38).toArray),(29,.slice ao39 t34.2.1.length cap39),(30,.int .i64 t34.2.2)] fun a ha=>?_;refine alE (cS_api_Attrs (⟨(0:Int),([]:List S_api_Segment),(0:Int),(0:Int),(⟨(0:Int),(List.replicate 16 (0:Int))⟩:S_api_Addr),([]:List S_api_Addr),([]:List (List Int)),([]:List S_api_Tunnel)⟩:S_api_Attrs) none 0 none 0 none 0 none 0) ha fun a w40 g41 hN42 ha=>?_;have o1:=oN ([g18]++(M)) w34;have o2:=oA hN42 ([g18]++(M));have f9:=f9.chg hN42.chg o1 o2;have f35:=f35.chg hN42.chg o1 o2;have f36:=f36.chg hN42.chg o1 o2;have f37:=f37.chg hN42.chg o1 o2;have f38:=f38.chg hN42.chg o1 o2;have f12:=f12.chg hN42.chg o1 o2;have f13:=f13.chg hN42.chg o1 o2;have f14:=f14.chg hN42.chg o1 o2;have f15:=f15.chg hN42.chg o1 o2;have hBg18:=hBg18.c0 hN42.chg;have p_i43_i20:=pn (B:=[g18]) hM (hN42.ge1) fun _ hy=>ml hy;have e_i43:=eN hC (hN42.ge1);have hM:=MS.app hN42.ms (hM.chg hN42.chg);have hC:=hC.t0 hN42.chg;have hBg41:=hN42.box;refine stE (cS_api_Attrs t34.1 ao35 cap35 ao36 cap36 ao37 cap37 ao38 cap38) ha hBg41 fun a w44 ha hBg41 hc45 _=>?_;have o1:Ok [g41] ([g41]++([g18]++(M))) w40.heap.size:=(fun _ h=>.inl (ml h))
 have o2:=oR ([g41]++([g18]++(M))) w40;have f9:=f9.chg hc45 o1 o2;have f35:=f35.chg hc45 o1 o2;have f36:=f36.chg hc45 o1 o2;have f37:=f37.chg hc45 o1 o2;have f38:=f38.chg hc45 o1 o2;have f12:=f12.chg hc45 o1 o2;have f13:=f13.chg hc45 o1 o2;have f14:=f14.chg hc45 o1 o2;have f15:=f15.chg hc45 o1 o2;have hBg18:=hBg18.chg hc45 ((fun x (hx:x∈[g18]) (hy:x∈[g41])=>p_i43_i20 x hy hx) g18 (by simp));have hM:=hM.chg hc45;have hC:=hC.t1 hc45 e_i43;refine sd ha 2 [28,29,30] [(8,.int .i64 t34.2.2)] fun a ha=>?_;refine hK23 _ _ ?_;refine wsr fun K46 hK46=>?_;refine oP (.agg (cS_api_Raw (⟨(64:Int),(77:Int),([]:List Int)⟩:S_api_Raw) none 0).toArray) ha fun a ha=>?_;refine bslA (vals:=([.agg (cS_api_Raw (⟨(64:Int),(77:Int),([]:List Int)⟩:S_api_Raw) none 0).toArray]:List Value)) (T:=46) (z:=.agg (cS_api_Raw (⟨(0:Int),(0:Int),([]:List Int)⟩:S_api_Raw) none 0).toArray) ha rfl (by kernel_rfl) rfl (by kernel_rfl) (s:=3) (by kernel_rfl) rfl rfl (fun w=>by kernel_rfl) (by kernel_rfl) rfl rfl rfl fun a w47 g48 hN49 ha=>?_;have hN49:=(show New _ _ _ (.cells (((cS_api_Raw (⟨(64:Int),(77:Int),([]:List Int)⟩:S_api_Raw) none 0)++([]:List Value))).toArray 46 (0,0)) from hN49)
 have o1:=oN ([g41]++([g18]++(M))) w44;have o2:=oA hN49 ([g41]++([g18]++(M)));have f9:=f9.chg hN49.chg o1 o2;have f12:=f12.chg hN49.chg o1 o2;have f13:=f13.chg hN49.chg o1 o2;have f14:=f14.chg hN49.chg o1 o2;have f15:=f15.chg hN49.chg o1 o2;have f35:=f35.chg hN49.chg o1 o2;have f36:=f36.chg hN49.chg o1 o2;have f37:=f37.chg hN49.chg o1 o2;have f38:=f38.chg hN49.chg o1 o2;have hBg18:=hBg18.c0 hN49.chg;have hBg41:=hBg41.c0 hN49.chg;have p_i50_i43:=pn (B:=[g41]) hM (hN49.ge1) fun _ hy=>ml hy;have p_i50_i20:=pn (B:=[g18]) hM (hN49.ge1) fun _ hy=>mr (ml hy);have p_i50_M:=pn (B:=M) hM (hN49.ge1) fun _ hy=>mr (mr (hy));have hM:=MS.app hN49.ms (hM.chg hN49.chg);have hC:=hC.t0 hN49.chg;have f51:Own rS_api_Raw 46 w47 ([g48]++([g41]++([g18]++(M)))) (some ⟨g48,0,none⟩) 1 ([(⟨(64:Int),(77:Int),([]:List Int)⟩:S_api_Raw)]:List S_api_Raw):=hN49.own ⟨(cS_api_Raw (⟨(64:Int),(77:Int),([]:List Int)⟩:S_api_Raw) none 0),_,rfl,(rS_api_Raw.mk (⟨(64:Int),(77:Int),([]:List Int)⟩:S_api_Raw) (RSl.nil (ao:=none) (cap:=0) (Nat.zero_le _))),rfl⟩ (Nat.le_of_ble_eq_true rfl);have fz:=f51.toRSl (M':=[g41]++([g18]++(M))) (fun _ h=>.inl (mr (h))) (fun x hx hm=>(List.mem_append.1 hm).elim (fun h=>p_i50_i43 x hx h) (fun h=>(List.mem_append.1 h).elim (fun h=>p_i50_i20 x hx h) (fun h=>p_i50_M x hx h)));have o1:=oN ([g48]++([g41]++([g18]++(M)))) w47;have o2:Ok ([g41]++([g18]++(M))) ([g48]++([g41]++([g18]++(M)))) w47.heap.size:=(fun _ h=>.inl (mr (h)))
 have f9:=f9.chg (Chg.refl [] _) o1 o2;have f12:=f12.chg (Chg.refl [] _) o1 o2;have f13:=f13.chg (Chg.refl [] _) o1 o2;have f14:=f14.chg (Chg.refl [] _) o1 o2;have f15:=f15.chg (Chg.refl [] _) o1 o2;have f35:=f35.chg (Chg.refl [] _) o1 o2;have f36:=f36.chg (Chg.refl [] _) o1 o2;have f37:=f37.chg (Chg.refl [] _) o1 o2;have f38:=f38.chg (Chg.refl [] _) o1 o2;have hM:MS ([g41]++([g18]++(M))) w47:=hM.sb fun _ h=>mr (h);have f51:=fz;obtain ⟨t52,H52,H⟩:=bind_some H;refine cL ha (attr_Read.walk w47 _ hM ([(⟨(64:Int),(77:Int),([]:List Int)⟩:S_api_Raw)]:List S_api_Raw) (some ⟨g48,0,none⟩) 1 f51 k _ H52) ?_;rintro _ w52 ⟨ao53,cap53,ao54,cap54,ao55,cap55,ao56,cap56,ao57,cap57,rfl,f53,f54,f55,f56,f57,hc52,hMn⟩ a ha;have o1:=oN ([g41]++([g18]++(M))) w47;have o2:=oR ([g41]++([g18]++(M))) w47;have f9:=f9.chg hc52 o1 o2;have f12:=f12.chg hc52 o1 o2;have f13:=f13.chg hc52 o1 o2;have f14:=f14.chg hc52 o1 o2;have f15:=f15.chg hc52 o1 o2;have f35:=f35.chg hc52 o1 o2;have f36:=f36.chg hc52 o1 o2;have f37:=f37.chg hc52 o1 o2;have f38:=f38.chg hc52 o1 o2;have hBg18:=hBg18.c0 hc52;have hBg41:=hBg41.c0 hc52;have hM:=hM.chg hc52;have hC:=hC.t0 hc52;refine sd ha 4 [] [(35,.agg (cS_api_Attrs t52.1 ao53 cap53 ao54 cap54 ao55 cap55 ao56 cap56).toArray),(36,.slice ao57 t52.2.1.length cap57),(37,.int .i64 t52.2.2)] fun a ha=>?_;refine alE (cS_api_Attrs (⟨(0:Int),([]:List S_api_Segment),(0:Int),(0:Int),(⟨(0:Int),(List.replicate 16 (0:Int))⟩:S_api_Addr),([]:List S_api_Addr),([]:List (List Int)),([]:List S_api_Tunnel)⟩:S_api_Attrs) none 0 none 0 none 0 none 0) ha fun a w58 g59 hN60 ha=>?_;have o1:=oN ([g41]++([g18]++(M))) w52;have o2:=oA hN60 ([g41]++([g18]++(M)));have f9:=f9.chg hN60.chg o1 o2;have f53:=f53.chg hN60.chg o1 o2;have f54:=f54.chg hN60.chg o1 o2;have f55:=f55.chg hN60.chg o1 o2;have f56:=f56.chg hN60.chg o1 o2;have f12:=f12.chg hN60.chg o1 o2;have f13:=f13.chg hN60.chg o1 o2;have f14:=f14.chg hN60.chg o1 o2;have f15:=f15.chg hN60.chg o1 o2;have f35:=f35.chg hN60.chg o1 o2;have f36:=f36.chg hN60.chg o1 o2;have f37:=f37.chg hN60.chg o1 o2;have f38:=f38.chg hN60.chg o1 o2;have hBg18:=hBg18.c0 hN60.chg;have hBg41:=hBg41.c0 hN60.chg;have p_i61_i43:=pn (B:=[g41]) hM (hN60.ge1) fun _ hy=>ml hy;have p_i61_i20:=pn (B:=[g18]) hM (hN60.ge1) fun _ hy=>mr (ml hy);have e_i61:=eN hC (hN60.ge1);have hM:=MS.app hN60.ms (hM.chg hN60.chg);have hC:=hC.t0 hN60.chg;have hBg59:=hN60.box;refine stE (cS_api_Attrs t52.1 ao53 cap53 ao54 cap54 ao55 cap55 ao56 cap56) ha hBg59 fun a w62 ha hBg59 hc63 _=>?_;have o1:Ok [g59] ([g59]++([g41]++([g18]++(M)))) w58.heap.size:=(fun _ h=>.inl (ml h))
 have o2:=oR ([g59]++([g41]++([g18]++(M)))) w58;have f9:=f9.chg hc63 o1 o2;have f53:=f53.chg hc63 o1 o2;have f54:=f54.chg hc63 o1 o2;have f55:=f55.chg hc63 o1 o2;have f56:=f56.chg hc63 o1 o2;have f12:=f12.chg hc63 o1 o2;have f13:=f13.chg hc63 o1 o2;have f14:=f14.chg hc63 o1 o2;have f15:=f15.chg hc63 o1 o2;have f35:=f35.chg hc63 o1 o2;have f36:=f36.chg hc63 o1 o2;have f37:=f37.chg hc63 o1 o2;have f38:=f38.chg hc63 o1 o2;have hBg18:=hBg18.chg hc63 ((fun x (hx:x∈[g18]) (hy:x∈[g59])=>p_i61_i20 x hy hx) g18 (by simp));have hBg41:=hBg41.chg hc63 ((fun x (hx:x∈[g41]) (hy:x∈[g59])=>p_i61_i43 x hy hx) g41 (by simp));have hM:=hM.chg hc63;have hC:=hC.t1 hc63 e_i61;refine sd ha 2 [35,36,37] [(11,.int .i64 t52.2.2)] fun a ha=>?_;refine hK46 _ _ ?_;refine wsr fun K64 hK64=>?_;obtain ⟨s65,H65,H⟩:=bind_some H;have J65:∀ (a:Act) (w65:World),Has a Tryz.f4.ntmps [(0,.bool s65)]→(RSl rS_api_Segment 49 w65 ([g59]++([g41]++([g18]++(M)))) ao12 cap12 t11.1.Path)→(RSl rS_api_Addr 25 w65 ([g59]++([g41]++([g18]++(M)))) ao13 cap13 t11.1.Clusters)→(RSl (rArr .u8 8) 75 w65 ([g59]++([g41]++([g18]++(M)))) ao14 cap14 t11.1.Exts)→(RSl rS_api_Tunnel 51 w65 ([g59]++([g41]++([g18]++(M)))) ao15 cap15 t11.1.Tunnels)→(RSl rS_api_Segment 49 w65 ([g59]++([g41]++([g18]++(M)))) ao35 cap35 t34.1.Path)→(RSl rS_api_Addr 25 w65 ([g59]++([g41]++([g18]++(M)))) ao36 cap36 t34.1.Clusters)→(RSl (rArr .u8 8) 75 w65 ([g59]++([g41]++([g18]++(M)))) ao37 cap37 t34.1.Exts)→(RSl rS_api_Tunnel 51 w65 ([g59]++([g41]++([g18]++(M)))) ao38 cap38 t34.1.Tunnels)→(RSl rS_api_Segment 49 w65 ([g59]++([g41]++([g18]++(M)))) ao53 cap53 t52.1.Path)→(RSl rS_api_Addr 25 w65 ([g59]++([g41]++([g18]++(M)))) ao54 cap54 t52.1.Clusters)→(RSl (rArr .u8 8) 75 w65 ([g59]++([g41]++([g18]++(M)))) ao55 cap55 t52.1.Exts)→(RSl rS_api_Tunnel 51 w65 ([g59]++([g41]++([g18]++(M)))) ao56 cap56 t52.1.Tunnels)→(Box w65 g18 (cS_api_Attrs t11.1 ao12 cap12 ao13 cap13 ao14 cap14 ao15 cap15))→(Box w65 g41 (cS_api_Attrs t34.1 ao35 cap35 ao36 cap36 ao37 cap37 ao38 cap38))→(Box w65 g59 (cS_api_Attrs t52.1 ao53 cap53 ao54 cap54 ao55 cap55 ao56 cap56))→(Chg [] w w65)→(MS ([g59]++([g41]++([g18]++(M)))) w65)→K64 a w65:=by
  intro a w65 ha f12 f13 f14 f15 f35 f36 f37 f38 f53 f54 f55 f56 hBg18 hBg41 hBg59 hC hM;refine hK64 _ _ ?_;refine wrt ?_;have hM:MS M w65:=hM.sb fun _ h=>mr (mr (mr (h)));obtain rfl:=oj H;refine rt1 ha rfl rfl ?_;exact ⟨rfl,hC,hM⟩
 have H:=H65;refine sd ha 3 [2] [(40,.bool (t8.2==(0:Int)))] fun a ha=>?_;rcases Bool.eq_false_or_eq_true (t8.2==(0:Int)) with hb66 | hb66
 ·have ha:=ha.lit hb66;have H:=ite_t hb66 H;refine sgd ha 5 [2,2,2,3,0] [40] [(45,.bool ((t8.1.length:Int)==(2:Int)))] fun a ha=>?_;rcases Bool.eq_false_or_eq_true ((t8.1.length:Int)==(2:Int)) with hb67 | hb67
  ·have ha:=ha.lit hb67;have H:=ite_t hb67 H;refine sgd ha 1 [2] [1] [(45,.bool true),(46,.slice ao9 t8.1.length cap9)] fun a ha=>?_;obtain ⟨⟨hx68,hx68'⟩,H⟩:=ite_some H;refine ix (r:=rS_api_Raw) ha (by kernel_rfl) (by kernel_rfl) rfl rfl rfl rfl rfl f9 hx68 hx68' fun a ge69 oe70 cs71 hn74 hR72 hE73 ha=>?_;rw [rd_get] at hR72;obtain ⟨ao75,cap75,rfl,f75⟩:=rS_api_Raw.open hR72;refine sgd ha 1 [2] [46] [(48,.pointer (some ⟨ge69,oe70+1,none⟩))] fun a ha=>?_;refine ld ha rfl (by kernel_rfl) rfl rfl rfl (hE73 1 (.int .i64 ((rd t8.1 (1:Int)).Kind)) (by kernel_rfl)) fun a ha=>?_;refine sgd ha 3 [2,3,0] [45,48] [(52,.bool (((rd t8.1 (1:Int)).Kind)==(4:Int)))] fun a ha=>?_;rcases Bool.eq_false_or_eq_true (((rd t8.1 (1:Int)).Kind)==(4:Int)) with hb76 | hb76
   ·have ha:=ha.lit hb76;have H:=ite_t hb76 H;refine sgd ha 1 [2] [] [(52,.bool true),(53,pt g18 0)] fun a ha=>?_;refine ld (v:=.int .i64 t11.1.Origin) ha rfl (by kernel_rfl) rfl rfl rfl (hBg18.cell' (o:=0) rfl (by kernel_rfl)) fun a ha=>?_;refine sgd ha 3 [2,3,0] [52,53] [(57,.bool (t11.1.Origin==(0:Int)))] fun a ha=>?_;rcases Bool.eq_false_or_eq_true (t11.1.Origin==(0:Int)) with hb77 | hb77
    ·have ha:=ha.lit hb77;have H:=ite_t hb77 H;refine sgd ha 1 [2] [] [(57,.bool true),(58,pt g18 2)] fun a ha=>?_;refine ld (v:=.int .i64 t11.1.Med) ha rfl (by kernel_rfl) rfl rfl rfl (hBg18.cell' (o:=2) rfl (by kernel_rfl)) fun a ha=>?_;refine sgd ha 3 [2,3,0] [57,58] [(62,.bool (t11.1.Med==(9:Int)))] fun a ha=>?_;rcases Bool.eq_false_or_eq_true (t11.1.Med==(9:Int)) with hb78 | hb78
     ·have ha:=ha.lit hb78;have H:=ite_t hb78 H;refine sgd ha 1 [2] [3] [(62,.bool true),(63,pt g18 3)] fun a ha=>?_;refine ld (v:=.int .i64 t11.1.Pref) ha rfl (by kernel_rfl) rfl rfl rfl (hBg18.cell' (o:=3) rfl (by kernel_rfl)) fun a ha=>?_;refine sgd ha 3 [2,3,0] [62,63] [(67,.bool (t11.1.Pref==(-1:Int)))] fun a ha=>?_;rcases Bool.eq_false_or_eq_true (t11.1.Pref==(-1:Int)) with hb79 | hb79
      ·have ha:=ha.lit hb79;have H:=ite_t hb79 H;refine sgd ha 5 [2,2,2,3,0] [67,4] [(72,.bool ((t11.2.1.length:Int)==(0:Int)))] fun a ha=>?_;rcases Bool.eq_false_or_eq_true ((t11.2.1.length:Int)==(0:Int)) with hb80 | hb80
       ·have ha:=ha.lit hb80;have H:=ite_t hb80 H;refine sgd ha 4 [2,2,3,0] [72,5] [(76,.bool (t11.2.2==(0:Int)))] fun a ha=>?_;rcases Bool.eq_false_or_eq_true (t11.2.2==(0:Int)) with hb81 | hb81
        ·have ha:=ha.lit hb81;have H:=ite_t hb81 H;refine sgd ha 4 [2,2,3,0] [76,8] [(80,.bool (t34.2.2==(2:Int)))] fun a ha=>?_;rcases Bool.eq_false_or_eq_true (t34.2.2==(2:Int)) with hb82 | hb82
         ·have ha:=ha.lit hb82;have H:=ite_t hb82 H;refine sgf ha 4 [2,2,3,0] [(0,.bool (t52.2.2==(3:Int)))] fun a ha=>?_;obtain rfl:=oj H;exact J65 _ _ (ha.sel (by kernel_rfl)) f12 f13 f14 f15 f35 f36 f37 f38 f53 f54 f55 f56 hBg18 hBg41 hBg59 hC hM
         ·have ha:=ha.lit hb82;have H:=ite_f hb82 H;refine sgf ha 4 [1,1,4,0] [(0,.bool false)] fun a ha=>?_;obtain rfl:=oj H;exact J65 _ _ (ha.sel (by kernel_rfl)) f12 f13 f14 f15 f35 f36 f37 f38 f53 f54 f55 f56 hBg18 hBg41 hBg59 hC hM
        ·have ha:=ha.lit hb81;have H:=ite_f hb81 H;refine sgf ha 8 [1,1,4,0,1,1,4,0] [(0,.bool false)] fun a ha=>?_;obtain rfl:=oj H;exact J65 _ _ (ha.sel (by kernel_rfl)) f12 f13 f14 f15 f35 f36 f37 f38 f53 f54 f55 f56 hBg18 hBg41 hBg59 hC hM
       ·have ha:=ha.lit hb80;have H:=ite_f hb80 H;refine sgf ha 12 [1,1,4,0,1,1,4,0,1,1,4,0] [(0,.bool false)] fun a ha=>?_;obtain rfl:=oj H;exact J65 _ _ (ha.sel (by kernel_rfl)) f12 f13 f14 f15 f35 f36 f37 f38 f53 f54 f55 f56 hBg18 hBg41 hBg59 hC hM
      ·have ha:=ha.lit hb79;have H:=ite_f hb79 H;refine sgf ha 17 [1,1,1,4,0,1,1,4,0,1,1,4,0,1,1,4,0] [(0,.bool false)] fun a ha=>?_;obtain rfl:=oj H;exact J65 _ _ (ha.sel (by kernel_rfl)) f12 f13 f14 f15 f35 f36 f37 f38 f53 f54 f55 f56 hBg18 hBg41 hBg59 hC hM
     ·have ha:=ha.lit hb78;have H:=ite_f hb78 H;refine sgf ha 22 [1,1,1,4,0,1,1,1,4,0,1,1,4,0,1,1,4,0,1,1,4,0] [(0,.bool false)] fun a ha=>?_;obtain rfl:=oj H;exact J65 _ _ (ha.sel (by kernel_rfl)) f12 f13 f14 f15 f35 f36 f37 f38 f53 f54 f55 f56 hBg18 hBg41 hBg59 hC hM
    ·have ha:=ha.lit hb77;have H:=ite_f hb77 H;refine sgf ha 27 [1,1,1,4,0,1,1,1,4,0,1,1,1,4,0,1,1,4,0,1,1,4,0,1,1,4,0] [(0,.bool false)] fun a ha=>?_;obtain rfl:=oj H;exact J65 _ _ (ha.sel (by kernel_rfl)) f12 f13 f14 f15 f35 f36 f37 f38 f53 f54 f55 f56 hBg18 hBg41 hBg59 hC hM
   ·have ha:=ha.lit hb76;have H:=ite_f hb76 H;refine sgf ha 32 [1,1,1,4,0,1,1,1,4,0,1,1,1,4,0,1,1,1,4,0,1,1,4,0,1,1,4,0,1,1,4,0] [(0,.bool false)] fun a ha=>?_;obtain rfl:=oj H;exact J65 _ _ (ha.sel (by kernel_rfl)) f12 f13 f14 f15 f35 f36 f37 f38 f53 f54 f55 f56 hBg18 hBg41 hBg59 hC hM
  ·have ha:=ha.lit hb67;have H:=ite_f hb67 H;refine sgf ha 39 [1,1,1,1,1,4,0,1,1,1,4,0,1,1,1,4,0,1,1,1,4,0,1,1,1,4,0,1,1,4,0,1,1,4,0,1,1,4,0] [(0,.bool false)] fun a ha=>?_;obtain rfl:=oj H;exact J65 _ _ (ha.sel (by kernel_rfl)) f12 f13 f14 f15 f35 f36 f37 f38 f53 f54 f55 f56 hBg18 hBg41 hBg59 hC hM
 ·have ha:=ha.lit hb66;have H:=ite_f hb66 H;refine sgf ha 44 [1,1,1,4,0,1,1,1,1,1,4,0,1,1,1,4,0,1,1,1,4,0,1,1,1,4,0,1,1,1,4,0,1,1,4,0,1,1,4,0,1,1,4,0] [(0,.bool false)] fun a ha=>?_;obtain rfl:=oj H;exact J65 _ _ (ha.sel (by kernel_rfl)) f12 f13 f14 f15 f35 f36 f37 f38 f53 f54 f55 f56 hBg18 hBg41 hBg59 hC hM
def vinerylaw09_Few.l1 (a0:S_api_Attrs):Nat→Int→Option ((Bool) ⊕ (Unit))
  | 0,_=>none
  | kk+1,x18=>(if (decide (x18 < (a0.Tunnels.length:Int)))=true then (if 0≤x18∧x18 < (a0.Tunnels.length:Int) then (if (decide ((((rd a0.Tunnels x18).Id).length:Int) > (1024:Int)))=true then some (.inl ((false:Bool))) else vinerylaw09_Few.l1 a0 kk (IntKind.i64.wrap (x18+(1:Int)))) else none) else some (.inr (():Unit)))
def vinerylaw09_Few.l0 (a0:S_api_Attrs):Nat→Int→Option ((Bool) ⊕ (Unit))
  | 0,_=>none
  | kk+1,x14=>(if (decide (x14 < (a0.Path.length:Int)))=true then (if 0≤x14∧x14 < (a0.Path.length:Int) then (if (decide ((((rd a0.Path x14).AS).length:Int) > (300:Int)))=true then some (.inl ((false:Bool))) else vinerylaw09_Few.l0 a0 kk (IntKind.i64.wrap (x14+(1:Int)))) else none) else some (.inr (():Unit)))
def vinerylaw09_Few.f (k:Nat) (a0:S_api_Attrs):Option (Bool):=(vinerylaw09_Few.l0 a0 k (0:Int)).bind fun s13=>match s13 with | .inl r=>some r | .inr s13'=>(vinerylaw09_Few.l1 a0 k (0:Int)).bind fun s17=>match s17 with | .inl r=>some r | .inr s17'=>((if (decide ((a0.Path.length:Int) < (20:Int)))=true then (if (decide ((a0.Clusters.length:Int) < (100:Int)))=true then (if (decide ((a0.Exts.length:Int) < (200:Int)))=true then some (decide ((a0.Tunnels.length:Int) < (10:Int)):Bool) else some (false:Bool)) else some (false:Bool)) else some (false:Bool))).bind fun s20=>some ((s20:Bool))
set_option maxRecDepth 100000 in
theorem vinerylaw09_Few.walk (w:World) (M:List Nat) (hM:MS M w) (a0:S_api_Attrs) (ao1:Option Addr) (cap1:Nat) (f1:RSl rS_api_Segment 49 w M ao1 cap1 a0.Path) (ao2:Option Addr) (cap2:Nat) (f2:RSl rS_api_Addr 25 w M ao2 cap2 a0.Clusters) (ao3:Option Addr) (cap3:Nat) (f3:RSl (rArr .u8 8) 75 w M ao3 cap3 a0.Exts) (ao4:Option Addr) (cap4:Nat) (f4:RSl rS_api_Tunnel 51 w M ao4 cap4 a0.Tunnels) (k:Nat) (r:Bool) (H:vinerylaw09_Few.f k a0=some r) :
    To Tryz.prog 5 [.agg (cS_api_Attrs a0 ao1 cap1 ao2 cap2 ao3 cap3 ao4 cap4).toArray] w fun v w'=>v=.bool r∧Chg [] w w'∧MS (M) w':=by
 unfold vinerylaw09_Few.f at H;refine ent Tryz.func5 rfl [(0,.agg (cS_api_Attrs a0 ao1 cap1 ao2 cap2 ao3 cap3 ao4 cap4).toArray)] rfl (by rfl) fun a ha=>?_;have hC:Chg [] w w:=Chg.refl _ _;refine wsr fun K5 hK5=>?_;refine bx (cs:=(cS_api_Attrs a0 ao1 cap1 ao2 cap2 ao3 cap3 ao4 cap4)) ha rfl rfl rfl rfl rfl fun a w6 g7 hN8 ha=>?_;have hn10:=hN8.notin hM;have o1:=oN M w;have o2:=oR M w;have f1:=f1.chg hN8.chg o1 o2;have f2:=f2.chg hN8.chg o1 o2;have f3:=f3.chg hN8.chg o1 o2;have f4:=f4.chg hN8.chg o1 o2;have hM:=hM.chg hN8.chg;have hC:=hC.t0 hN8.chg;have hE9:Cs w6 g7 0 (cS_api_Attrs a0 ao1 cap1 ao2 cap2 ao3 cap3 ao4 cap4):=Box.cells (New.box hN8);refine sf ha 1 [(1,pt g7 0)] fun a ha=>?_;refine hK5 _ _ ?_;refine wp_seq_k fun K11 hK11=>?_;refine sqd ha 1 [] [(3,.int .i64 0)] fun a ha=>?_;refine wp_block ?_;obtain ⟨s13,H13,H⟩:=bind_some H;have J13:∀ s13' (a:Act) (wx13:World),s13=.inr s13'→Has a Tryz.f5.ntmps [(1,pt g7 0)]→(RSl rS_api_Segment 49 wx13 (M) ao1 cap1 a0.Path)→(RSl rS_api_Addr 25 wx13 (M) ao2 cap2 a0.Clusters)→(RSl (rArr .u8 8) 75 wx13 (M) ao3 cap3 a0.Exts)→(RSl rS_api_Tunnel 51 wx13 (M) ao4 cap4 a0.Tunnels)→(Cs wx13 g7 0 (cS_api_Attrs a0 ao1 cap1 ao2 cap2 ao3 cap3 ao4 cap4))→(g7∉(M))→(Chg [] w wx13)→(MS (M) wx13)→K11 a wx13:=by
  intro s13' a wx13 hs ha f1 f2 f3 f4 hE9 hn10 hC hM;subst hs;refine hK11 _ _ ?_;refine wp_seq_k fun K15 hK15=>?_;refine sqd ha 1 [] [(4,.int .i64 0)] fun a ha=>?_;refine wp_block ?_;obtain ⟨s17,H17,H⟩:=bind_some H;have J17:∀ s17' (a:Act) (wx17:World),s17=.inr s17'→Has a Tryz.f5.ntmps [(1,pt g7 0)]→(RSl rS_api_Segment 49 wx17 (M) ao1 cap1 a0.Path)→(RSl rS_api_Addr 25 wx17 (M) ao2 cap2 a0.Clusters)→(RSl (rArr .u8 8) 75 wx17 (M) ao3 cap3 a0.Exts)→(RSl rS_api_Tunnel 51 wx17 (M) ao4 cap4 a0.Tunnels)→(Cs wx17 g7 0 (cS_api_Attrs a0 ao1 cap1 ao2 cap2 ao3 cap3 ao4 cap4))→(g7∉(M))→(Chg [] w wx17)→(MS (M) wx17)→K15 a wx17:=by
   intro s17' a wx17 hs ha f1 f2 f3 f4 hE9 hn10 hC hM;subst hs;refine hK15 _ _ ?_;refine wsr fun K19 hK19=>?_;obtain ⟨s20,H20,H⟩:=bind_some H;have J20:∀ (a:Act) (w20:World),Has a Tryz.f5.ntmps [(2,.bool s20)]→(Chg [] w w20)→(MS (M) w20)→K19 a w20:=by
    intro a w20 ha hC hM;refine hK19 _ _ ?_;refine wrt ?_;obtain rfl:=oj H;refine rt1 ha rfl rfl ?_;exact ⟨rfl,hC,hM⟩
   have H:=H20;refine sd ha 1 [] [(35,.pointer (some ⟨g7,0+1,none⟩))] fun a ha=>?_;refine ld ha rfl (by kernel_rfl) rfl rfl rfl (hE9 1 (.slice ao1 a0.Path.length cap1) (by kernel_rfl)) fun a ha=>?_;refine sd ha 3 [35] [(39,.bool (decide ((a0.Path.length:Int) < (20:Int))))] fun a ha=>?_;rcases Bool.eq_false_or_eq_true (decide ((a0.Path.length:Int) < (20:Int))) with hb21 | hb21
   ·have ha:=ha.lit hb21;have H:=ite_t hb21 H;refine sgd ha 1 [2] [] [(39,.bool true),(40,.pointer (some ⟨g7,0+21,none⟩))] fun a ha=>?_;refine ld ha rfl (by kernel_rfl) rfl rfl rfl (hE9 21 (.slice ao2 a0.Clusters.length cap2) (by kernel_rfl)) fun a ha=>?_;refine sgd ha 4 [2,2,3,0] [39,40] [(45,.bool (decide ((a0.Clusters.length:Int) < (100:Int))))] fun a ha=>?_;rcases Bool.eq_false_or_eq_true (decide ((a0.Clusters.length:Int) < (100:Int))) with hb22 | hb22
    ·have ha:=ha.lit hb22;have H:=ite_t hb22 H;refine sgd ha 1 [2] [] [(45,.bool true),(46,.pointer (some ⟨g7,0+22,none⟩))] fun a ha=>?_;refine ld ha rfl (by kernel_rfl) rfl rfl rfl (hE9 22 (.slice ao3 a0.Exts.length cap3) (by kernel_rfl)) fun a ha=>?_;refine sgd ha 4 [2,2,3,0] [45,46] [(51,.bool (decide ((a0.Exts.length:Int) < (200:Int))))] fun a ha=>?_;rcases Bool.eq_false_or_eq_true (decide ((a0.Exts.length:Int) < (200:Int))) with hb23 | hb23
     ·have ha:=ha.lit hb23;have H:=ite_t hb23 H;refine sgf ha 1 [2] [(51,.bool true),(52,.pointer (some ⟨g7,0+23,none⟩))] fun a ha=>?_;refine ld ha rfl (by kernel_rfl) rfl rfl rfl (hE9 23 (.slice ao4 a0.Tunnels.length cap4) (by kernel_rfl)) fun a ha=>?_;refine sgf ha 4 [2,2,3,0] [(2,.bool (decide ((a0.Tunnels.length:Int) < (10:Int))))] fun a ha=>?_;obtain rfl:=oj H;exact J20 _ _ (ha.sel (by kernel_rfl)) hC hM
     ·have ha:=ha.lit hb23;have H:=ite_f hb23 H;refine sgf ha 6 [1,1,1,1,4,0] [(2,.bool false)] fun a ha=>?_;obtain rfl:=oj H;exact J20 _ _ (ha.sel (by kernel_rfl)) hC hM
    ·have ha:=ha.lit hb22;have H:=ite_f hb22 H;refine sgf ha 12 [1,1,1,1,4,0,1,1,1,1,4,0] [(2,.bool false)] fun a ha=>?_;obtain rfl:=oj H;exact J20 _ _ (ha.sel (by kernel_rfl)) hC hM
   ·have ha:=ha.lit hb21;have H:=ite_f hb21 H;refine sgf ha 18 [1,1,1,1,4,0,1,1,1,1,4,0,1,1,1,1,4,0] [(2,.bool false)] fun a ha=>?_;obtain rfl:=oj H;exact J20 _ _ (ha.sel (by kernel_rfl)) hC hM
  have Hc17:=H;have H:=H17;refine wp_loop_ghost (fun kk a w17=>∃ (x18:Int),vinerylaw09_Few.l1 a0 kk x18=some s17∧Has a Tryz.f5.ntmps [(1,pt g7 0),(4,.int .i64 x18)]∧(RSl rS_api_Segment 49 w17 (M) ao1 cap1 a0.Path)∧(RSl rS_api_Addr 25 w17 (M) ao2 cap2 a0.Clusters)∧(RSl (rArr .u8 8) 75 w17 (M) ao3 cap3 a0.Exts)∧(RSl rS_api_Tunnel 51 w17 (M) ao4 cap4 a0.Tunnels)∧(Cs w17 g7 0 (cS_api_Attrs a0 ao1 cap1 ao2 cap2 ao3 cap3 ao4 cap4))∧(g7∉(M))∧(Chg [] w w17)∧(MS (M) w17)) k ?_ ?_
  ·skip;exact ⟨(0:Int),H,(ha.sel (by kernel_rfl)),f1,f2,f3,f4,hE9,hn10,hC,hM⟩
  ·rintro kk a w17 ⟨x18,H,ha,f1,f2,f3,f4,hE9,hn10,hC,hM⟩;obtain _ | kk:=kk
   ·exact nomatch (show none=some _ from H)
   rw [vinerylaw09_Few.l1] at H;refine wp_seq_k fun K24 hK24=>?_;refine wsr fun K25 hK25=>?_;refine sd ha 2 [] [(20,.int .i64 x18),(21,.pointer (some ⟨g7,0+23,none⟩))] fun a ha=>?_;refine ld ha rfl (by kernel_rfl) rfl rfl rfl (hE9 23 (.slice ao4 a0.Tunnels.length cap4) (by kernel_rfl)) fun a ha=>?_;refine sd ha 2 [20,21] [(24,.bool (decide (x18 < (a0.Tunnels.length:Int))))] fun a ha=>?_;refine hK25 _ _ ?_;refine cnH H ha (fun hc26 H=>?_) (fun hc26 H=>?_)
   ·refine wp_skip ?_;refine hK24 _ _ ?_;refine wp_seq_k fun K27 hK27=>?_;refine wp_block ?_;refine wsr fun K28 hK28=>?_;refine sd ha 1 [24] [(27,.pointer (some ⟨g7,0+23,none⟩))] fun a ha=>?_;refine ld ha rfl (by kernel_rfl) rfl rfl rfl (hE9 23 (.slice ao4 a0.Tunnels.length cap4) (by kernel_rfl)) fun a ha=>?_;refine sd ha 1 [27] [(28,.slice ao4 a0.Tunnels.length cap4),(29,.int .i64 x18)] fun a ha=>?_;obtain ⟨⟨hx29,hx29'⟩,H⟩:=ite_some H;refine ix (r:=rS_api_Tunnel) ha (by kernel_rfl) (by kernel_rfl) rfl rfl rfl rfl rfl f4 hx29 hx29' fun a ge30 oe31 cs32 hn35 hR33 hE34 ha=>?_;rw [rd_get] at hR33;obtain ⟨ao36,cap36,rfl,f36⟩:=rS_api_Tunnel.open hR33;refine sd ha 1 [28,29] [(31,.pointer (some ⟨ge30,oe31+20,none⟩))] fun a ha=>?_;refine ld ha rfl (by kernel_rfl) rfl rfl rfl (hE34 20 (.slice ao36 ((rd a0.Tunnels x18).Id).length cap36) (by kernel_rfl)) fun a ha=>?_;refine sd ha 2 [31] [(34,.bool (decide ((((rd a0.Tunnels x18).Id).length:Int) > (1024:Int))))] fun a ha=>?_;refine hK28 _ _ ?_;refine cnH H ha (fun hc37 H=>?_) (fun hc37 H=>?_)
    ·refine sq ha 1 [(2,.bool false)] fun a ha=>?_;refine wrt ?_;obtain rfl:=oj H;have H:=(show some _=some _ from Hc17)
     obtain rfl:=oj H;refine rt1 ha rfl rfl ?_;exact ⟨rfl,hC,hM⟩
    ·refine wp_skip ?_;refine hK27 _ _ ?_;refine wp_region_lit ?_;refine sd ha 3 [34] [(4,.int .i64 (IntKind.i64.wrap (x18+(1:Int))))] fun a ha=>?_;exact ⟨kk,Nat.lt_succ_self _,⟨IntKind.i64.wrap (x18+(1:Int)),H,(ha.sel (by kernel_rfl)),f1,f2,f3,f4,hE9,hn10,hC,hM⟩⟩
   ·refine wx ?_;obtain rfl:=oj H;exact J17 _ _ _ rfl (ha.sel (by kernel_rfl)) f1 f2 f3 f4 hE9 hn10 hC hM
 have Hc13:=H;have H:=H13;refine wp_loop_ghost (fun kk a w13=>∃ (x14:Int),vinerylaw09_Few.l0 a0 kk x14=some s13∧Has a Tryz.f5.ntmps [(1,pt g7 0),(3,.int .i64 x14)]∧(RSl rS_api_Segment 49 w13 (M) ao1 cap1 a0.Path)∧(RSl rS_api_Addr 25 w13 (M) ao2 cap2 a0.Clusters)∧(RSl (rArr .u8 8) 75 w13 (M) ao3 cap3 a0.Exts)∧(RSl rS_api_Tunnel 51 w13 (M) ao4 cap4 a0.Tunnels)∧(Cs w13 g7 0 (cS_api_Attrs a0 ao1 cap1 ao2 cap2 ao3 cap3 ao4 cap4))∧(g7∉(M))∧(Chg [] w w13)∧(MS (M) w13)) k ?_ ?_
 ·skip;exact ⟨(0:Int),H,(ha.sel (by kernel_rfl)),f1,f2,f3,f4,hE9,hn10,hC,hM⟩
 ·rintro kk a w13 ⟨x14,H,ha,f1,f2,f3,f4,hE9,hn10,hC,hM⟩;obtain _ | kk:=kk
  ·exact nomatch (show none=some _ from H)
  rw [vinerylaw09_Few.l0] at H;refine wp_seq_k fun K39 hK39=>?_;refine wsr fun K40 hK40=>?_;refine sd ha 2 [] [(5,.int .i64 x14),(6,.pointer (some ⟨g7,0+1,none⟩))] fun a ha=>?_;refine ld ha rfl (by kernel_rfl) rfl rfl rfl (hE9 1 (.slice ao1 a0.Path.length cap1) (by kernel_rfl)) fun a ha=>?_;refine sd ha 2 [5,6] [(9,.bool (decide (x14 < (a0.Path.length:Int))))] fun a ha=>?_;refine hK40 _ _ ?_;refine cnH H ha (fun hc41 H=>?_) (fun hc41 H=>?_)
  ·refine wp_skip ?_;refine hK39 _ _ ?_;refine wp_seq_k fun K42 hK42=>?_;refine wp_block ?_;refine wsr fun K43 hK43=>?_;refine sd ha 1 [9] [(12,.pointer (some ⟨g7,0+1,none⟩))] fun a ha=>?_;refine ld ha rfl (by kernel_rfl) rfl rfl rfl (hE9 1 (.slice ao1 a0.Path.length cap1) (by kernel_rfl)) fun a ha=>?_;refine sd ha 1 [12] [(13,.slice ao1 a0.Path.length cap1),(14,.int .i64 x14)] fun a ha=>?_;obtain ⟨⟨hx44,hx44'⟩,H⟩:=ite_some H;refine ix (r:=rS_api_Segment) ha (by kernel_rfl) (by kernel_rfl) rfl rfl rfl rfl rfl f1 hx44 hx44' fun a ge45 oe46 cs47 hn50 hR48 hE49 ha=>?_;rw [rd_get] at hR48;obtain ⟨ao51,cap51,rfl,f51⟩:=rS_api_Segment.open hR48;refine sd ha 1 [13,14] [(16,.pointer (some ⟨ge45,oe46+1,none⟩))] fun a ha=>?_;refine ld ha rfl (by kernel_rfl) rfl rfl rfl (hE49 1 (.slice ao51 ((rd a0.Path x14).AS).length cap51) (by kernel_rfl)) fun a ha=>?_;refine sd ha 2 [16] [(19,.bool (decide ((((rd a0.Path x14).AS).length:Int) > (300:Int))))] fun a ha=>?_;refine hK43 _ _ ?_;refine cnH H ha (fun hc52 H=>?_) (fun hc52 H=>?_)
   ·refine sq ha 1 [(2,.bool false)] fun a ha=>?_;refine wrt ?_;obtain rfl:=oj H;have H:=(show some _=some _ from Hc13)
    obtain rfl:=oj H;refine rt1 ha rfl rfl ?_;exact ⟨rfl,hC,hM⟩
   ·refine wp_skip ?_;refine hK42 _ _ ?_;refine wp_region_lit ?_;refine sd ha 3 [19] [(3,.int .i64 (IntKind.i64.wrap (x14+(1:Int))))] fun a ha=>?_;exact ⟨kk,Nat.lt_succ_self _,⟨IntKind.i64.wrap (x14+(1:Int)),H,(ha.sel (by kernel_rfl)),f1,f2,f3,f4,hE9,hn10,hC,hM⟩⟩
  ·refine wx ?_;obtain rfl:=oj H;exact J13 _ _ _ rfl (ha.sel (by kernel_rfl)) f1 f2 f3 f4 hE9 hn10 hC hM
def bytes_trimRightByte.l0 (a1:Int):Nat→(List Int)→Option (List Int)
  | 0,_=>none
  | kk+1,x6=>((if (decide ((x6.length:Int) > (0:Int)))=true then (if 0≤(IntKind.i64.wrap ((x6.length:Int) - (1:Int)))∧(IntKind.i64.wrap ((x6.length:Int) - (1:Int))) < (x6.length:Int) then some ((rd x6 (IntKind.i64.wrap ((x6.length:Int) - (1:Int))))==a1:Bool) else none) else some (false:Bool))).bind fun s11=>(if s11=true then (if 0≤(0:Int)∧(0:Int)≤(IntKind.i64.wrap ((x6.length:Int) - (1:Int)))∧(IntKind.i64.wrap ((x6.length:Int) - (1:Int)))≤(x6.length:Int) then bytes_trimRightByte.l0 a1 kk ((x6.take (Int.toNat (IntKind.i64.wrap ((x6.length:Int) - (1:Int))))).drop (Int.toNat (0:Int))) else none) else some (x6:List Int))
def bytes_trimRightByte.f (k:Nat) (a0:List Int) (a1:Int):Option (List Int):=(bytes_trimRightByte.l0 a1 k a0).bind fun s4=>some ((s4:List Int))
set_option maxRecDepth 100000 in
theorem bytes_trimRightByte.walk (w:World) (M:List Nat) (hM:MS M w) (a0:List Int) (ao1:Option Addr) (cap1:Nat) (f1:RSl (rInt .u8) 5 w M ao1 cap1 a0) (a1:Int) (k:Nat) (r:List Int) (H:bytes_trimRightByte.f k a0 a1=some r) :
    To Tryz.prog 94 [.slice ao1 a0.length cap1,.int .u8 a1] w fun v w'=>∃ (ao23:Option Addr) (cap23:Nat),v=.slice ao23 r.length cap23∧(RSl (rInt .u8) 5 w' (M) ao23 cap23 r)∧Chg [] w w'∧MS (M) w':=by
 unfold bytes_trimRightByte.f at H;refine ent Tryz.func94 rfl [(0,.slice ao1 a0.length cap1),(1,.int .u8 a1)] rfl (by rfl) fun a ha=>?_;have hC:Chg [] w w:=Chg.refl _ _;refine sqd ha 1 [] [] fun a ha=>?_;refine wp_seq_k fun K3 hK3=>?_;refine wp_block ?_;obtain ⟨s4,H4,H⟩:=bind_some H;have J4:∀ (a:Act) (wx4:World) (ao7:Option Addr) (cap7:Nat),Has a Tryz.f94.ntmps [(0,.slice ao7 s4.length cap7)]→(RSl (rInt .u8) 5 wx4 (M) ao7 cap7 s4)→(Chg [] w wx4)→(MS (M) wx4)→K3 a wx4:=by
  intro a wx4 ao7 cap7 ha f7 hC hM;refine hK3 _ _ ?_;refine sq ha 2 [(4,.slice ao7 s4.length cap7)] fun a ha=>?_;refine wrt ?_;obtain rfl:=oj H;refine rt1 ha rfl rfl ?_;exact ⟨ao7,cap7,rfl,f7,hC,hM⟩
 have Hc4:=H;have H:=H4;refine wp_loop_ghost (fun kk a w4=>∃ (x6:List Int) (ao5:Option Addr) (cap5:Nat),bytes_trimRightByte.l0 a1 kk x6=some s4∧Has a Tryz.f94.ntmps [(0,.slice ao5 x6.length cap5),(1,.int .u8 a1)]∧(RSl (rInt .u8) 5 w4 (M) ao5 cap5 x6)∧(Chg [] w w4)∧(MS (M) w4)) k ?_ ?_
 ·skip;exact ⟨a0,ao1,cap1,H,(ha.sel (by kernel_rfl)),f1,hC,hM⟩
 ·rintro kk a w4 ⟨x6,ao5,cap5,H,ha,f5,hC,hM⟩;obtain _ | kk:=kk
  ·exact nomatch (show none=some _ from H)
  rw [bytes_trimRightByte.l0] at H;refine wp_seq_k fun K9 hK9=>?_;refine wsr fun K10 hK10=>?_;obtain ⟨s11,H11,H⟩:=bind_some H;have J11:∀ (a:Act) (w11:World),Has a Tryz.f94.ntmps [(0,.slice ao5 x6.length cap5),(1,.int .u8 a1),(17,.bool s11)]→(RSl (rInt .u8) 5 w11 (M) ao5 cap5 x6)→(Chg [] w w11)→(MS (M) w11)→K10 a w11:=by
   intro a w11 ha f5 hC hM;refine hK10 _ _ ?_;refine cnH H ha (fun hc12 H=>?_) (fun hc12 H=>?_)
   ·refine wp_skip ?_;refine hK9 _ _ ?_;refine wp_block ?_;refine wp_region_lit ?_;refine sd ha 4 [0,17] [(18,.slice ao5 x6.length cap5),(21,.int .i64 (IntKind.i64.wrap ((x6.length:Int) - (1:Int))))] fun a ha=>?_;obtain ⟨⟨hx13,hx13',hx13''⟩,H⟩:=ite_some H;refine slc (r:=(rInt .u8)) (l:=(0:Int)) (h:=(IntKind.i64.wrap ((x6.length:Int) - (1:Int)))) ha (by kernel_rfl) (by kernel_rfl) rfl rfl rfl rfl rfl rfl f5 hx13 hx13' hx13'' fun a ao14 cap14 f14 ha=>?_;refine sd ha 1 [18,21] [(0,.slice ao14 ((x6.take (Int.toNat (IntKind.i64.wrap ((x6.length:Int) - (1:Int))))).drop (Int.toNat (0:Int))).length cap14)] fun a ha=>?_;exact ⟨kk,Nat.lt_succ_self _,⟨((x6.take (Int.toNat (IntKind.i64.wrap ((x6.length:Int) - (1:Int))))).drop (Int.toNat (0:Int))),ao14,cap14,H,(ha.sel (by kernel_rfl)),f14,hC,hM⟩⟩
   ·refine wx ?_;obtain rfl:=oj H;exact J4 _ _ ao5 cap5 (ha.sel (by kernel_rfl)) f5 hC hM
  have H:=H11;refine sd ha 4 [] [(8,.bool (decide ((x6.length:Int) > (0:Int))))] fun a ha=>?_;rcases Bool.eq_false_or_eq_true (decide ((x6.length:Int) > (0:Int))) with hb15 | hb15
  ·have ha:=ha.lit hb15;have H:=ite_t hb15 H;refine sgd ha 4 [2,2,2,2] [] [(8,.bool true),(9,.slice ao5 x6.length cap5),(12,.int .i64 (IntKind.i64.wrap ((x6.length:Int) - (1:Int))))] fun a ha=>?_;obtain ⟨⟨hx16,hx16'⟩,H⟩:=ite_some H;refine ix (r:=(rInt .u8)) ha (by kernel_rfl) (by kernel_rfl) rfl rfl rfl rfl rfl f5 hx16 hx16' fun a ge17 oe18 cs19 hn22 hR20 hE21 ha=>?_;rw [rd_get] at hR20;obtain rfl:=hR20;have hE21:Cs w4 ge17 oe18 ([.int .u8 (rd x6 (IntKind.i64.wrap ((x6.length:Int) - (1:Int))))]:List Value):=hE21;refine ld ha rfl (by kernel_rfl) rfl rfl rfl (hE21 0 (.int .u8 (rd x6 (IntKind.i64.wrap ((x6.length:Int) - (1:Int))))) (by kernel_rfl)) fun a ha=>?_;refine sgd ha 3 [2,2,3] [8,9,12] [(17,.bool ((rd x6 (IntKind.i64.wrap ((x6.length:Int) - (1:Int))))==a1))] fun a ha=>?_;obtain rfl:=oj H;exact J11 _ _ (ha.sel (by kernel_rfl)) f5 hC hM
  ·have ha:=ha.lit hb15;have H:=ite_f hb15 H;refine sgd ha 9 [1,1,1,1,1,1,1,1,4] [8] [(17,.bool false)] fun a ha=>?_;obtain rfl:=oj H;exact J11 _ _ (ha.sel (by kernel_rfl)) f5 hC hM
def bytes_trimLeftByte.l0 (a1:Int):Nat→(List Int)→Option (List Int)
  | 0,_=>none
  | kk+1,x6=>((if (decide ((x6.length:Int) > (0:Int)))=true then (if 0≤(0:Int)∧(0:Int) < (x6.length:Int) then some ((rd x6 (0:Int))==a1:Bool) else none) else some (false:Bool))).bind fun s15=>(if s15=true then (if 0≤(1:Int)∧(1:Int)≤(x6.length:Int)∧(x6.length:Int)≤(x6.length:Int) then bytes_trimLeftByte.l0 a1 kk ((x6.take (Int.toNat (x6.length:Int))).drop (Int.toNat (1:Int))) else none) else some (x6:List Int))
def bytes_trimLeftByte.f (k:Nat) (a0:List Int) (a1:Int):Option (List Int):=(bytes_trimLeftByte.l0 a1 k a0).bind fun s4=>(if ((s4.length:Int)==(0:Int))=true then some ((([]:List Int):List Int)) else some ((s4:List Int)))
set_option maxRecDepth 100000 in
theorem bytes_trimLeftByte.walk (w:World) (M:List Nat) (hM:MS M w) (a0:List Int) (ao1:Option Addr) (cap1:Nat) (f1:RSl (rInt .u8) 5 w M ao1 cap1 a0) (a1:Int) (k:Nat) (r:List Int) (H:bytes_trimLeftByte.f k a0 a1=some r) :
    To Tryz.prog 93 [.slice ao1 a0.length cap1,.int .u8 a1] w fun v w'=>∃ (ao27:Option Addr) (cap27:Nat),v=.slice ao27 r.length cap27∧(RSl (rInt .u8) 5 w' (M) ao27 cap27 r)∧Chg [] w w'∧MS (M) w':=by
 unfold bytes_trimLeftByte.f at H;refine ent Tryz.func93 rfl [(0,.slice ao1 a0.length cap1),(1,.int .u8 a1)] rfl (by rfl) fun a ha=>?_;have hC:Chg [] w w:=Chg.refl _ _;refine sqd ha 1 [] [] fun a ha=>?_;refine wp_seq_k fun K3 hK3=>?_;refine wp_block ?_;obtain ⟨s4,H4,H⟩:=bind_some H;have J4:∀ (a:Act) (wx4:World) (ao7:Option Addr) (cap7:Nat),Has a Tryz.f93.ntmps [(0,.slice ao7 s4.length cap7)]→(RSl (rInt .u8) 5 wx4 (M) ao7 cap7 s4)→(Chg [] w wx4)→(MS (M) wx4)→K3 a wx4:=by
  intro a wx4 ao7 cap7 ha f7 hC hM;refine hK3 _ _ ?_;refine wp_seq_k fun K8 hK8=>?_;refine sqd ha 3 [] [(19,.bool ((s4.length:Int)==(0:Int)))] fun a ha=>?_;refine cnH H ha (fun hc10 H=>?_) (fun hc10 H=>?_)
  ·refine sq ha 1 [(4,.slice none 0 0)] fun a ha=>?_;refine wrt ?_;obtain rfl:=oj H;refine rt1 ha rfl rfl ?_;exact ⟨none,0,rfl,(RSl.nil (Nat.zero_le _)),hC,hM⟩
  ·refine wp_skip ?_;refine hK8 _ _ ?_;refine sq ha 2 [(4,.slice ao7 s4.length cap7)] fun a ha=>?_;refine wrt ?_;obtain rfl:=oj H;refine rt1 ha rfl rfl ?_;exact ⟨ao7,cap7,rfl,f7,hC,hM⟩
 have Hc4:=H;have H:=H4;refine wp_loop_ghost (fun kk a w4=>∃ (x6:List Int) (ao5:Option Addr) (cap5:Nat),bytes_trimLeftByte.l0 a1 kk x6=some s4∧Has a Tryz.f93.ntmps [(0,.slice ao5 x6.length cap5),(1,.int .u8 a1)]∧(RSl (rInt .u8) 5 w4 (M) ao5 cap5 x6)∧(Chg [] w w4)∧(MS (M) w4)) k ?_ ?_
 ·skip;exact ⟨a0,ao1,cap1,H,(ha.sel (by kernel_rfl)),f1,hC,hM⟩
 ·rintro kk a w4 ⟨x6,ao5,cap5,H,ha,f5,hC,hM⟩;obtain _ | kk:=kk
  ·exact nomatch (show none=some _ from H)
  rw [bytes_trimLeftByte.l0] at H;refine wp_seq_k fun K13 hK13=>?_;refine wsr fun K14 hK14=>?_;obtain ⟨s15,H15,H⟩:=bind_some H;have J15:∀ (a:Act) (w15:World),Has a Tryz.f93.ntmps [(0,.slice ao5 x6.length cap5),(1,.int .u8 a1),(14,.bool s15)]→(RSl (rInt .u8) 5 w15 (M) ao5 cap5 x6)→(Chg [] w w15)→(MS (M) w15)→K14 a w15:=by
   intro a w15 ha f5 hC hM;refine hK14 _ _ ?_;refine cnH H ha (fun hc16 H=>?_) (fun hc16 H=>?_)
   ·refine wp_skip ?_;refine hK13 _ _ ?_;refine wp_block ?_;refine wp_region_lit ?_;refine sd ha 1 [0,14] [(15,.slice ao5 x6.length cap5)] fun a ha=>?_;obtain ⟨⟨hx17,hx17',hx17''⟩,H⟩:=ite_some H;refine slc (r:=(rInt .u8)) (l:=(1:Int)) (h:=(x6.length:Int)) ha (by kernel_rfl) (by kernel_rfl) rfl rfl rfl rfl rfl rfl f5 hx17 hx17' hx17'' fun a ao18 cap18 f18 ha=>?_;refine sd ha 1 [15] [(0,.slice ao18 ((x6.take (Int.toNat (x6.length:Int))).drop (Int.toNat (1:Int))).length cap18)] fun a ha=>?_;exact ⟨kk,Nat.lt_succ_self _,⟨((x6.take (Int.toNat (x6.length:Int))).drop (Int.toNat (1:Int))),ao18,cap18,H,(ha.sel (by kernel_rfl)),f18,hC,hM⟩⟩
   ·refine wx ?_;obtain rfl:=oj H;exact J4 _ _ ao5 cap5 (ha.sel (by kernel_rfl)) f5 hC hM
  have H:=H15;refine sd ha 4 [] [(8,.bool (decide ((x6.length:Int) > (0:Int))))] fun a ha=>?_;rcases Bool.eq_false_or_eq_true (decide ((x6.length:Int) > (0:Int))) with hb19 | hb19
  ·have ha:=ha.lit hb19;have H:=ite_t hb19 H;refine sgd ha 1 [2] [] [(8,.bool true),(9,.slice ao5 x6.length cap5)] fun a ha=>?_;obtain ⟨⟨hx20,hx20'⟩,H⟩:=ite_some H;refine ix (r:=(rInt .u8)) ha (by kernel_rfl) (by kernel_rfl) rfl rfl rfl rfl rfl f5 hx20 hx20' fun a ge21 oe22 cs23 hn26 hR24 hE25 ha=>?_;rw [rd_get] at hR24;obtain rfl:=hR24;have hE25:Cs w4 ge21 oe22 ([.int .u8 (rd x6 (0:Int))]:List Value):=hE25;refine ld ha rfl (by kernel_rfl) rfl rfl rfl (hE25 0 (.int .u8 (rd x6 (0:Int))) (by kernel_rfl)) fun a ha=>?_;refine sgd ha 3 [2,2,3] [8,9] [(14,.bool ((rd x6 (0:Int))==a1))] fun a ha=>?_;obtain rfl:=oj H;exact J15 _ _ (ha.sel (by kernel_rfl)) f5 hC hM
  ·have ha:=ha.lit hb19;have H:=ite_f hb19 H;refine sgd ha 6 [1,1,1,1,1,4] [8] [(14,.bool false)] fun a ha=>?_;obtain rfl:=oj H;exact J15 _ _ (ha.sel (by kernel_rfl)) f5 hC hM
def bytes_Trim.f (k:Nat) (a0:List Int) (a1:List UInt8):Option (List Int):=(if ((a0.length:Int)==(0:Int))=true then some ((([]:List Int):List Int)) else (if ((bstr a1).toList==(bstr ([]:List UInt8)).toList)=true then some ((a0:List Int)) else ((if (((bstr a1).size:Int)==(1:Int))=true then (if 0≤(0:Int)∧(0:Int) < (a1.length:Int) then some (decide (((a1.getD (Int.toNat (0:Int)) 0).toNat:Int) < (128:Int)):Bool) else none) else some (false:Bool))).bind fun s13=>(if s13=true then (if 0≤(0:Int)∧(0:Int) < (a1.length:Int) then (if 0≤(0:Int)∧(0:Int) < (a1.length:Int) then (bytes_trimRightByte.f k a0 ((a1.getD (Int.toNat (0:Int)) 0).toNat:Int)).bind fun t21=>(bytes_trimLeftByte.f k t21 ((a1.getD (Int.toNat (0:Int)) 0).toNat:Int)).bind fun t24=>some ((t24:List Int)) else none) else none) else none)))
set_option maxRecDepth 100000 in
theorem bytes_Trim.walk (w:World) (M:List Nat) (hM:MS M w) (a0:List Int) (ao1:Option Addr) (cap1:Nat) (f1:RSl (rInt .u8) 5 w M ao1 cap1 a0) (a1:List UInt8) (k:Nat) (r:List Int) (H:bytes_Trim.f k a0 a1=some r) :
    To Tryz.prog 83 [.slice ao1 a0.length cap1,.string (bstr a1)] w fun v w'=>∃ (ao28:Option Addr) (cap28:Nat),v=.slice ao28 r.length cap28∧(RSl (rInt .u8) 5 w' (M) ao28 cap28 r)∧Chg [] w w'∧MS (M) w':=by
 unfold bytes_Trim.f at H;refine ent Tryz.func83 rfl [(0,.slice ao1 a0.length cap1),(1,.string (bstr a1))] rfl (by rfl) fun a ha=>?_;have hC:Chg [] w w:=Chg.refl _ _;refine sqd ha 1 [] [] fun a ha=>?_;refine wp_seq_k fun K3 hK3=>?_;refine sqd ha 3 [] [(9,.bool ((a0.length:Int)==(0:Int)))] fun a ha=>?_;refine cnH H ha (fun hc5 H=>?_) (fun hc5 H=>?_)
 ·refine sq ha 1 [(4,.slice none 0 0)] fun a ha=>?_;refine wrt ?_;obtain rfl:=oj H;refine rt1 ha rfl rfl ?_;exact ⟨none,0,rfl,(RSl.nil (Nat.zero_le _)),hC,hM⟩
 ·refine wp_skip ?_;refine hK3 _ _ ?_;refine wp_seq_k fun K7 hK7=>?_;refine sqd ha 2 [9] [(11,.bool ((bstr a1).toList==(bstr ([]:List UInt8)).toList))] fun a ha=>?_;refine cnH H ha (fun hc9 H=>?_) (fun hc9 H=>?_)
  ·refine sq ha 2 [(4,.slice ao1 a0.length cap1)] fun a ha=>?_;refine wrt ?_;obtain rfl:=oj H;refine rt1 ha rfl rfl ?_;exact ⟨ao1,cap1,rfl,f1,hC,hM⟩
  ·refine wp_skip ?_;refine hK7 _ _ ?_;refine wp_seq_k fun K11 hK11=>?_;refine wsr fun K12 hK12=>?_;obtain ⟨s13,H13,H⟩:=bind_some H;have J13:∀ (a:Act) (w13:World),Has a Tryz.f83.ntmps [(0,.slice ao1 a0.length cap1),(1,.string (bstr a1)),(20,.bool s13)]→(RSl (rInt .u8) 5 w13 (M) ao1 cap1 a0)→(Chg [] w w13)→(MS (M) w13)→K12 a w13:=by
    intro a w13 ha f1 hC hM;refine hK12 _ _ ?_;refine cnH H ha (fun hc14 H=>?_) (fun hc14 H=>?_)
    ·refine wp_seq_k fun K15 hK15=>?_;have okS:Ok [] (M) w13.heap.size:=Ok.nil _ _;refine drw (fun w'=>Chg [] w13 w') (by kernel_rfl) fun w16 hc17 _=>?_;have hS:Chg [] w13 w16:=(Chg.refl [] _).trans hc17 (Ok.nil _ _);have o1:=oN M w13;have o2:=oR M w13;have f1:=f1.chg hc17 o1 o2;have hM:=hM.chg hc17;have hC:=hC.t0 hc17;refine tp 0 0 (.slice ao1 a0.length cap1) ha hS fun a ha=>?_;refine tp 1 0 (.string (bstr a1)) ha hS fun a ha=>?_;obtain ⟨⟨hx18,hx18'⟩,H⟩:=ite_some H;refine tz 2 ha rfl (fun w' hs=>sidx_run (l:=a1) (k:=.i64) (i:=(0:Int)) ha (by kernel_rfl) (by rfl) (by rfl) hx18 hx18' w') hS fun a ha=>?_;refine tp 4 0 (.string (bstr a1)) ha hS fun a ha=>?_;obtain ⟨⟨hx19,hx19'⟩,H⟩:=ite_some H;refine tz 5 ha rfl (fun w' hs=>sidx_run (l:=a1) (k:=.i64) (i:=(0:Int)) ha (by kernel_rfl) (by rfl) (by rfl) hx19 hx19' w') hS fun a ha=>?_;refine ac 3 (by kernel_rfl) (by rfl) fun K20 hK20=>?_;obtain ⟨t21,H21,H⟩:=bind_some H;refine cL ha (bytes_trimRightByte.walk w16 _ hM a0 ao1 cap1 f1 ((a1.getD (Int.toNat (0:Int)) 0).toNat:Int) k _ H21) ?_;rintro _ w21 ⟨ao22,cap22,rfl,f22,hc21,hMn⟩ a ha;have hM:=hM.chg hc21;have hC:=hC.t0 hc21;have hS:=hS.trans hc21 (Ok.nil _ _);refine ae hK20 hS ?_;clear hK20 K20;refine ac 6 (by kernel_rfl) (by rfl) fun K23 hK23=>?_;obtain ⟨t24,H24,H⟩:=bind_some H;refine cL ha (bytes_trimLeftByte.walk w21 _ hM t21 ao22 cap22 f22 ((a1.getD (Int.toNat (0:Int)) 0).toNat:Int) k _ H24) ?_;rintro _ w24 ⟨ao25,cap25,rfl,f25,hc24,hMn⟩ a ha;have hM:=hM.chg hc24;have hC:=hC.t0 hc24;have hS:=hS.trans hc24 (Ok.nil _ _);refine ae hK23 hS ?_;clear hK23 K23;refine tp 7 0 (.slice ao25 t24.length cap25) ha hS fun a ha=>?_;refine dn (by kernel_rfl) ?_;refine hK15 _ _ ?_;refine wrt ?_;obtain rfl:=oj H;refine rt1 ha rfl rfl ?_;exact ⟨ao25,cap25,rfl,f25,hC,hM⟩
    ·exact nomatch (show none=some _ from H)
   have H:=H13;refine sd ha 4 [11] [(16,.bool (((bstr a1).size:Int)==(1:Int)))] fun a ha=>?_;rcases Bool.eq_false_or_eq_true (((bstr a1).size:Int)==(1:Int)) with hb26 | hb26
   ·have ha:=ha.lit hb26;have H:=ite_t hb26 H;refine sgd ha 1 [2] [] [(16,.bool true),(17,.string (bstr a1))] fun a ha=>?_;obtain ⟨⟨hx27,hx27'⟩,H⟩:=ite_some H;refine hop (w':=w) ha rfl rfl rfl (sidx_run (l:=a1) (k:=.i64) (i:=(0:Int)) ha (by kernel_rfl) (by rfl) (by rfl) hx27 hx27' _) fun a ha=>?_;refine sgd ha 2 [2,3] [16,17] [(20,.bool (decide (((a1.getD (Int.toNat (0:Int)) 0).toNat:Int) < (128:Int))))] fun a ha=>?_;obtain rfl:=oj H;exact J13 _ _ (ha.sel (by kernel_rfl)) f1 hC hM
   ·have ha:=ha.lit hb26;have H:=ite_f hb26 H;refine sgd ha 4 [1,1,1,4] [16] [(20,.bool false)] fun a ha=>?_;obtain rfl:=oj H;exact J13 _ _ (ha.sel (by kernel_rfl)) f1 hC hM
def addr_Right.f (k:Nat) (a0:S_api_Addr):Option (Bool):=((if (a0.Size==(0:Int))=true then some (a0.Size==(0:Int):Bool) else (if (a0.Size==(4:Int))=true then some (a0.Size==(4:Int):Bool) else some (a0.Size==(16:Int):Bool)))).bind fun s10=>(if s10=true then (if 0≤a0.Size∧a0.Size≤(16:Int)∧(16:Int)≤(16:Int) then (bytes_Trim.f k (((arL 16 a0.B).take (Int.toNat (16:Int))).drop (Int.toNat a0.Size)) ([0]:List UInt8)).bind fun t15=>some (((t15.length:Int)==(0:Int):Bool)) else none) else some ((false:Bool)))
set_option maxRecDepth 100000 in
theorem addr_Right.walk (w:World) (M:List Nat) (hM:MS M w) (a0:S_api_Addr) (k:Nat) (r:Bool) (H:addr_Right.f k a0=some r) :
    To Tryz.prog 58 [.agg (cS_api_Addr a0).toArray] w fun v w'=>v=.bool r∧Chg [] w w'∧MS (M) w':=by
 unfold addr_Right.f at H;refine ent Tryz.func58 rfl [(0,.agg (cS_api_Addr a0).toArray)] rfl (by rfl) fun a ha=>?_;have hC:Chg [] w w:=Chg.refl _ _;refine wsr fun K1 hK1=>?_;refine bx (cs:=(cS_api_Addr a0)) ha rfl rfl rfl rfl rfl fun a w2 g3 hN4 ha=>?_;have hn6:=hN4.notin hM;have hM:=hM.chg hN4.chg;have hC:=hC.t0 hN4.chg;have hE5:Cs w2 g3 0 (cS_api_Addr a0):=Box.cells (New.box hN4);refine sf ha 1 [(1,pt g3 0)] fun a ha=>?_;refine hK1 _ _ ?_;refine wp_seq_k fun K7 hK7=>?_;refine wsr fun K8 hK8=>?_;refine sd ha 1 [] [(3,pt g3 0)] fun a ha=>?_;refine ld ha rfl (by kernel_rfl) rfl rfl rfl (hE5 0 (.int .i64 a0.Size) (by kernel_rfl)) fun a ha=>?_;refine hK8 _ _ ?_;refine wp_block ?_;refine wp_seq_k fun K9 hK9=>?_;obtain ⟨s10,H10,H⟩:=bind_some H;have J10:∀ (a:Act) (w10:World),Has a Tryz.f58.ntmps [(1,pt g3 0),(5,.bool s10)]→(Cs w10 g3 0 (cS_api_Addr a0))→(g3∉(M))→(Chg [] w w10)→(MS (M) w10)→K9 a w10:=by
  intro a w10 ha hE5 hn6 hC hM;refine hK9 _ _ ?_;refine cnH H ha (fun hc11 H=>?_) (fun hc11 H=>?_)
  ·refine wsr fun K12 hK12=>?_;refine sf ha 2 [(9,.pointer (some ⟨g3,0+1,none⟩)),(10,pt g3 0)] fun a ha=>?_;refine ld ha rfl (by kernel_rfl) rfl rfl rfl (hE5 0 (.int .i64 a0.Size) (by kernel_rfl)) fun a ha=>?_;have f13:RSl (rInt .u8) 5 w10 (M) (some ⟨g3,0+1,none⟩) 16 (arL 16 a0.B):=RSl.ofA [.int .i64 a0.Size] [] hE5 hn6 (by kernel_rfl) rfl;obtain ⟨⟨hx14,hx14',hx14''⟩,H⟩:=ite_some H;obtain ⟨ao14,cap14,f14,hr14⟩:=slA_run (kk:=.u8) (T:=5) (N:=16) (g:=g3) (o':=0+1) (xs:=(arL 16 a0.B)) (t:=23) (lo:=(Option.some (Operand.tmp 11))) (hi:=Option.none) (l:=a0.Size) (h:=(16:Int)) (dd:=some 12) (ty:=42) (pos := "addr.go:24") (af:=#[{ on:=0,ground:=Ground.data },{ on:=2,ground:=Ground.data }]) (gd:=Option.none) ha (by kernel_rfl) (by kernel_rfl) (x:=(Operand.tmp 9)) rfl (arL_length _ _) rfl rfl f13 hx14 hx14' (by rw [arL_length];exact hx14'');refine hop (v:=.slice ao14 (((arL 16 a0.B).take (Int.toNat (16:Int))).drop (Int.toNat a0.Size)).length cap14) (w':=w10) ha rfl rfl rfl (hr14 _) fun a ha=>?_;obtain ⟨t15,H15,H⟩:=bind_some H;refine cL ha (bytes_Trim.walk w10 _ hM (((arL 16 a0.B).take (Int.toNat (16:Int))).drop (Int.toNat a0.Size)) ao14 cap14 f14 ([0]:List UInt8) k _ H15) ?_;rintro _ w15 ⟨ao16,cap16,rfl,f16,hc15,hMn⟩ a ha;have hM:=hM.chg hc15;have hC:=hC.t0 hc15;refine sf ha 3 [(2,.bool ((t15.length:Int)==(0:Int)))] fun a ha=>?_;refine hK12 _ _ ?_;refine wrt ?_;obtain rfl:=oj H;refine rt1 ha rfl rfl ?_;exact ⟨rfl,hC,hM⟩
  ·refine wp_skip ?_;refine hK7 _ _ ?_;refine sq ha 1 [(2,.bool false)] fun a ha=>?_;refine wrt ?_;obtain rfl:=oj H;refine rt1 ha rfl rfl ?_;exact ⟨rfl,hC,hM⟩
 have H:=H10;refine sqd ha 2 [3] [(4,.int .i64 a0.Size),(5,.bool (a0.Size==(0:Int)))] fun a ha=>?_;refine cnH H ha (fun hc19 H=>?_) (fun hc19 H=>?_)
 ·refine wp_skip ?_;obtain rfl:=oj H;exact J10 _ _ (ha.sel (by kernel_rfl)) hE5 hn6 hC hM
 ·refine sqd ha 2 [] [(5,.bool (a0.Size==(4:Int)))] fun a ha=>?_;refine cnH H ha (fun hc21 H=>?_) (fun hc21 H=>?_)
  ·refine wp_skip ?_;obtain rfl:=oj H;exact J10 _ _ (ha.sel (by kernel_rfl)) hE5 hn6 hC hM
  ·refine wp_region_lit ?_;refine sd ha 2 [4] [(5,.bool (a0.Size==(16:Int)))] fun a ha=>?_;obtain rfl:=oj H;exact J10 _ _ (ha.sel (by kernel_rfl)) hE5 hn6 hC hM
def attr_router.f (k:Nat) (a0:S_api_Addr):Option (Bool):=((if (a0.Size==(4:Int))=true then (addr_Right.f k a0).bind fun t10=>some (t10:Bool) else some (false:Bool))).bind fun s8=>some ((s8:Bool))
set_option maxRecDepth 100000 in
theorem attr_router.walk (w:World) (M:List Nat) (hM:MS M w) (a0:S_api_Addr) (k:Nat) (r:Bool) (H:attr_router.f k a0=some r) :
    To Tryz.prog 31 [.agg (cS_api_Addr a0).toArray] w fun v w'=>v=.bool r∧Chg [] w w'∧MS (M) w':=by
 unfold attr_router.f at H;refine ent Tryz.func31 rfl [(0,.agg (cS_api_Addr a0).toArray)] rfl (by rfl) fun a ha=>?_;have hC:Chg [] w w:=Chg.refl _ _;refine wsr fun K1 hK1=>?_;refine bx (cs:=(cS_api_Addr a0)) ha rfl rfl rfl rfl rfl fun a w2 g3 hN4 ha=>?_;have hM:=hM.chg hN4.chg;have hC:=hC.t0 hN4.chg;have hE5:Cs w2 g3 0 (cS_api_Addr a0):=Box.cells (New.box hN4);refine sf ha 1 [(1,pt g3 0)] fun a ha=>?_;refine hK1 _ _ ?_;refine wsr fun K7 hK7=>?_;obtain ⟨s8,H8,H⟩:=bind_some H;have J8:∀ (a:Act) (w8:World),Has a Tryz.f31.ntmps [(2,.bool s8)]→(Chg [] w w8)→(MS (M) w8)→K7 a w8:=by
  intro a w8 ha hC hM;refine hK7 _ _ ?_;refine wrt ?_;obtain rfl:=oj H;refine rt1 ha rfl rfl ?_;exact ⟨rfl,hC,hM⟩
 have H:=H8;refine sd ha 1 [] [(3,pt g3 0)] fun a ha=>?_;refine ld ha rfl (by kernel_rfl) rfl rfl rfl (hE5 0 (.int .i64 a0.Size) (by kernel_rfl)) fun a ha=>?_;refine sd ha 2 [3] [(6,.bool (a0.Size==(4:Int)))] fun a ha=>?_;rcases Bool.eq_false_or_eq_true (a0.Size==(4:Int)) with hb9 | hb9
 ·have ha:=ha.lit hb9;have H:=ite_t hb9 H;refine ldE hE5 ha fun a ha=>?_;obtain ⟨t10,H10,H⟩:=bind_some H;refine cL ha (addr_Right.walk w2 _ hM a0 k _ H10) ?_;rintro _ w10 ⟨rfl,hc10,hMn⟩ a ha;have hM:=hM.chg hc10;have hC:=hC.t0 hc10;refine sgf ha 2 [3,0] [(2,.bool t10)] fun a ha=>?_;obtain rfl:=oj H;exact J8 _ _ (ha.sel (by kernel_rfl)) hC hM
 ·have ha:=ha.lit hb9;have H:=ite_f hb9 H;refine sgf ha 4 [1,1,4,0] [(2,.bool false)] fun a ha=>?_;obtain rfl:=oj H;exact J8 _ _ (ha.sel (by kernel_rfl)) hC hM
def attr_Right_1.f (k:Nat) (a0:S_api_Addr):Option (Bool):=(attr_router.f k a0).bind fun t8=>some ((!t8:Bool))
set_option maxRecDepth 100000 in
theorem attr_Right_1.walk (w:World) (M:List Nat) (hM:MS M w) (a0:S_api_Addr) (k:Nat) (r:Bool) (H:attr_Right_1.f k a0=some r) :
    To Tryz.prog 33 [.agg (cS_api_Addr a0).toArray] w fun v w'=>v=.bool r∧Chg [] w w'∧MS (M) w':=by
 unfold attr_Right_1.f at H;refine ent Tryz.func33 rfl [(0,.agg (cS_api_Addr a0).toArray)] rfl (by rfl) fun a ha=>?_;have hC:Chg [] w w:=Chg.refl _ _;refine wsr fun K1 hK1=>?_;refine bx (cs:=(cS_api_Addr a0)) ha rfl rfl rfl rfl rfl fun a w2 g3 hN4 ha=>?_;have hM:=hM.chg hN4.chg;have hC:=hC.t0 hN4.chg;have hE5:Cs w2 g3 0 (cS_api_Addr a0):=Box.cells (New.box hN4);refine sf ha 1 [(1,pt g3 0)] fun a ha=>?_;refine hK1 _ _ ?_;refine wsr fun K7 hK7=>?_;refine ldE hE5 ha fun a ha=>?_;obtain ⟨t8,H8,H⟩:=bind_some H;refine cL ha (attr_router.walk w2 _ hM a0 k _ H8) ?_;rintro _ w8 ⟨rfl,hc8,hMn⟩ a ha;have hM:=hM.chg hc8;have hC:=hC.t0 hc8;refine sf ha 2 [(2,.bool (!t8))] fun a ha=>?_;refine hK7 _ _ ?_;refine wrt ?_;obtain rfl:=oj H;refine rt1 ha rfl rfl ?_;exact ⟨rfl,hC,hM⟩
def api_Addr_65_attr_Right_1.l0 (k:Nat) (a0:List S_api_Addr):Nat→Int→Option ((Int) ⊕ (Unit))
  | 0,_=>none
  | kk+1,x6=>(if (decide (x6 < (a0.length:Int)))=true then (if 0≤x6∧x6 < (a0.length:Int) then (attr_Right_1.f k (rd a0 x6)).bind fun t21=>(if t21=true then some (.inl ((x6:Int))) else api_Addr_65_attr_Right_1.l0 k a0 kk (IntKind.i64.wrap (x6+(1:Int)))) else none) else some (.inr (():Unit)))
def api_Addr_65_attr_Right_1.f (k:Nat) (a0:List S_api_Addr):Option (Int):=(api_Addr_65_attr_Right_1.l0 k a0 k (0:Int)).bind fun s5=>match s5 with | .inl r=>some r | .inr s5'=>some (((-1:Int):Int))
set_option maxRecDepth 100000 in
theorem api_Addr_65_attr_Right_1.walk (w:World) (M:List Nat) (hM:MS M w) (a0:List S_api_Addr) (ao1:Option Addr) (cap1:Nat) (f1:RSl rS_api_Addr 25 w M ao1 cap1 a0) (k:Nat) (r:Int) (H:api_Addr_65_attr_Right_1.f k a0=some r) :
    To Tryz.prog 65 [.slice ao1 a0.length cap1,.func (.func 33) #[] #[]] w fun v w'=>v=.int .i64 r∧Chg [] w w'∧MS (M) w':=by
 unfold api_Addr_65_attr_Right_1.f at H;refine ent Tryz.func65 rfl [(0,.slice ao1 a0.length cap1),(1,.func (.func 33) #[] #[])] rfl (by rfl) fun a ha=>?_;have hC:Chg [] w w:=Chg.refl _ _;refine sqd ha 1 [] [] fun a ha=>?_;refine wp_seq_k fun K3 hK3=>?_;refine sqd ha 3 [] [(7,.int .i64 (a0.length:Int)),(8,.int .i64 0)] fun a ha=>?_;refine wp_block ?_;obtain ⟨s5,H5,H⟩:=bind_some H;have J5:∀ s5' (a:Act) (wx5:World),s5=.inr s5'→Has a Tryz.f65.ntmps []→(Chg [] w wx5)→(MS (M) wx5)→K3 a wx5:=by
  intro s5' a wx5 hs ha hC hM;subst hs;refine hK3 _ _ ?_;refine sq ha 1 [(4,.int .i64 (-1))] fun a ha=>?_;refine wrt ?_;obtain rfl:=oj H;refine rt1 ha rfl rfl ?_;exact ⟨rfl,hC,hM⟩
 have Hc5:=H;have H:=H5;refine wp_loop_ghost (fun kk a w5=>∃ (x6:Int),api_Addr_65_attr_Right_1.l0 k a0 kk x6=some s5∧Has a Tryz.f65.ntmps [(0,.slice ao1 a0.length cap1),(1,.func (.func 33) #[] #[]),(7,.int .i64 (a0.length:Int)),(8,.int .i64 x6)]∧(RSl rS_api_Addr 25 w5 (M) ao1 cap1 a0)∧(Chg [] w w5)∧(MS (M) w5)) k ?_ ?_
 ·skip;exact ⟨(0:Int),H,(ha.sel (by kernel_rfl)),f1,hC,hM⟩
 ·rintro kk a w5 ⟨x6,H,ha,f1,hC,hM⟩;obtain _ | kk:=kk
  ·exact nomatch (show none=some _ from H)
  rw [api_Addr_65_attr_Right_1.l0] at H;refine sqd ha 1 [] [(9,.bool (decide (x6 < (a0.length:Int))))] fun a ha=>?_;refine wp_seq_k fun K9 hK9=>?_;refine cnH H ha (fun hc10 H=>?_) (fun hc10 H=>?_)
  ·refine wp_skip ?_;refine hK9 _ _ ?_;refine wp_seq_k fun K11 hK11=>?_;refine wp_block ?_;refine sqd ha 2 [9] [(5,.int .i64 x6)] fun a ha=>?_;refine wsr fun K13 hK13=>?_;refine sd ha 3 [] [(11,.func (.func 33) #[] #[]),(12,.slice ao1 a0.length cap1),(13,.int .i64 x6)] fun a ha=>?_;obtain ⟨⟨hx14,hx14'⟩,H⟩:=ite_some H;refine ix (r:=rS_api_Addr) ha (by kernel_rfl) (by kernel_rfl) rfl rfl rfl rfl rfl f1 hx14 hx14' fun a ge15 oe16 cs17 hn20 hR18 hE19 ha=>?_;rw [rd_get] at hR18;obtain rfl:=rS_api_Addr.open hR18;refine ldE hE19 ha fun a ha=>?_;obtain ⟨t21,H21,H⟩:=bind_some H;refine clv ha (by rfl) (by rfl) (by kernel_rfl) (by rfl) (by rfl) (by rfl) (attr_Right_1.walk w5 _ hM (rd a0 x6) k _ H21) ?_;rintro _ w21 ⟨rfl,hc21,hMn⟩ a ha;have o1:=oN M w5;have o2:=oR M w5;have f1:=f1.chg hc21 o1 o2;have hM:=hM.chg hc21;have hC:=hC.t0 hc21;refine hK13 _ _ ?_;refine cnH H ha (fun hc22 H=>?_) (fun hc22 H=>?_)
   ·refine sq ha 2 [(4,.int .i64 x6)] fun a ha=>?_;refine wrt ?_;obtain rfl:=oj H;have H:=(show some _=some _ from Hc5)
    obtain rfl:=oj H;refine rt1 ha rfl rfl ?_;exact ⟨rfl,hC,hM⟩
   ·refine wp_skip ?_;refine hK11 _ _ ?_;refine wp_region_lit ?_;refine sd ha 2 [5,11,12,13] [(8,.int .i64 (IntKind.i64.wrap (x6+(1:Int))))] fun a ha=>?_;exact ⟨kk,Nat.lt_succ_self _,⟨IntKind.i64.wrap (x6+(1:Int)),H,(ha.sel (by kernel_rfl)),f1,hC,hM⟩⟩
  ·refine wx ?_;obtain rfl:=oj H;exact J5 _ _ _ rfl (ha.sel (by kernel_rfl)) hC hM
def api_Addr_attr_Right_1.f (k:Nat) (a0:List S_api_Addr):Option (Bool):=(api_Addr_65_attr_Right_1.f k a0).bind fun t4=>some ((decide (t4 ≥ (0:Int)):Bool))
set_option maxRecDepth 100000 in
theorem api_Addr_attr_Right_1.walk (w:World) (M:List Nat) (hM:MS M w) (a0:List S_api_Addr) (ao1:Option Addr) (cap1:Nat) (f1:RSl rS_api_Addr 25 w M ao1 cap1 a0) (k:Nat) (r:Bool) (H:api_Addr_attr_Right_1.f k a0=some r) :
    To Tryz.prog 32 [.slice ao1 a0.length cap1,.func (.func 33) #[] #[]] w fun v w'=>v=.bool r∧Chg [] w w'∧MS (M) w':=by
 unfold api_Addr_attr_Right_1.f at H;refine ent Tryz.func32 rfl [(0,.slice ao1 a0.length cap1),(1,.func (.func 33) #[] #[])] rfl (by rfl) fun a ha=>?_;have hC:Chg [] w w:=Chg.refl _ _;refine sqd ha 1 [] [] fun a ha=>?_;refine wsr fun K3 hK3=>?_;refine sf ha 2 [(5,.slice ao1 a0.length cap1),(6,.func (.func 33) #[] #[])] fun a ha=>?_;obtain ⟨t4,H4,H⟩:=bind_some H;refine cL ha (api_Addr_65_attr_Right_1.walk w _ hM a0 ao1 cap1 f1 k _ H4) ?_;rintro _ w4 ⟨rfl,hc4,hMn⟩ a ha;have hM:=hM.chg hc4;have hC:=hC.t0 hc4;refine sf ha 2 [(4,.bool (decide (t4 ≥ (0:Int))))] fun a ha=>?_;refine hK3 _ _ ?_;refine wrt ?_;obtain rfl:=oj H;refine rt1 ha rfl rfl ?_;exact ⟨rfl,hC,hM⟩
def addr_Of.f (a0:List Int):Option (S_api_Addr×Int):=((if ((a0.length:Int)==(0:Int))=true then some ((a0.length:Int)==(0:Int):Bool) else (if ((a0.length:Int)==(4:Int))=true then some ((a0.length:Int)==(4:Int):Bool) else some ((a0.length:Int)==(16:Int):Bool)))).bind fun s10=>(if s10=true then some (((⟨(a0.length:Int),(arC 16 (List.replicate 16 (0:Int)) a0)⟩:S_api_Addr):S_api_Addr),((0:Int):Int)) else some (((⟨(0:Int),(List.replicate 16 (0:Int))⟩:S_api_Addr):S_api_Addr),((1:Int):Int)))
set_option maxRecDepth 100000 in
theorem addr_Of.walk (w:World) (M:List Nat) (hM:MS M w) (a0:List Int) (ao1:Option Addr) (cap1:Nat) (f1:RSl (rInt .u8) 5 w M ao1 cap1 a0) (r:S_api_Addr×Int) (H:addr_Of.f a0=some r) :
    To Tryz.prog 67 [.slice ao1 a0.length cap1] w fun v w'=>v=.tuple #[.agg (cS_api_Addr r.1).toArray,.int .i64 r.2]∧Chg [] w w'∧MS (M) w':=by
 unfold addr_Of.f at H;refine ent Tryz.func67 rfl [(0,.slice ao1 a0.length cap1)] rfl (by rfl) fun a ha=>?_;have hC:Chg [] w w:=Chg.refl _ _;refine wsr fun K2 hK2=>?_;refine alE (cS_api_Addr (⟨(0:Int),(List.replicate 16 (0:Int))⟩:S_api_Addr)) ha fun a w3 g4 hN5 ha=>?_;have o1:=oN M w;have o2:=oA hN5 M;have f1:=f1.chg hN5.chg o1 o2;have e_i6:=eN hC (hN5.ge1);have hM:=MS.app hN5.ms (hM.chg hN5.chg);have hC:=hC.t0 hN5.chg;have hBg4:=hN5.box;refine sd ha 1 [] [(2,pt g4 0)] fun a ha=>?_;refine hK2 _ _ ?_;refine wp_seq_k fun K7 hK7=>?_;refine sqd ha 2 [] [(6,.int .i64 (a0.length:Int))] fun a ha=>?_;refine wp_block ?_;refine wp_seq_k fun K9 hK9=>?_;obtain ⟨s10,H10,H⟩:=bind_some H;have J10:∀ (a:Act) (w10:World),Has a Tryz.f67.ntmps [(0,.slice ao1 a0.length cap1),(2,pt g4 0),(7,.bool s10)]→(RSl (rInt .u8) 5 w10 ([g4]++(M)) ao1 cap1 a0)→(Box w10 g4 (cS_api_Addr (⟨(0:Int),(List.replicate 16 (0:Int))⟩:S_api_Addr)))→(Chg [] w w10)→(MS ([g4]++(M)) w10)→K9 a w10:=by
  intro a w10 ha f1 hBg4 hC hM;refine hK9 _ _ ?_;refine cnH H ha (fun hc11 H=>?_) (fun hc11 H=>?_)
  ·refine wsr fun K12 hK12=>?_;refine sd ha 2 [7] [(12,.int .i64 (a0.length:Int))] fun a ha=>?_;refine oP (.agg (cS_api_Addr (⟨(a0.length:Int),(List.replicate 16 (0:Int))⟩:S_api_Addr)).toArray) ha fun a ha=>?_;refine alE (cS_api_Addr (⟨(0:Int),(List.replicate 16 (0:Int))⟩:S_api_Addr)) ha fun a w13 g14 hN15 ha=>?_;have o1:=oN ([g4]++(M)) w10;have o2:=oA hN15 ([g4]++(M));have f1:=f1.chg hN15.chg o1 o2;have hBg4:=hBg4.c0 hN15.chg;have p_i16_i6:=pn (B:=[g4]) hM (hN15.ge1) fun _ hy=>ml hy;have e_i16:=eN hC (hN15.ge1);have hM:=MS.app hN15.ms (hM.chg hN15.chg);have hC:=hC.t0 hN15.chg;have hBg14:=hN15.box;refine stE (cS_api_Addr (⟨(a0.length:Int),(List.replicate 16 (0:Int))⟩:S_api_Addr)) ha hBg14 fun a w17 ha hBg14 hc18 _=>?_;have o1:Ok [g14] ([g14]++([g4]++(M))) w13.heap.size:=(fun _ h=>.inl (ml h))
   have o2:=oR ([g14]++([g4]++(M))) w13;have f1:=f1.chg hc18 o1 o2;have hBg4:=hBg4.chg hc18 ((fun x (hx:x∈[g4]) (hy:x∈[g14])=>p_i16_i6 x hy hx) g4 (by simp));have hM:=hM.chg hc18;have hC:=hC.t1 hc18 e_i16;refine hK12 _ _ ?_;refine wsr fun K19 hK19=>?_;refine sd ha 1 [12] [(4,pt g14 0),(14,pt g14 1)] fun a ha=>?_;refine oP (.slice (some ⟨g14,1,none⟩) 16 16) ha fun a ha=>?_;refine sd ha 1 [0,14] [(15,.slice (some ⟨g14,1,none⟩) 16 16),(16,.slice ao1 a0.length cap1)] fun a ha=>?_;refine cpyA (T:=5) (k:=.u8) (x0:=(List.replicate 16 (0:Int))) (N:=16) ([.int .i64 (a0.length:Int)]:List Value) ([]:List Value) ha (by kernel_rfl) (by kernel_rfl) rfl rfl rfl rfl rfl hBg14 (by kernel_rfl) f1 fun a w20 hb2 hc21 ha=>?_;have hBg4:=hBg4.chg hc21 ((fun x (hx:x∈[g4]) (hy:x∈[g14])=>p_i16_i6 x hy hx) g4 (by simp));have hM:=hM.chg hc21;have hC:=hC.t1 hc21 e_i16;have hBg14:Box w20 g14 (cS_api_Addr (⟨(a0.length:Int),(arC 16 (List.replicate 16 (0:Int)) a0)⟩:S_api_Addr)):=hb2.cast (by kernel_rfl);refine hK19 _ _ ?_;refine wsr fun K22 hK22=>?_;refine ldE (Box.cells hBg14) ha fun a ha=>?_;refine stE (cS_api_Addr (⟨(a0.length:Int),(arC 16 (List.replicate 16 (0:Int)) a0)⟩:S_api_Addr)) ha hBg4 fun a w23 ha hBg4 hc24 _=>?_;have hM:=hM.chg hc24;have hC:=hC.t1 hc24 e_i6;refine sf ha 1 [(2,pt g4 0),(3,.int .i64 0)] fun a ha=>?_;refine hK22 _ _ ?_;refine wrt ?_;have hM:MS M w23:=hM.sb fun _ h=>mr (mr (h));obtain rfl:=oj H;refine rtr ha (res2 rfl (roA ha rfl hBg4 (by kernel_rfl)) (roT ha rfl)) ?_;exact ⟨rfl,hC,hM⟩
  ·refine wp_skip ?_;refine hK7 _ _ ?_;refine wsr fun K25 hK25=>?_;refine oP (.agg (cS_api_Addr (⟨(0:Int),(List.replicate 16 (0:Int))⟩:S_api_Addr)).toArray) ha fun a ha=>?_;refine stE (cS_api_Addr (⟨(0:Int),(List.replicate 16 (0:Int))⟩:S_api_Addr)) ha hBg4 fun a w26 ha hBg4 hc27 _=>?_;have hM:=hM.chg hc27;have hC:=hC.t1 hc27 e_i6;refine sd ha 1 [0,7] [(3,.int .i64 1)] fun a ha=>?_;refine hK25 _ _ ?_;refine wrt ?_;have hM:MS M w26:=hM.sb fun _ h=>mr (h);obtain rfl:=oj H;refine rtr ha (res2 rfl (roA ha rfl hBg4 (by kernel_rfl)) (roT ha rfl)) ?_;exact ⟨rfl,hC,hM⟩
 have H:=H10;refine sqd ha 2 [] [(7,.bool ((a0.length:Int)==(0:Int)))] fun a ha=>?_;refine cnH H ha (fun hc29 H=>?_) (fun hc29 H=>?_)
 ·refine wp_skip ?_;obtain rfl:=oj H;exact J10 _ _ (ha.sel (by kernel_rfl)) f1 hBg4 hC hM
 ·refine sqd ha 2 [] [(7,.bool ((a0.length:Int)==(4:Int)))] fun a ha=>?_;refine cnH H ha (fun hc31 H=>?_) (fun hc31 H=>?_)
  ·refine wp_skip ?_;obtain rfl:=oj H;exact J10 _ _ (ha.sel (by kernel_rfl)) f1 hBg4 hC hM
  ·refine wp_region_lit ?_;refine sd ha 2 [6] [(7,.bool ((a0.length:Int)==(16:Int)))] fun a ha=>?_;obtain rfl:=oj H;exact J10 _ _ (ha.sel (by kernel_rfl)) f1 hBg4 hC hM
def addr_Multicast.f (k:Nat) (a0:S_api_Addr):Option (Bool):=(addr_Right.f k a0).bind fun t9=>(if (!t9)=true then some ((false:Bool)) else (if (a0.Size==(4:Int))=true then some (((Int.fdiv (ar a0.B 0) (2^(min (4:Int).toNat IntKind.u8.bits)))==(14:Int):Bool)) else ((if (a0.Size==(16:Int))=true then some ((ar a0.B 0)==(255:Int):Bool) else some (false:Bool))).bind fun s17=>some ((s17:Bool))))
set_option maxRecDepth 100000 in
theorem addr_Multicast.walk (w:World) (M:List Nat) (hM:MS M w) (a0:S_api_Addr) (k:Nat) (r:Bool) (H:addr_Multicast.f k a0=some r) :
    To Tryz.prog 68 [.agg (cS_api_Addr a0).toArray] w fun v w'=>v=.bool r∧Chg [] w w'∧MS (M) w':=by
 unfold addr_Multicast.f at H;refine ent Tryz.func68 rfl [(0,.agg (cS_api_Addr a0).toArray)] rfl (by rfl) fun a ha=>?_;have hC:Chg [] w w:=Chg.refl _ _;refine wsr fun K1 hK1=>?_;refine bx (cs:=(cS_api_Addr a0)) ha rfl rfl rfl rfl rfl fun a w2 g3 hN4 ha=>?_;have hn6:=hN4.notin hM;have hM:=hM.chg hN4.chg;have hC:=hC.t0 hN4.chg;have hE5:Cs w2 g3 0 (cS_api_Addr a0):=Box.cells (New.box hN4);refine sf ha 1 [(1,pt g3 0)] fun a ha=>?_;refine hK1 _ _ ?_;refine wp_seq_k fun K7 hK7=>?_;refine wp_block ?_;refine wsr fun K8 hK8=>?_;refine ldE hE5 ha fun a ha=>?_;obtain ⟨t9,H9,H⟩:=bind_some H;refine cL ha (addr_Right.walk w2 _ hM a0 k _ H9) ?_;rintro _ w9 ⟨rfl,hc9,hMn⟩ a ha;have o1:=oN M w2;have hE5:=ck hc9 o1 hn6 hE5;have hM:=hM.chg hc9;have hC:=hC.t0 hc9;refine sd ha 2 [] [(3,.bool (!t9))] fun a ha=>?_;refine hK8 _ _ ?_;refine cnH H ha (fun hc10 H=>?_) (fun hc10 H=>?_)
 ·refine sq ha 1 [(2,.bool false)] fun a ha=>?_;refine wrt ?_;obtain rfl:=oj H;refine rt1 ha rfl rfl ?_;exact ⟨rfl,hC,hM⟩
 ·refine wsr fun K12 hK12=>?_;refine sd ha 1 [3] [(8,pt g3 0)] fun a ha=>?_;refine ld ha rfl (by kernel_rfl) rfl rfl rfl (hE5 0 (.int .i64 a0.Size) (by kernel_rfl)) fun a ha=>?_;refine sd ha 2 [8] [(7,.bool (a0.Size==(4:Int)))] fun a ha=>?_;refine hK12 _ _ ?_;refine cnH H ha (fun hc13 H=>?_) (fun hc13 H=>?_)
  ·refine wsr fun K14 hK14=>?_;refine sf ha 1 [(11,.pointer (some ⟨g3,0+1,none⟩))] fun a ha=>?_;have hE15:Cs w9 g3 (0+1+0) ([.int .u8 (ar a0.B 0)]:List Value):=cellA (m:=16) [.int .i64 a0.Size] [] hE5 (by kernel_rfl) (by decide);refine iA 5 16 g3 (0+1) .i64 ((0:Int)) (by decide) (by decide) ha fun a ha=>?_;refine ld ha rfl (by kernel_rfl) rfl rfl rfl (hE15 0 (.int .u8 (ar a0.B 0)) (by kernel_rfl)) fun a ha=>?_;refine sf ha 3 [(2,.bool ((Int.fdiv (ar a0.B 0) (2^(min (4:Int).toNat IntKind.u8.bits)))==(14:Int)))] fun a ha=>?_;refine hK14 _ _ ?_;refine wrt ?_;obtain rfl:=oj H;refine rt1 ha rfl rfl ?_;exact ⟨rfl,hC,hM⟩
  ·refine wp_skip ?_;refine hK7 _ _ ?_;refine wsr fun K16 hK16=>?_;obtain ⟨s17,H17,H⟩:=bind_some H;have J17:∀ (a:Act) (w17:World),Has a Tryz.f68.ntmps [(2,.bool s17)]→(Chg [] w w17)→(MS (M) w17)→K16 a w17:=by
    intro a w17 ha hC hM;refine hK16 _ _ ?_;refine wrt ?_;obtain rfl:=oj H;refine rt1 ha rfl rfl ?_;exact ⟨rfl,hC,hM⟩
   have H:=H17;refine sd ha 1 [7] [(16,pt g3 0)] fun a ha=>?_;refine ld ha rfl (by kernel_rfl) rfl rfl rfl (hE5 0 (.int .i64 a0.Size) (by kernel_rfl)) fun a ha=>?_;refine sd ha 2 [16] [(19,.bool (a0.Size==(16:Int)))] fun a ha=>?_;rcases Bool.eq_false_or_eq_true (a0.Size==(16:Int)) with hb18 | hb18
   ·have ha:=ha.lit hb18;have H:=ite_t hb18 H;refine sgf ha 1 [2] [(19,.bool true),(20,.pointer (some ⟨g3,0+1,none⟩))] fun a ha=>?_;have hE19:Cs w9 g3 (0+1+0) ([.int .u8 (ar a0.B 0)]:List Value):=cellA (m:=16) [.int .i64 a0.Size] [] hE5 (by kernel_rfl) (by decide);refine iA 5 16 g3 (0+1) .i64 ((0:Int)) (by decide) (by decide) ha fun a ha=>?_;refine ld ha rfl (by kernel_rfl) rfl rfl rfl (hE19 0 (.int .u8 (ar a0.B 0)) (by kernel_rfl)) fun a ha=>?_;refine sgf ha 3 [2,3,0] [(2,.bool ((ar a0.B 0)==(255:Int)))] fun a ha=>?_;obtain rfl:=oj H;exact J17 _ _ (ha.sel (by kernel_rfl)) hC hM
   ·have ha:=ha.lit hb18;have H:=ite_f hb18 H;refine sgf ha 6 [1,1,1,1,4,0] [(2,.bool false)] fun a ha=>?_;obtain rfl:=oj H;exact J17 _ _ (ha.sel (by kernel_rfl)) hC hM
def pmsi_Right.f (k:Nat) (a0:S_api_Tunnel):Option (Bool):=((addr_Right.f k a0.Root).bind fun t57=>(if (!t57)=true then some (true:Bool) else (if (decide (a0.Label < (0:Int)))=true then some (true:Bool) else some (decide (a0.Label > (1048575:Int)):Bool)))).bind fun s10=>(if s10=true then some ((false:Bool)) else (if (a0.Kind==(0:Int))=true then some (((IntKind.i64.wrap (a0.Root.Size+(a0.Id.length:Int)))==(0:Int):Bool)) else (if (a0.Kind==(1:Int))=true then ((if (a0.Root.Size==(4:Int))=true then some ((a0.Id.length:Int)==(6:Int):Bool) else some (false:Bool))).bind fun s21=>some ((s21:Bool)) else ((if (a0.Kind==(2:Int))=true then some (a0.Kind==(2:Int):Bool) else some (a0.Kind==(7:Int):Bool))).bind fun s24=>(if s24=true then ((if (decide (a0.Root.Size > (0:Int)))=true then some (decide ((a0.Id.length:Int)≤(64:Int)):Bool) else some (false:Bool))).bind fun s27=>some ((s27:Bool)) else ((if (a0.Kind==(3:Int))=true then some (a0.Kind==(3:Int):Bool) else (if (a0.Kind==(4:Int))=true then some (a0.Kind==(4:Int):Bool) else some (a0.Kind==(5:Int):Bool)))).bind fun s30=>(if s30=true then (addr_Of.f a0.Id).bind fun t33=>((if (t33.2==(0:Int))=true then (if (t33.1.Size==a0.Root.Size)=true then (addr_Multicast.f k t33.1).bind fun t44=>some (t44:Bool) else some (false:Bool)) else some (false:Bool))).bind fun s41=>some ((s41:Bool)) else (if (a0.Kind==(6:Int))=true then ((if (decide (a0.Root.Size > (0:Int)))=true then some ((a0.Id.length:Int)==(0:Int):Bool) else some (false:Bool))).bind fun s48=>some ((s48:Bool)) else some ((false:Bool))))))))
set_option maxRecDepth 100000 in
theorem pmsi_Right.walk (w:World) (M:List Nat) (hM:MS M w) (a0:S_api_Tunnel) (ao1:Option Addr) (cap1:Nat) (f1:RSl (rInt .u8) 5 w M ao1 cap1 a0.Id) (k:Nat) (r:Bool) (H:pmsi_Right.f k a0=some r) :
    To Tryz.prog 36 [.agg (cS_api_Tunnel a0 ao1 cap1).toArray] w fun v w'=>v=.bool r∧Chg [] w w'∧MS (M) w':=by
 unfold pmsi_Right.f at H;refine ent Tryz.func36 rfl [(0,.agg (cS_api_Tunnel a0 ao1 cap1).toArray)] rfl (by rfl) fun a ha=>?_;have hC:Chg [] w w:=Chg.refl _ _;refine wsr fun K2 hK2=>?_;refine bx (cs:=(cS_api_Tunnel a0 ao1 cap1)) ha rfl rfl rfl rfl rfl fun a w3 g4 hN5 ha=>?_;have hn7:=hN5.notin hM;have o1:=oN M w;have o2:=oR M w;have f1:=f1.chg hN5.chg o1 o2;have hM:=hM.chg hN5.chg;have hC:=hC.t0 hN5.chg;have hE6:Cs w3 g4 0 (cS_api_Tunnel a0 ao1 cap1):=Box.cells (New.box hN5);refine sf ha 1 [(1,pt g4 0)] fun a ha=>?_;refine hK2 _ _ ?_;refine wp_seq_k fun K8 hK8=>?_;refine wsr fun K9 hK9=>?_;obtain ⟨s10,H10,H⟩:=bind_some H;have J10:∀ (a:Act) (w10:World),Has a Tryz.f36.ntmps [(1,pt g4 0),(18,.bool s10)]→(RSl (rInt .u8) 5 w10 (M) ao1 cap1 a0.Id)→(Cs w10 g4 0 (cS_api_Tunnel a0 ao1 cap1))→(g4∉(M))→(Chg [] w w10)→(MS (M) w10)→K9 a w10:=by
  intro a w10 ha f1 hE6 hn7 hC hM;refine hK9 _ _ ?_;refine cnH H ha (fun hc11 H=>?_) (fun hc11 H=>?_)
  ·refine sq ha 1 [(2,.bool false)] fun a ha=>?_;refine wrt ?_;obtain rfl:=oj H;refine rt1 ha rfl rfl ?_;exact ⟨rfl,hC,hM⟩
  ·refine wp_skip ?_;refine hK8 _ _ ?_;refine wp_seq_k fun K13 hK13=>?_;refine wsr fun K14 hK14=>?_;refine sd ha 1 [18] [(19,.pointer (some ⟨g4,0+1,none⟩))] fun a ha=>?_;refine ld ha rfl (by kernel_rfl) rfl rfl rfl (hE6 1 (.int .i64 a0.Kind) (by kernel_rfl)) fun a ha=>?_;refine hK14 _ _ ?_;refine wp_block ?_;refine sqd ha 2 [19] [(20,.int .i64 a0.Kind),(21,.bool (a0.Kind==(0:Int)))] fun a ha=>?_;refine cnH H ha (fun hc16 H=>?_) (fun hc16 H=>?_)
   ·refine wsr fun K17 hK17=>?_;refine sd ha 2 [20,21] [(24,.pointer (some ⟨g4,0+3,none⟩))] fun a ha=>?_;refine ld ha rfl (by kernel_rfl) rfl rfl rfl (hE6 3 (.int .i64 a0.Root.Size) (by kernel_rfl)) fun a ha=>?_;refine sf ha 1 [(25,.int .i64 a0.Root.Size),(26,.pointer (some ⟨g4,0+20,none⟩))] fun a ha=>?_;refine ld ha rfl (by kernel_rfl) rfl rfl rfl (hE6 20 (.slice ao1 a0.Id.length cap1) (by kernel_rfl)) fun a ha=>?_;refine sf ha 4 [(2,.bool ((IntKind.i64.wrap (a0.Root.Size+(a0.Id.length:Int)))==(0:Int)))] fun a ha=>?_;refine hK17 _ _ ?_;refine wrt ?_;obtain rfl:=oj H;refine rt1 ha rfl rfl ?_;exact ⟨rfl,hC,hM⟩
   ·refine sqd ha 2 [21] [(31,.bool (a0.Kind==(1:Int)))] fun a ha=>?_;refine cnH H ha (fun hc19 H=>?_) (fun hc19 H=>?_)
    ·refine wsr fun K20 hK20=>?_;obtain ⟨s21,H21,H⟩:=bind_some H;have J21:∀ (a:Act) (w21:World),Has a Tryz.f36.ntmps [(2,.bool s21)]→(Chg [] w w21)→(MS (M) w21)→K20 a w21:=by
      intro a w21 ha hC hM;refine hK20 _ _ ?_;refine wrt ?_;obtain rfl:=oj H;refine rt1 ha rfl rfl ?_;exact ⟨rfl,hC,hM⟩
     have H:=H21;refine sd ha 2 [20,31] [(34,.pointer (some ⟨g4,0+3,none⟩))] fun a ha=>?_;refine ld ha rfl (by kernel_rfl) rfl rfl rfl (hE6 3 (.int .i64 a0.Root.Size) (by kernel_rfl)) fun a ha=>?_;refine sd ha 2 [34] [(37,.bool (a0.Root.Size==(4:Int)))] fun a ha=>?_;rcases Bool.eq_false_or_eq_true (a0.Root.Size==(4:Int)) with hb22 | hb22
     ·have ha:=ha.lit hb22;have H:=ite_t hb22 H;refine sgf ha 1 [2] [(37,.bool true),(38,.pointer (some ⟨g4,0+20,none⟩))] fun a ha=>?_;refine ld ha rfl (by kernel_rfl) rfl rfl rfl (hE6 20 (.slice ao1 a0.Id.length cap1) (by kernel_rfl)) fun a ha=>?_;refine sgf ha 4 [2,2,3,0] [(2,.bool ((a0.Id.length:Int)==(6:Int)))] fun a ha=>?_;obtain rfl:=oj H;exact J21 _ _ (ha.sel (by kernel_rfl)) hC hM
     ·have ha:=ha.lit hb22;have H:=ite_f hb22 H;refine sgf ha 6 [1,1,1,1,4,0] [(2,.bool false)] fun a ha=>?_;obtain rfl:=oj H;exact J21 _ _ (ha.sel (by kernel_rfl)) hC hM
    ·refine wp_seq_k fun K23 hK23=>?_;obtain ⟨s24,H24,H⟩:=bind_some H;have J24:∀ (a:Act) (w24:World),Has a Tryz.f36.ntmps [(1,pt g4 0),(20,.int .i64 a0.Kind),(43,.bool s24)]→(RSl (rInt .u8) 5 w24 (M) ao1 cap1 a0.Id)→(Cs w24 g4 0 (cS_api_Tunnel a0 ao1 cap1))→(g4∉(M))→(Chg [] w w24)→(MS (M) w24)→K23 a w24:=by
      intro a w24 ha f1 hE6 hn7 hC hM;refine hK23 _ _ ?_;refine cnH H ha (fun hc25 H=>?_) (fun hc25 H=>?_)
      ·refine wsr fun K26 hK26=>?_;obtain ⟨s27,H27,H⟩:=bind_some H;have J27:∀ (a:Act) (w27:World),Has a Tryz.f36.ntmps [(2,.bool s27)]→(Chg [] w w27)→(MS (M) w27)→K26 a w27:=by
        intro a w27 ha hC hM;refine hK26 _ _ ?_;refine wrt ?_;obtain rfl:=oj H;refine rt1 ha rfl rfl ?_;exact ⟨rfl,hC,hM⟩
       have H:=H27;refine sd ha 2 [20,43] [(47,.pointer (some ⟨g4,0+3,none⟩))] fun a ha=>?_;refine ld ha rfl (by kernel_rfl) rfl rfl rfl (hE6 3 (.int .i64 a0.Root.Size) (by kernel_rfl)) fun a ha=>?_;refine sd ha 2 [47] [(50,.bool (decide (a0.Root.Size > (0:Int))))] fun a ha=>?_;rcases Bool.eq_false_or_eq_true (decide (a0.Root.Size > (0:Int))) with hb28 | hb28
       ·have ha:=ha.lit hb28;have H:=ite_t hb28 H;refine sgf ha 1 [2] [(50,.bool true),(51,.pointer (some ⟨g4,0+20,none⟩))] fun a ha=>?_;refine ld ha rfl (by kernel_rfl) rfl rfl rfl (hE6 20 (.slice ao1 a0.Id.length cap1) (by kernel_rfl)) fun a ha=>?_;refine sgf ha 4 [2,2,3,0] [(2,.bool (decide ((a0.Id.length:Int)≤(64:Int))))] fun a ha=>?_;obtain rfl:=oj H;exact J27 _ _ (ha.sel (by kernel_rfl)) hC hM
       ·have ha:=ha.lit hb28;have H:=ite_f hb28 H;refine sgf ha 6 [1,1,1,1,4,0] [(2,.bool false)] fun a ha=>?_;obtain rfl:=oj H;exact J27 _ _ (ha.sel (by kernel_rfl)) hC hM
      ·refine wp_seq_k fun K29 hK29=>?_;obtain ⟨s30,H30,H⟩:=bind_some H;have J30:∀ (a:Act) (w30:World),Has a Tryz.f36.ntmps [(1,pt g4 0),(20,.int .i64 a0.Kind),(56,.bool s30)]→(RSl (rInt .u8) 5 w30 (M) ao1 cap1 a0.Id)→(Cs w30 g4 0 (cS_api_Tunnel a0 ao1 cap1))→(g4∉(M))→(Chg [] w w30)→(MS (M) w30)→K29 a w30:=by
        intro a w30 ha f1 hE6 hn7 hC hM;refine hK29 _ _ ?_;refine cnH H ha (fun hc31 H=>?_) (fun hc31 H=>?_)
        ·refine wsr fun K32 hK32=>?_;refine sd ha 1 [20,56] [(61,.pointer (some ⟨g4,0+20,none⟩))] fun a ha=>?_;refine ld ha rfl (by kernel_rfl) rfl rfl rfl (hE6 20 (.slice ao1 a0.Id.length cap1) (by kernel_rfl)) fun a ha=>?_;obtain ⟨t33,H33,H⟩:=bind_some H;refine cL ha (addr_Of.walk w30 _ hM a0.Id ao1 cap1 f1 _ H33) ?_;rintro _ w33 ⟨rfl,hc33,hMn⟩ a ha;have o1:=oN M w30;have o2:=oR M w30;have q_hn7:=qn o2 hn7 (hE6 0 _ rfl);have hE6:=ck hc33 o1 hn7 hE6;have hn7:=q_hn7;have hM:=hM.chg hc33;have hC:=hC.t0 hc33;refine sd ha 3 [61] [(64,.agg (cS_api_Addr t33.1).toArray),(65,.int .i64 t33.2)] fun a ha=>?_;refine alE (cS_api_Addr (⟨(0:Int),(List.replicate 16 (0:Int))⟩:S_api_Addr)) ha fun a w34 g35 hN36 ha=>?_;have o1:=oN M w33;have o2:=oA hN36 M;have q_hn7:=qn o2 hn7 (hE6 0 _ rfl);have hE6:=ck hN36.chg o1 hn7 hE6;have hn7:=q_hn7;have e_i37:=eN hC (hN36.ge1);have hM:=MS.app hN36.ms (hM.chg hN36.chg);have hC:=hC.t0 hN36.chg;have hBg35:=hN36.box;refine stE (cS_api_Addr t33.1) ha hBg35 fun a w38 ha hBg35 hc39 _=>?_;have o1:Ok [g35] ([g35]++(M)) w34.heap.size:=(fun _ h=>.inl (ml h))
         have hE6:=ck hc39 o1 hn7 hE6;have hM:=hM.chg hc39;have hC:=hC.t1 hc39 e_i37;refine sd ha 1 [64,65] [(3,pt g35 0),(4,.int .i64 t33.2)] fun a ha=>?_;refine hK32 _ _ ?_;refine wsr fun K40 hK40=>?_;obtain ⟨s41,H41,H⟩:=bind_some H;have J41:∀ (a:Act) (w41:World),Has a Tryz.f36.ntmps [(2,.bool s41)]→(Box w41 g35 (cS_api_Addr t33.1))→(Chg [] w w41)→(MS ([g35]++(M)) w41)→K40 a w41:=by
          intro a w41 ha hBg35 hC hM;refine hK40 _ _ ?_;refine wrt ?_;have hM:MS M w41:=hM.sb fun _ h=>mr (h);obtain rfl:=oj H;refine rt1 ha rfl rfl ?_;exact ⟨rfl,hC,hM⟩
         have H:=H41;refine sd ha 3 [4] [(68,.bool (t33.2==(0:Int)))] fun a ha=>?_;rcases Bool.eq_false_or_eq_true (t33.2==(0:Int)) with hb42 | hb42
         ·have ha:=ha.lit hb42;have H:=ite_t hb42 H;refine sgd ha 1 [2] [] [(68,.bool true),(69,pt g35 0)] fun a ha=>?_;refine ld (v:=.int .i64 t33.1.Size) ha rfl (by kernel_rfl) rfl rfl rfl (hBg35.cell' (o:=0) rfl (by kernel_rfl)) fun a ha=>?_;refine sgd ha 2 [2,2] [1,69] [(70,.int .i64 t33.1.Size),(72,.pointer (some ⟨g4,0+3,none⟩))] fun a ha=>?_;refine ld ha rfl (by kernel_rfl) rfl rfl rfl (hE6 3 (.int .i64 a0.Root.Size) (by kernel_rfl)) fun a ha=>?_;refine sgf ha 3 [2,3,0] [(76,.bool (t33.1.Size==a0.Root.Size)),(3,pt g35 0)] fun a ha=>?_;rcases Bool.eq_false_or_eq_true (t33.1.Size==a0.Root.Size) with hb43 | hb43
          ·have ha:=ha.lit hb43;have H:=ite_t hb43 H;refine ldE (Box.cells hBg35) ha fun a ha=>?_;obtain ⟨t44,H44,H⟩:=bind_some H;refine cL ha (addr_Multicast.walk w38 _ hM t33.1 k _ H44) ?_;rintro _ w44 ⟨rfl,hc44,hMn⟩ a ha;have hBg35:=hBg35.c0 hc44;have hM:=hM.chg hc44;have hC:=hC.t0 hc44;refine sgf ha 2 [3,0] [(2,.bool t44)] fun a ha=>?_;obtain rfl:=oj H;exact J41 _ _ (ha.sel (by kernel_rfl)) hBg35 hC hM
          ·have ha:=ha.lit hb43;have H:=ite_f hb43 H;refine sgf ha 4 [1,1,4,0] [(2,.bool false)] fun a ha=>?_;obtain rfl:=oj H;exact J41 _ _ (ha.sel (by kernel_rfl)) hBg35 hC hM
         ·have ha:=ha.lit hb42;have H:=ite_f hb42 H;refine sgf ha 12 [1,1,1,1,1,1,4,0,1,1,4,0] [(2,.bool false)] fun a ha=>?_;obtain rfl:=oj H;exact J41 _ _ (ha.sel (by kernel_rfl)) hBg35 hC hM
        ·refine sqd ha 2 [20,56] [(80,.bool (a0.Kind==(6:Int)))] fun a ha=>?_;refine cnH H ha (fun hc46 H=>?_) (fun hc46 H=>?_)
         ·refine wsr fun K47 hK47=>?_;obtain ⟨s48,H48,H⟩:=bind_some H;have J48:∀ (a:Act) (w48:World),Has a Tryz.f36.ntmps [(2,.bool s48)]→(Chg [] w w48)→(MS (M) w48)→K47 a w48:=by
           intro a w48 ha hC hM;refine hK47 _ _ ?_;refine wrt ?_;obtain rfl:=oj H;refine rt1 ha rfl rfl ?_;exact ⟨rfl,hC,hM⟩
          have H:=H48;refine sd ha 2 [80] [(83,.pointer (some ⟨g4,0+3,none⟩))] fun a ha=>?_;refine ld ha rfl (by kernel_rfl) rfl rfl rfl (hE6 3 (.int .i64 a0.Root.Size) (by kernel_rfl)) fun a ha=>?_;refine sd ha 2 [83] [(86,.bool (decide (a0.Root.Size > (0:Int))))] fun a ha=>?_;rcases Bool.eq_false_or_eq_true (decide (a0.Root.Size > (0:Int))) with hb49 | hb49
          ·have ha:=ha.lit hb49;have H:=ite_t hb49 H;refine sgf ha 1 [2] [(86,.bool true),(87,.pointer (some ⟨g4,0+20,none⟩))] fun a ha=>?_;refine ld ha rfl (by kernel_rfl) rfl rfl rfl (hE6 20 (.slice ao1 a0.Id.length cap1) (by kernel_rfl)) fun a ha=>?_;refine sgf ha 4 [2,2,3,0] [(2,.bool ((a0.Id.length:Int)==(0:Int)))] fun a ha=>?_;obtain rfl:=oj H;exact J48 _ _ (ha.sel (by kernel_rfl)) hC hM
          ·have ha:=ha.lit hb49;have H:=ite_f hb49 H;refine sgf ha 6 [1,1,1,1,4,0] [(2,.bool false)] fun a ha=>?_;obtain rfl:=oj H;exact J48 _ _ (ha.sel (by kernel_rfl)) hC hM
         ·refine wp_skip ?_;refine hK13 _ _ ?_;refine sq ha 1 [(2,.bool false)] fun a ha=>?_;refine wrt ?_;obtain rfl:=oj H;refine rt1 ha rfl rfl ?_;exact ⟨rfl,hC,hM⟩
       have H:=H30;refine sqd ha 2 [43] [(56,.bool (a0.Kind==(3:Int)))] fun a ha=>?_;refine cnH H ha (fun hc52 H=>?_) (fun hc52 H=>?_)
       ·refine wp_skip ?_;obtain rfl:=oj H;exact J30 _ _ (ha.sel (by kernel_rfl)) f1 hE6 hn7 hC hM
       ·refine sqd ha 2 [] [(56,.bool (a0.Kind==(4:Int)))] fun a ha=>?_;refine cnH H ha (fun hc54 H=>?_) (fun hc54 H=>?_)
        ·refine wp_skip ?_;obtain rfl:=oj H;exact J30 _ _ (ha.sel (by kernel_rfl)) f1 hE6 hn7 hC hM
        ·refine wp_region_lit ?_;refine sd ha 2 [] [(56,.bool (a0.Kind==(5:Int)))] fun a ha=>?_;obtain rfl:=oj H;exact J30 _ _ (ha.sel (by kernel_rfl)) f1 hE6 hn7 hC hM
     have H:=H24;refine sqd ha 2 [31] [(43,.bool (a0.Kind==(2:Int)))] fun a ha=>?_;refine cnH H ha (fun hc56 H=>?_) (fun hc56 H=>?_)
     ·refine wp_skip ?_;obtain rfl:=oj H;exact J24 _ _ (ha.sel (by kernel_rfl)) f1 hE6 hn7 hC hM
     ·refine wp_region_lit ?_;refine sd ha 2 [] [(43,.bool (a0.Kind==(7:Int)))] fun a ha=>?_;obtain rfl:=oj H;exact J24 _ _ (ha.sel (by kernel_rfl)) f1 hE6 hn7 hC hM
 have H:=H10;refine sd ha 1 [] [(5,.pointer (some ⟨g4,0+3,none⟩))] fun a ha=>?_;refine ldA (cs:=(cS_api_Addr a0.Root)) ha rfl (by kernel_rfl) rfl rfl rfl (cells_sub hE6 (all:=(cS_api_Tunnel a0 ao1 cap1)) [.bool a0.Leaf,.int .i64 a0.Kind,.int .i64 a0.Label] [.slice ao1 a0.Id.length cap1] (by kernel_rfl)) fun a ha=>?_;obtain ⟨t57,H57,H⟩:=bind_some H;refine cL ha (addr_Right.walk w3 _ hM a0.Root k _ H57) ?_;rintro _ w57 ⟨rfl,hc57,hMn⟩ a ha;have o1:=oN M w3;have o2:=oR M w3;have f1:=f1.chg hc57 o1 o2;have q_hn7:=qn o2 hn7 (hE6 0 _ rfl);have hE6:=ck hc57 o1 hn7 hE6;have hn7:=q_hn7;have hM:=hM.chg hc57;have hC:=hC.t0 hc57;refine sd ha 2 [5] [(9,.bool (!t57))] fun a ha=>?_;rcases Bool.eq_false_or_eq_true (!t57) with hb58 | hb58
 ·have ha:=ha.lit hb58;have H:=ite_t hb58 H;refine sgd ha 9 [1,1,1,3,0,1,1,1,3] [9] [(18,.bool true)] fun a ha=>?_;obtain rfl:=oj H;exact J10 _ _ (ha.sel (by kernel_rfl)) f1 hE6 hn7 hC hM
 ·have ha:=ha.lit hb58;have H:=ite_f hb58 H;refine sgd ha 1 [2] [] [(9,.bool false),(10,.pointer (some ⟨g4,0+2,none⟩))] fun a ha=>?_;refine ld ha rfl (by kernel_rfl) rfl rfl rfl (hE6 2 (.int .i64 a0.Label) (by kernel_rfl)) fun a ha=>?_;refine sgd ha 3 [2,4,0] [9,10] [(14,.bool (decide (a0.Label < (0:Int))))] fun a ha=>?_;rcases Bool.eq_false_or_eq_true (decide (a0.Label < (0:Int))) with hb59 | hb59
  ·have ha:=ha.lit hb59;have H:=ite_t hb59 H;refine sgd ha 4 [1,1,1,3] [14] [(18,.bool true)] fun a ha=>?_;obtain rfl:=oj H;exact J10 _ _ (ha.sel (by kernel_rfl)) f1 hE6 hn7 hC hM
  ·have ha:=ha.lit hb59;have H:=ite_f hb59 H;refine sgd ha 1 [2] [] [(14,.bool false),(15,.pointer (some ⟨g4,0+2,none⟩))] fun a ha=>?_;refine ld ha rfl (by kernel_rfl) rfl rfl rfl (hE6 2 (.int .i64 a0.Label) (by kernel_rfl)) fun a ha=>?_;refine sgd ha 2 [2,4] [14,15] [(18,.bool (decide (a0.Label > (1048575:Int))))] fun a ha=>?_;obtain rfl:=oj H;exact J10 _ _ (ha.sel (by kernel_rfl)) f1 hE6 hn7 hC hM
def attr_Right_2.f (k:Nat) (a0:S_api_Tunnel):Option (Bool):=(pmsi_Right.f k a0).bind fun t9=>some ((!t9:Bool))
set_option maxRecDepth 100000 in
theorem attr_Right_2.walk (w:World) (M:List Nat) (hM:MS M w) (a0:S_api_Tunnel) (ao1:Option Addr) (cap1:Nat) (f1:RSl (rInt .u8) 5 w M ao1 cap1 a0.Id) (k:Nat) (r:Bool) (H:attr_Right_2.f k a0=some r) :
    To Tryz.prog 35 [.agg (cS_api_Tunnel a0 ao1 cap1).toArray] w fun v w'=>v=.bool r∧Chg [] w w'∧MS (M) w':=by
 unfold attr_Right_2.f at H;refine ent Tryz.func35 rfl [(0,.agg (cS_api_Tunnel a0 ao1 cap1).toArray)] rfl (by rfl) fun a ha=>?_;have hC:Chg [] w w:=Chg.refl _ _;refine wsr fun K2 hK2=>?_;refine bx (cs:=(cS_api_Tunnel a0 ao1 cap1)) ha rfl rfl rfl rfl rfl fun a w3 g4 hN5 ha=>?_;have o1:=oN M w;have o2:=oR M w;have f1:=f1.chg hN5.chg o1 o2;have hM:=hM.chg hN5.chg;have hC:=hC.t0 hN5.chg;have hE6:Cs w3 g4 0 (cS_api_Tunnel a0 ao1 cap1):=Box.cells (New.box hN5);refine sf ha 1 [(1,pt g4 0)] fun a ha=>?_;refine hK2 _ _ ?_;refine wsr fun K8 hK8=>?_;refine ldE hE6 ha fun a ha=>?_;obtain ⟨t9,H9,H⟩:=bind_some H;refine cL ha (pmsi_Right.walk w3 _ hM a0 ao1 cap1 f1 k _ H9) ?_;rintro _ w9 ⟨rfl,hc9,hMn⟩ a ha;have hM:=hM.chg hc9;have hC:=hC.t0 hc9;refine sf ha 2 [(2,.bool (!t9))] fun a ha=>?_;refine hK8 _ _ ?_;refine wrt ?_;obtain rfl:=oj H;refine rt1 ha rfl rfl ?_;exact ⟨rfl,hC,hM⟩
def api_Tunnel_66_attr_Right_2.l0 (k:Nat) (a0:List S_api_Tunnel):Nat→Int→Option ((Int) ⊕ (Unit))
  | 0,_=>none
  | kk+1,x6=>(if (decide (x6 < (a0.length:Int)))=true then (if 0≤x6∧x6 < (a0.length:Int) then (attr_Right_2.f k (rd a0 x6)).bind fun t22=>(if t22=true then some (.inl ((x6:Int))) else api_Tunnel_66_attr_Right_2.l0 k a0 kk (IntKind.i64.wrap (x6+(1:Int)))) else none) else some (.inr (():Unit)))
def api_Tunnel_66_attr_Right_2.f (k:Nat) (a0:List S_api_Tunnel):Option (Int):=(api_Tunnel_66_attr_Right_2.l0 k a0 k (0:Int)).bind fun s5=>match s5 with | .inl r=>some r | .inr s5'=>some (((-1:Int):Int))
set_option maxRecDepth 100000 in
theorem api_Tunnel_66_attr_Right_2.walk (w:World) (M:List Nat) (hM:MS M w) (a0:List S_api_Tunnel) (ao1:Option Addr) (cap1:Nat) (f1:RSl rS_api_Tunnel 51 w M ao1 cap1 a0) (k:Nat) (r:Int) (H:api_Tunnel_66_attr_Right_2.f k a0=some r) :
    To Tryz.prog 66 [.slice ao1 a0.length cap1,.func (.func 35) #[] #[]] w fun v w'=>v=.int .i64 r∧Chg [] w w'∧MS (M) w':=by
 unfold api_Tunnel_66_attr_Right_2.f at H;refine ent Tryz.func66 rfl [(0,.slice ao1 a0.length cap1),(1,.func (.func 35) #[] #[])] rfl (by rfl) fun a ha=>?_;have hC:Chg [] w w:=Chg.refl _ _;refine sqd ha 1 [] [] fun a ha=>?_;refine wp_seq_k fun K3 hK3=>?_;refine sqd ha 3 [] [(7,.int .i64 (a0.length:Int)),(8,.int .i64 0)] fun a ha=>?_;refine wp_block ?_;obtain ⟨s5,H5,H⟩:=bind_some H;have J5:∀ s5' (a:Act) (wx5:World),s5=.inr s5'→Has a Tryz.f66.ntmps []→(Chg [] w wx5)→(MS (M) wx5)→K3 a wx5:=by
  intro s5' a wx5 hs ha hC hM;subst hs;refine hK3 _ _ ?_;refine sq ha 1 [(4,.int .i64 (-1))] fun a ha=>?_;refine wrt ?_;obtain rfl:=oj H;refine rt1 ha rfl rfl ?_;exact ⟨rfl,hC,hM⟩
 have Hc5:=H;have H:=H5;refine wp_loop_ghost (fun kk a w5=>∃ (x6:Int),api_Tunnel_66_attr_Right_2.l0 k a0 kk x6=some s5∧Has a Tryz.f66.ntmps [(0,.slice ao1 a0.length cap1),(1,.func (.func 35) #[] #[]),(7,.int .i64 (a0.length:Int)),(8,.int .i64 x6)]∧(RSl rS_api_Tunnel 51 w5 (M) ao1 cap1 a0)∧(Chg [] w w5)∧(MS (M) w5)) k ?_ ?_
 ·skip;exact ⟨(0:Int),H,(ha.sel (by kernel_rfl)),f1,hC,hM⟩
 ·rintro kk a w5 ⟨x6,H,ha,f1,hC,hM⟩;obtain _ | kk:=kk
  ·exact nomatch (show none=some _ from H)
  rw [api_Tunnel_66_attr_Right_2.l0] at H;refine sqd ha 1 [] [(9,.bool (decide (x6 < (a0.length:Int))))] fun a ha=>?_;refine wp_seq_k fun K9 hK9=>?_;refine cnH H ha (fun hc10 H=>?_) (fun hc10 H=>?_)
  ·refine wp_skip ?_;refine hK9 _ _ ?_;refine wp_seq_k fun K11 hK11=>?_;refine wp_block ?_;refine sqd ha 2 [9] [(5,.int .i64 x6)] fun a ha=>?_;refine wsr fun K13 hK13=>?_;refine sd ha 3 [] [(11,.func (.func 35) #[] #[]),(12,.slice ao1 a0.length cap1),(13,.int .i64 x6)] fun a ha=>?_;obtain ⟨⟨hx14,hx14'⟩,H⟩:=ite_some H;refine ix (r:=rS_api_Tunnel) ha (by kernel_rfl) (by kernel_rfl) rfl rfl rfl rfl rfl f1 hx14 hx14' fun a ge15 oe16 cs17 hn20 hR18 hE19 ha=>?_;rw [rd_get] at hR18;obtain ⟨ao21,cap21,rfl,f21⟩:=rS_api_Tunnel.open hR18;refine ldE hE19 ha fun a ha=>?_;obtain ⟨t22,H22,H⟩:=bind_some H;refine clv ha (by rfl) (by rfl) (by kernel_rfl) (by rfl) (by rfl) (by rfl) (attr_Right_2.walk w5 _ hM (rd a0 x6) ao21 cap21 f21 k _ H22) ?_;rintro _ w22 ⟨rfl,hc22,hMn⟩ a ha;have o1:=oN M w5;have o2:=oR M w5;have f1:=f1.chg hc22 o1 o2;have hM:=hM.chg hc22;have hC:=hC.t0 hc22;refine hK13 _ _ ?_;refine cnH H ha (fun hc23 H=>?_) (fun hc23 H=>?_)
   ·refine sq ha 2 [(4,.int .i64 x6)] fun a ha=>?_;refine wrt ?_;obtain rfl:=oj H;have H:=(show some _=some _ from Hc5)
    obtain rfl:=oj H;refine rt1 ha rfl rfl ?_;exact ⟨rfl,hC,hM⟩
   ·refine wp_skip ?_;refine hK11 _ _ ?_;refine wp_region_lit ?_;refine sd ha 2 [5,11,12,13] [(8,.int .i64 (IntKind.i64.wrap (x6+(1:Int))))] fun a ha=>?_;exact ⟨kk,Nat.lt_succ_self _,⟨IntKind.i64.wrap (x6+(1:Int)),H,(ha.sel (by kernel_rfl)),f1,hC,hM⟩⟩
  ·refine wx ?_;obtain rfl:=oj H;exact J5 _ _ _ rfl (ha.sel (by kernel_rfl)) hC hM
def api_Tunnel_attr_Right_2.f (k:Nat) (a0:List S_api_Tunnel):Option (Bool):=(api_Tunnel_66_attr_Right_2.f k a0).bind fun t4=>some ((decide (t4 ≥ (0:Int)):Bool))
set_option maxRecDepth 100000 in
theorem api_Tunnel_attr_Right_2.walk (w:World) (M:List Nat) (hM:MS M w) (a0:List S_api_Tunnel) (ao1:Option Addr) (cap1:Nat) (f1:RSl rS_api_Tunnel 51 w M ao1 cap1 a0) (k:Nat) (r:Bool) (H:api_Tunnel_attr_Right_2.f k a0=some r) :
    To Tryz.prog 34 [.slice ao1 a0.length cap1,.func (.func 35) #[] #[]] w fun v w'=>v=.bool r∧Chg [] w w'∧MS (M) w':=by
 unfold api_Tunnel_attr_Right_2.f at H;refine ent Tryz.func34 rfl [(0,.slice ao1 a0.length cap1),(1,.func (.func 35) #[] #[])] rfl (by rfl) fun a ha=>?_;have hC:Chg [] w w:=Chg.refl _ _;refine sqd ha 1 [] [] fun a ha=>?_;refine wsr fun K3 hK3=>?_;refine sf ha 2 [(5,.slice ao1 a0.length cap1),(6,.func (.func 35) #[] #[])] fun a ha=>?_;obtain ⟨t4,H4,H⟩:=bind_some H;refine cL ha (api_Tunnel_66_attr_Right_2.walk w _ hM a0 ao1 cap1 f1 k _ H4) ?_;rintro _ w4 ⟨rfl,hc4,hMn⟩ a ha;have hM:=hM.chg hc4;have hC:=hC.t0 hc4;refine sf ha 2 [(4,.bool (decide (t4 ≥ (0:Int))))] fun a ha=>?_;refine hK3 _ _ ?_;refine wrt ?_;obtain rfl:=oj H;refine rt1 ha rfl rfl ?_;exact ⟨rfl,hC,hM⟩
def attr_wrong_1.f (a0:Int):Option (Bool):=some ((if (decide (a0 < (0:Int)))=true then true else (decide (a0 > (4294967295:Int))):Bool))
set_option maxRecDepth 100000 in
theorem attr_wrong_1.walk (w:World) (M:List Nat) (hM:MS M w) (a0:Int) (r:Bool) (H:attr_wrong_1.f a0=some r) :
    To Tryz.prog 87 [.int .i64 a0] w fun v w'=>v=.bool r∧Chg [] w w'∧MS (M) w':=by
 unfold attr_wrong_1.f at H;refine ent Tryz.func87 rfl [(0,.int .i64 a0)] rfl (by rfl) fun a ha=>?_;have hC:Chg [] w w:=Chg.refl _ _;refine sqd ha 1 [] [] fun a ha=>?_;refine sq ha 7 [(2,.bool (if (decide (a0 < (0:Int)))=true then true else (decide (a0 > (4294967295:Int)))))] fun a ha=>?_;refine wrt ?_;obtain rfl:=oj H;refine rt1 ha rfl rfl ?_;exact ⟨rfl,hC,hM⟩
def slices_IndexFunc_int_int_attr_wrong_1.l0 (a0:List Int):Nat→Int→Option ((Int) ⊕ (Unit))
  | 0,_=>none
  | kk+1,x6=>(if (decide (x6 < (a0.length:Int)))=true then (if 0≤x6∧x6 < (a0.length:Int) then (attr_wrong_1.f (rd a0 x6)).bind fun t21=>(if t21=true then some (.inl ((x6:Int))) else slices_IndexFunc_int_int_attr_wrong_1.l0 a0 kk (IntKind.i64.wrap (x6+(1:Int)))) else none) else some (.inr (():Unit)))
def slices_IndexFunc_int_int_attr_wrong_1.f (k:Nat) (a0:List Int):Option (Int):=(slices_IndexFunc_int_int_attr_wrong_1.l0 a0 k (0:Int)).bind fun s5=>match s5 with | .inl r=>some r | .inr s5'=>some (((-1:Int):Int))
set_option maxRecDepth 100000 in
theorem slices_IndexFunc_int_int_attr_wrong_1.walk (w:World) (M:List Nat) (hM:MS M w) (a0:List Int) (ao1:Option Addr) (cap1:Nat) (f1:RSl (rInt .i64) 3 w M ao1 cap1 a0) (k:Nat) (r:Int) (H:slices_IndexFunc_int_int_attr_wrong_1.f k a0=some r) :
    To Tryz.prog 100 [.slice ao1 a0.length cap1,.func (.func 87) #[] #[]] w fun v w'=>v=.int .i64 r∧Chg [] w w'∧MS (M) w':=by
 unfold slices_IndexFunc_int_int_attr_wrong_1.f at H;refine ent Tryz.func100 rfl [(0,.slice ao1 a0.length cap1),(1,.func (.func 87) #[] #[])] rfl (by rfl) fun a ha=>?_;have hC:Chg [] w w:=Chg.refl _ _;refine sqd ha 1 [] [] fun a ha=>?_;refine wp_seq_k fun K3 hK3=>?_;refine sqd ha 3 [] [(7,.int .i64 (a0.length:Int)),(8,.int .i64 0)] fun a ha=>?_;refine wp_block ?_;obtain ⟨s5,H5,H⟩:=bind_some H;have J5:∀ s5' (a:Act) (wx5:World),s5=.inr s5'→Has a Tryz.f100.ntmps []→(Chg [] w wx5)→(MS (M) wx5)→K3 a wx5:=by
  intro s5' a wx5 hs ha hC hM;subst hs;refine hK3 _ _ ?_;refine sq ha 1 [(4,.int .i64 (-1))] fun a ha=>?_;refine wrt ?_;obtain rfl:=oj H;refine rt1 ha rfl rfl ?_;exact ⟨rfl,hC,hM⟩
 have Hc5:=H;have H:=H5;refine wp_loop_ghost (fun kk a w5=>∃ (x6:Int),slices_IndexFunc_int_int_attr_wrong_1.l0 a0 kk x6=some s5∧Has a Tryz.f100.ntmps [(0,.slice ao1 a0.length cap1),(1,.func (.func 87) #[] #[]),(7,.int .i64 (a0.length:Int)),(8,.int .i64 x6)]∧(RSl (rInt .i64) 3 w5 (M) ao1 cap1 a0)∧(Chg [] w w5)∧(MS (M) w5)) k ?_ ?_
 ·skip;exact ⟨(0:Int),H,(ha.sel (by kernel_rfl)),f1,hC,hM⟩
 ·rintro kk a w5 ⟨x6,H,ha,f1,hC,hM⟩;obtain _ | kk:=kk
  ·exact nomatch (show none=some _ from H)
  rw [slices_IndexFunc_int_int_attr_wrong_1.l0] at H;refine sqd ha 1 [] [(9,.bool (decide (x6 < (a0.length:Int))))] fun a ha=>?_;refine wp_seq_k fun K9 hK9=>?_;refine cnH H ha (fun hc10 H=>?_) (fun hc10 H=>?_)
  ·refine wp_skip ?_;refine hK9 _ _ ?_;refine wp_seq_k fun K11 hK11=>?_;refine wp_block ?_;refine sqd ha 2 [9] [(5,.int .i64 x6)] fun a ha=>?_;refine wsr fun K13 hK13=>?_;refine sd ha 3 [] [(11,.func (.func 87) #[] #[]),(12,.slice ao1 a0.length cap1),(13,.int .i64 x6)] fun a ha=>?_;obtain ⟨⟨hx14,hx14'⟩,H⟩:=ite_some H;refine ix (r:=(rInt .i64)) ha (by kernel_rfl) (by kernel_rfl) rfl rfl rfl rfl rfl f1 hx14 hx14' fun a ge15 oe16 cs17 hn20 hR18 hE19 ha=>?_;rw [rd_get] at hR18;obtain rfl:=hR18;have hE19:Cs w5 ge15 oe16 ([.int .i64 (rd a0 x6)]:List Value):=hE19;refine ld ha rfl (by kernel_rfl) rfl rfl rfl (hE19 0 (.int .i64 (rd a0 x6)) (by kernel_rfl)) fun a ha=>?_;obtain ⟨t21,H21,H⟩:=bind_some H;refine clv ha (by rfl) (by rfl) (by kernel_rfl) (by rfl) (by rfl) (by rfl) (attr_wrong_1.walk w5 _ hM (rd a0 x6) _ H21) ?_;rintro _ w21 ⟨rfl,hc21,hMn⟩ a ha;have o1:=oN M w5;have o2:=oR M w5;have f1:=f1.chg hc21 o1 o2;have hM:=hM.chg hc21;have hC:=hC.t0 hc21;refine hK13 _ _ ?_;refine cnH H ha (fun hc22 H=>?_) (fun hc22 H=>?_)
   ·refine sq ha 2 [(4,.int .i64 x6)] fun a ha=>?_;refine wrt ?_;obtain rfl:=oj H;have H:=(show some _=some _ from Hc5)
    obtain rfl:=oj H;refine rt1 ha rfl rfl ?_;exact ⟨rfl,hC,hM⟩
   ·refine wp_skip ?_;refine hK11 _ _ ?_;refine wp_region_lit ?_;refine sd ha 2 [5,11,12,13] [(8,.int .i64 (IntKind.i64.wrap (x6+(1:Int))))] fun a ha=>?_;exact ⟨kk,Nat.lt_succ_self _,⟨IntKind.i64.wrap (x6+(1:Int)),H,(ha.sel (by kernel_rfl)),f1,hC,hM⟩⟩
  ·refine wx ?_;obtain rfl:=oj H;exact J5 _ _ _ rfl (ha.sel (by kernel_rfl)) hC hM
def slices_ContainsFunc_int_int_attr_wrong_1.f (k:Nat) (a0:List Int):Option (Bool):=(slices_IndexFunc_int_int_attr_wrong_1.f k a0).bind fun t4=>some ((decide (t4 ≥ (0:Int)):Bool))
set_option maxRecDepth 100000 in
theorem slices_ContainsFunc_int_int_attr_wrong_1.walk (w:World) (M:List Nat) (hM:MS M w) (a0:List Int) (ao1:Option Addr) (cap1:Nat) (f1:RSl (rInt .i64) 3 w M ao1 cap1 a0) (k:Nat) (r:Bool) (H:slices_ContainsFunc_int_int_attr_wrong_1.f k a0=some r) :
    To Tryz.prog 86 [.slice ao1 a0.length cap1,.func (.func 87) #[] #[]] w fun v w'=>v=.bool r∧Chg [] w w'∧MS (M) w':=by
 unfold slices_ContainsFunc_int_int_attr_wrong_1.f at H;refine ent Tryz.func86 rfl [(0,.slice ao1 a0.length cap1),(1,.func (.func 87) #[] #[])] rfl (by rfl) fun a ha=>?_;have hC:Chg [] w w:=Chg.refl _ _;refine sqd ha 1 [] [] fun a ha=>?_;refine wsr fun K3 hK3=>?_;refine sf ha 2 [(5,.slice ao1 a0.length cap1),(6,.func (.func 87) #[] #[])] fun a ha=>?_;obtain ⟨t4,H4,H⟩:=bind_some H;refine cL ha (slices_IndexFunc_int_int_attr_wrong_1.walk w _ hM a0 ao1 cap1 f1 k _ H4) ?_;rintro _ w4 ⟨rfl,hc4,hMn⟩ a ha;have hM:=hM.chg hc4;have hC:=hC.t0 hc4;refine sf ha 2 [(4,.bool (decide (t4 ≥ (0:Int))))] fun a ha=>?_;refine hK3 _ _ ?_;refine wrt ?_;obtain rfl:=oj H;refine rt1 ha rfl rfl ?_;exact ⟨rfl,hC,hM⟩
def attr_wrong.f (k:Nat) (a0:S_api_Segment):Option (Bool):=((if (decide ((a0.AS.length:Int) < (1:Int)))=true then some (true:Bool) else (if (decide ((a0.AS.length:Int) > (255:Int)))=true then some (true:Bool) else (slices_ContainsFunc_int_int_attr_wrong_1.f k a0.AS).bind fun t12=>some (t12:Bool)))).bind fun s9=>some ((s9:Bool))
set_option maxRecDepth 100000 in
theorem attr_wrong.walk (w:World) (M:List Nat) (hM:MS M w) (a0:S_api_Segment) (ao1:Option Addr) (cap1:Nat) (f1:RSl (rInt .i64) 3 w M ao1 cap1 a0.AS) (k:Nat) (r:Bool) (H:attr_wrong.f k a0=some r) :
    To Tryz.prog 70 [.agg (cS_api_Segment a0 ao1 cap1).toArray] w fun v w'=>v=.bool r∧Chg [] w w'∧MS (M) w':=by
 unfold attr_wrong.f at H;refine ent Tryz.func70 rfl [(0,.agg (cS_api_Segment a0 ao1 cap1).toArray)] rfl (by rfl) fun a ha=>?_;have hC:Chg [] w w:=Chg.refl _ _;refine wsr fun K2 hK2=>?_;refine bx (cs:=(cS_api_Segment a0 ao1 cap1)) ha rfl rfl rfl rfl rfl fun a w3 g4 hN5 ha=>?_;have o1:=oN M w;have o2:=oR M w;have f1:=f1.chg hN5.chg o1 o2;have hM:=hM.chg hN5.chg;have hC:=hC.t0 hN5.chg;have hE6:Cs w3 g4 0 (cS_api_Segment a0 ao1 cap1):=Box.cells (New.box hN5);refine sf ha 1 [(1,pt g4 0)] fun a ha=>?_;refine hK2 _ _ ?_;refine wsr fun K8 hK8=>?_;obtain ⟨s9,H9,H⟩:=bind_some H;have J9:∀ (a:Act) (w9:World),Has a Tryz.f70.ntmps [(2,.bool s9)]→(Chg [] w w9)→(MS (M) w9)→K8 a w9:=by
  intro a w9 ha hC hM;refine hK8 _ _ ?_;refine wrt ?_;obtain rfl:=oj H;refine rt1 ha rfl rfl ?_;exact ⟨rfl,hC,hM⟩
 have H:=H9;refine sd ha 1 [] [(3,.pointer (some ⟨g4,0+1,none⟩))] fun a ha=>?_;refine ld ha rfl (by kernel_rfl) rfl rfl rfl (hE6 1 (.slice ao1 a0.AS.length cap1) (by kernel_rfl)) fun a ha=>?_;refine sd ha 3 [3] [(7,.bool (decide ((a0.AS.length:Int) < (1:Int))))] fun a ha=>?_;rcases Bool.eq_false_or_eq_true (decide ((a0.AS.length:Int) < (1:Int))) with hb10 | hb10
 ·have ha:=ha.lit hb10;have H:=ite_t hb10 H;refine sgf ha 11 [1,1,1,1,3,0,1,1,1,3,0] [(2,.bool true)] fun a ha=>?_;obtain rfl:=oj H;exact J9 _ _ (ha.sel (by kernel_rfl)) hC hM
 ·have ha:=ha.lit hb10;have H:=ite_f hb10 H;refine sgd ha 1 [2] [] [(7,.bool false),(8,.pointer (some ⟨g4,0+1,none⟩))] fun a ha=>?_;refine ld ha rfl (by kernel_rfl) rfl rfl rfl (hE6 1 (.slice ao1 a0.AS.length cap1) (by kernel_rfl)) fun a ha=>?_;refine sgd ha 4 [2,2,4,0] [7,8] [(13,.bool (decide ((a0.AS.length:Int) > (255:Int))))] fun a ha=>?_;rcases Bool.eq_false_or_eq_true (decide ((a0.AS.length:Int) > (255:Int))) with hb11 | hb11
  ·have ha:=ha.lit hb11;have H:=ite_t hb11 H;refine sgf ha 5 [1,1,1,3,0] [(2,.bool true)] fun a ha=>?_;obtain rfl:=oj H;exact J9 _ _ (ha.sel (by kernel_rfl)) hC hM
  ·have ha:=ha.lit hb11;have H:=ite_f hb11 H;refine sgf ha 1 [2] [(13,.bool false),(14,.pointer (some ⟨g4,0+1,none⟩))] fun a ha=>?_;refine ld ha rfl (by kernel_rfl) rfl rfl rfl (hE6 1 (.slice ao1 a0.AS.length cap1) (by kernel_rfl)) fun a ha=>?_;obtain ⟨t12,H12,H⟩:=bind_some H;refine cL ha (slices_ContainsFunc_int_int_attr_wrong_1.walk w3 _ hM a0.AS ao1 cap1 f1 k _ H12) ?_;rintro _ w12 ⟨rfl,hc12,hMn⟩ a ha;have hM:=hM.chg hc12;have hC:=hC.t0 hc12;refine sgf ha 2 [4,0] [(2,.bool t12)] fun a ha=>?_;obtain rfl:=oj H;exact J9 _ _ (ha.sel (by kernel_rfl)) hC hM
def api_Segment_85_attr_wrong.l0 (k:Nat) (a0:List S_api_Segment):Nat→Int→Option ((Int) ⊕ (Unit))
  | 0,_=>none
  | kk+1,x6=>(if (decide (x6 < (a0.length:Int)))=true then (if 0≤x6∧x6 < (a0.length:Int) then (attr_wrong.f k (rd a0 x6)).bind fun t22=>(if t22=true then some (.inl ((x6:Int))) else api_Segment_85_attr_wrong.l0 k a0 kk (IntKind.i64.wrap (x6+(1:Int)))) else none) else some (.inr (():Unit)))
def api_Segment_85_attr_wrong.f (k:Nat) (a0:List S_api_Segment):Option (Int):=(api_Segment_85_attr_wrong.l0 k a0 k (0:Int)).bind fun s5=>match s5 with | .inl r=>some r | .inr s5'=>some (((-1:Int):Int))
set_option maxRecDepth 100000 in
theorem api_Segment_85_attr_wrong.walk (w:World) (M:List Nat) (hM:MS M w) (a0:List S_api_Segment) (ao1:Option Addr) (cap1:Nat) (f1:RSl rS_api_Segment 49 w M ao1 cap1 a0) (k:Nat) (r:Int) (H:api_Segment_85_attr_wrong.f k a0=some r) :
    To Tryz.prog 85 [.slice ao1 a0.length cap1,.func (.func 70) #[] #[]] w fun v w'=>v=.int .i64 r∧Chg [] w w'∧MS (M) w':=by
 unfold api_Segment_85_attr_wrong.f at H;refine ent Tryz.func85 rfl [(0,.slice ao1 a0.length cap1),(1,.func (.func 70) #[] #[])] rfl (by rfl) fun a ha=>?_;have hC:Chg [] w w:=Chg.refl _ _;refine sqd ha 1 [] [] fun a ha=>?_;refine wp_seq_k fun K3 hK3=>?_;refine sqd ha 3 [] [(7,.int .i64 (a0.length:Int)),(8,.int .i64 0)] fun a ha=>?_;refine wp_block ?_;obtain ⟨s5,H5,H⟩:=bind_some H;have J5:∀ s5' (a:Act) (wx5:World),s5=.inr s5'→Has a Tryz.f85.ntmps []→(Chg [] w wx5)→(MS (M) wx5)→K3 a wx5:=by
  intro s5' a wx5 hs ha hC hM;subst hs;refine hK3 _ _ ?_;refine sq ha 1 [(4,.int .i64 (-1))] fun a ha=>?_;refine wrt ?_;obtain rfl:=oj H;refine rt1 ha rfl rfl ?_;exact ⟨rfl,hC,hM⟩
 have Hc5:=H;have H:=H5;refine wp_loop_ghost (fun kk a w5=>∃ (x6:Int),api_Segment_85_attr_wrong.l0 k a0 kk x6=some s5∧Has a Tryz.f85.ntmps [(0,.slice ao1 a0.length cap1),(1,.func (.func 70) #[] #[]),(7,.int .i64 (a0.length:Int)),(8,.int .i64 x6)]∧(RSl rS_api_Segment 49 w5 (M) ao1 cap1 a0)∧(Chg [] w w5)∧(MS (M) w5)) k ?_ ?_
 ·skip;exact ⟨(0:Int),H,(ha.sel (by kernel_rfl)),f1,hC,hM⟩
 ·rintro kk a w5 ⟨x6,H,ha,f1,hC,hM⟩;obtain _ | kk:=kk
  ·exact nomatch (show none=some _ from H)
  rw [api_Segment_85_attr_wrong.l0] at H;refine sqd ha 1 [] [(9,.bool (decide (x6 < (a0.length:Int))))] fun a ha=>?_;refine wp_seq_k fun K9 hK9=>?_;refine cnH H ha (fun hc10 H=>?_) (fun hc10 H=>?_)
  ·refine wp_skip ?_;refine hK9 _ _ ?_;refine wp_seq_k fun K11 hK11=>?_;refine wp_block ?_;refine sqd ha 2 [9] [(5,.int .i64 x6)] fun a ha=>?_;refine wsr fun K13 hK13=>?_;refine sd ha 3 [] [(11,.func (.func 70) #[] #[]),(12,.slice ao1 a0.length cap1),(13,.int .i64 x6)] fun a ha=>?_;obtain ⟨⟨hx14,hx14'⟩,H⟩:=ite_some H;refine ix (r:=rS_api_Segment) ha (by kernel_rfl) (by kernel_rfl) rfl rfl rfl rfl rfl f1 hx14 hx14' fun a ge15 oe16 cs17 hn20 hR18 hE19 ha=>?_;rw [rd_get] at hR18;obtain ⟨ao21,cap21,rfl,f21⟩:=rS_api_Segment.open hR18;refine ldE hE19 ha fun a ha=>?_;obtain ⟨t22,H22,H⟩:=bind_some H;refine clv ha (by rfl) (by rfl) (by kernel_rfl) (by rfl) (by rfl) (by rfl) (attr_wrong.walk w5 _ hM (rd a0 x6) ao21 cap21 f21 k _ H22) ?_;rintro _ w22 ⟨rfl,hc22,hMn⟩ a ha;have o1:=oN M w5;have o2:=oR M w5;have f1:=f1.chg hc22 o1 o2;have hM:=hM.chg hc22;have hC:=hC.t0 hc22;refine hK13 _ _ ?_;refine cnH H ha (fun hc23 H=>?_) (fun hc23 H=>?_)
   ·refine sq ha 2 [(4,.int .i64 x6)] fun a ha=>?_;refine wrt ?_;obtain rfl:=oj H;have H:=(show some _=some _ from Hc5)
    obtain rfl:=oj H;refine rt1 ha rfl rfl ?_;exact ⟨rfl,hC,hM⟩
   ·refine wp_skip ?_;refine hK11 _ _ ?_;refine wp_region_lit ?_;refine sd ha 2 [5,11,12,13] [(8,.int .i64 (IntKind.i64.wrap (x6+(1:Int))))] fun a ha=>?_;exact ⟨kk,Nat.lt_succ_self _,⟨IntKind.i64.wrap (x6+(1:Int)),H,(ha.sel (by kernel_rfl)),f1,hC,hM⟩⟩
  ·refine wx ?_;obtain rfl:=oj H;exact J5 _ _ _ rfl (ha.sel (by kernel_rfl)) hC hM
def api_Segment_69_attr_wrong.f (k:Nat) (a0:List S_api_Segment):Option (Bool):=(api_Segment_85_attr_wrong.f k a0).bind fun t4=>some ((decide (t4 ≥ (0:Int)):Bool))
set_option maxRecDepth 100000 in
theorem api_Segment_69_attr_wrong.walk (w:World) (M:List Nat) (hM:MS M w) (a0:List S_api_Segment) (ao1:Option Addr) (cap1:Nat) (f1:RSl rS_api_Segment 49 w M ao1 cap1 a0) (k:Nat) (r:Bool) (H:api_Segment_69_attr_wrong.f k a0=some r) :
    To Tryz.prog 69 [.slice ao1 a0.length cap1,.func (.func 70) #[] #[]] w fun v w'=>v=.bool r∧Chg [] w w'∧MS (M) w':=by
 unfold api_Segment_69_attr_wrong.f at H;refine ent Tryz.func69 rfl [(0,.slice ao1 a0.length cap1),(1,.func (.func 70) #[] #[])] rfl (by rfl) fun a ha=>?_;have hC:Chg [] w w:=Chg.refl _ _;refine sqd ha 1 [] [] fun a ha=>?_;refine wsr fun K3 hK3=>?_;refine sf ha 2 [(5,.slice ao1 a0.length cap1),(6,.func (.func 70) #[] #[])] fun a ha=>?_;obtain ⟨t4,H4,H⟩:=bind_some H;refine cL ha (api_Segment_85_attr_wrong.walk w _ hM a0 ao1 cap1 f1 k _ H4) ?_;rintro _ w4 ⟨rfl,hc4,hMn⟩ a ha;have hM:=hM.chg hc4;have hC:=hC.t0 hc4;refine sf ha 2 [(4,.bool (decide (t4 ≥ (0:Int))))] fun a ha=>?_;refine hK3 _ _ ?_;refine wrt ?_;obtain rfl:=oj H;refine rt1 ha rfl rfl ?_;exact ⟨rfl,hC,hM⟩
def attr_rightPath.f (k:Nat) (a0:List S_api_Segment):Option (Bool):=((if (decide ((a0.length:Int)≤(16:Int)))=true then (api_Segment_69_attr_wrong.f k a0).bind fun t6=>some (!t6:Bool) else some (false:Bool))).bind fun s4=>some ((s4:Bool))
set_option maxRecDepth 100000 in
theorem attr_rightPath.walk (w:World) (M:List Nat) (hM:MS M w) (a0:List S_api_Segment) (ao1:Option Addr) (cap1:Nat) (f1:RSl rS_api_Segment 49 w M ao1 cap1 a0) (k:Nat) (r:Bool) (H:attr_rightPath.f k a0=some r) :
    To Tryz.prog 37 [.slice ao1 a0.length cap1] w fun v w'=>v=.bool r∧Chg [] w w'∧MS (M) w':=by
 unfold attr_rightPath.f at H;refine ent Tryz.func37 rfl [(0,.slice ao1 a0.length cap1)] rfl (by rfl) fun a ha=>?_;have hC:Chg [] w w:=Chg.refl _ _;refine sqd ha 1 [] [] fun a ha=>?_;refine wsr fun K3 hK3=>?_;obtain ⟨s4,H4,H⟩:=bind_some H;have J4:∀ (a:Act) (w4:World),Has a Tryz.f37.ntmps [(2,.bool s4)]→(Chg [] w w4)→(MS (M) w4)→K3 a w4:=by
  intro a w4 ha hC hM;refine hK3 _ _ ?_;refine wrt ?_;obtain rfl:=oj H;refine rt1 ha rfl rfl ?_;exact ⟨rfl,hC,hM⟩
 have H:=H4;refine sd ha 4 [] [(6,.bool (decide ((a0.length:Int)≤(16:Int))))] fun a ha=>?_;rcases Bool.eq_false_or_eq_true (decide ((a0.length:Int)≤(16:Int))) with hb5 | hb5
 ·have ha:=ha.lit hb5;have H:=ite_t hb5 H;refine sgf ha 1 [2] [(6,.bool true),(7,.slice ao1 a0.length cap1)] fun a ha=>?_;obtain ⟨t6,H6,H⟩:=bind_some H;refine cL ha (api_Segment_69_attr_wrong.walk w _ hM a0 ao1 cap1 f1 k _ H6) ?_;rintro _ w6 ⟨rfl,hc6,hMn⟩ a ha;have hM:=hM.chg hc6;have hC:=hC.t0 hc6;refine sgf ha 3 [2,3,0] [(2,.bool (!t6))] fun a ha=>?_;obtain rfl:=oj H;exact J4 _ _ (ha.sel (by kernel_rfl)) hC hM
 ·have ha:=ha.lit hb5;have H:=ite_f hb5 H;refine sgf ha 5 [1,1,1,4,0] [(2,.bool false)] fun a ha=>?_;obtain rfl:=oj H;exact J4 _ _ (ha.sel (by kernel_rfl)) hC hM
def attr_Right.f (k:Nat) (a0:S_api_Attrs):Option (Bool):=((if (decide (a0.Origin < (0:Int)))=true then some (decide (a0.Origin < (0:Int)):Bool) else (if (decide (a0.Origin > (2:Int)))=true then some (decide (a0.Origin > (2:Int)):Bool) else (if (decide (a0.Med < (-1:Int)))=true then some (decide (a0.Med < (-1:Int)):Bool) else (if (decide (a0.Med > (4294967295:Int)))=true then some (decide (a0.Med > (4294967295:Int)):Bool) else (if (decide (a0.Pref < (-1:Int)))=true then some (decide (a0.Pref < (-1:Int)):Bool) else some (decide (a0.Pref > (4294967295:Int)):Bool))))))).bind fun s13=>(if s13=true then some ((false:Bool)) else ((if (!((a0.Originator.Size==(0:Int)) && ((eqA 16 a0.Originator.B (List.replicate 16 (0:Int))) && true)))=true then (attr_router.f k a0.Originator).bind fun t39=>some (!t39:Bool) else some (false:Bool))).bind fun s17=>(if s17=true then some ((false:Bool)) else ((if (decide ((a0.Clusters.length:Int) > (32:Int)))=true then some (decide ((a0.Clusters.length:Int) > (32:Int)):Bool) else (if (decide ((a0.Exts.length:Int) > (64:Int)))=true then some (decide ((a0.Exts.length:Int) > (64:Int)):Bool) else some (decide ((a0.Tunnels.length:Int) > (1:Int)):Bool)))).bind fun s21=>(if s21=true then some ((false:Bool)) else (api_Addr_attr_Right_1.f k a0.Clusters).bind fun t25=>(if t25=true then some ((false:Bool)) else (api_Tunnel_attr_Right_2.f k a0.Tunnels).bind fun t29=>(if t29=true then some ((false:Bool)) else (attr_rightPath.f k a0.Path).bind fun t33=>some ((t33:Bool)))))))
set_option maxRecDepth 100000 in
theorem attr_Right.walk (w:World) (M:List Nat) (hM:MS M w) (a0:S_api_Attrs) (ao1:Option Addr) (cap1:Nat) (f1:RSl rS_api_Segment 49 w M ao1 cap1 a0.Path) (ao2:Option Addr) (cap2:Nat) (f2:RSl rS_api_Addr 25 w M ao2 cap2 a0.Clusters) (ao3:Option Addr) (cap3:Nat) (f3:RSl (rArr .u8 8) 75 w M ao3 cap3 a0.Exts) (ao4:Option Addr) (cap4:Nat) (f4:RSl rS_api_Tunnel 51 w M ao4 cap4 a0.Tunnels) (k:Nat) (r:Bool) (H:attr_Right.f k a0=some r) :
    To Tryz.prog 10 [.agg (cS_api_Attrs a0 ao1 cap1 ao2 cap2 ao3 cap3 ao4 cap4).toArray] w fun v w'=>v=.bool r∧Chg [] w w'∧MS (M) w':=by
 unfold attr_Right.f at H;refine ent Tryz.func10 rfl [(0,.agg (cS_api_Attrs a0 ao1 cap1 ao2 cap2 ao3 cap3 ao4 cap4).toArray)] rfl (by rfl) fun a ha=>?_;have hC:Chg [] w w:=Chg.refl _ _;refine wsr fun K5 hK5=>?_;refine bx (cs:=(cS_api_Attrs a0 ao1 cap1 ao2 cap2 ao3 cap3 ao4 cap4)) ha rfl rfl rfl rfl rfl fun a w6 g7 hN8 ha=>?_;have hn10:=hN8.notin hM;have o1:=oN M w;have o2:=oR M w;have f1:=f1.chg hN8.chg o1 o2;have f2:=f2.chg hN8.chg o1 o2;have f3:=f3.chg hN8.chg o1 o2;have f4:=f4.chg hN8.chg o1 o2;have hM:=hM.chg hN8.chg;have hC:=hC.t0 hN8.chg;have hE9:Cs w6 g7 0 (cS_api_Attrs a0 ao1 cap1 ao2 cap2 ao3 cap3 ao4 cap4):=Box.cells (New.box hN8);refine sf ha 1 [(1,pt g7 0)] fun a ha=>?_;refine hK5 _ _ ?_;refine wp_seq_k fun K11 hK11=>?_;refine wp_block ?_;refine wp_seq_k fun K12 hK12=>?_;obtain ⟨s13,H13,H⟩:=bind_some H;have J13:∀ (a:Act) (w13:World),Has a Tryz.f10.ntmps [(1,pt g7 0),(3,.bool s13)]→(RSl rS_api_Segment 49 w13 (M) ao1 cap1 a0.Path)→(RSl rS_api_Addr 25 w13 (M) ao2 cap2 a0.Clusters)→(RSl (rArr .u8 8) 75 w13 (M) ao3 cap3 a0.Exts)→(RSl rS_api_Tunnel 51 w13 (M) ao4 cap4 a0.Tunnels)→(Cs w13 g7 0 (cS_api_Attrs a0 ao1 cap1 ao2 cap2 ao3 cap3 ao4 cap4))→(g7∉(M))→(Chg [] w w13)→(MS (M) w13)→K12 a w13:=by
  intro a w13 ha f1 f2 f3 f4 hE9 hn10 hC hM;refine hK12 _ _ ?_;refine cnH H ha (fun hc14 H=>?_) (fun hc14 H=>?_)
  ·refine sq ha 1 [(2,.bool false)] fun a ha=>?_;refine wrt ?_;obtain rfl:=oj H;refine rt1 ha rfl rfl ?_;exact ⟨rfl,hC,hM⟩
  ·refine wsr fun K16 hK16=>?_;obtain ⟨s17,H17,H⟩:=bind_some H;have J17:∀ (a:Act) (w17:World),Has a Tryz.f10.ntmps [(1,pt g7 0),(22,.bool s17)]→(RSl rS_api_Segment 49 w17 (M) ao1 cap1 a0.Path)→(RSl rS_api_Addr 25 w17 (M) ao2 cap2 a0.Clusters)→(RSl (rArr .u8 8) 75 w17 (M) ao3 cap3 a0.Exts)→(RSl rS_api_Tunnel 51 w17 (M) ao4 cap4 a0.Tunnels)→(Cs w17 g7 0 (cS_api_Attrs a0 ao1 cap1 ao2 cap2 ao3 cap3 ao4 cap4))→(g7∉(M))→(Chg [] w w17)→(MS (M) w17)→K16 a w17:=by
    intro a w17 ha f1 f2 f3 f4 hE9 hn10 hC hM;refine hK16 _ _ ?_;refine cnH H ha (fun hc18 H=>?_) (fun hc18 H=>?_)
    ·refine sq ha 1 [(2,.bool false)] fun a ha=>?_;refine wrt ?_;obtain rfl:=oj H;refine rt1 ha rfl rfl ?_;exact ⟨rfl,hC,hM⟩
    ·refine wp_seq_k fun K20 hK20=>?_;obtain ⟨s21,H21,H⟩:=bind_some H;have J21:∀ (a:Act) (w21:World),Has a Tryz.f10.ntmps [(1,pt g7 0),(33,.bool s21)]→(RSl rS_api_Segment 49 w21 (M) ao1 cap1 a0.Path)→(RSl rS_api_Addr 25 w21 (M) ao2 cap2 a0.Clusters)→(RSl (rArr .u8 8) 75 w21 (M) ao3 cap3 a0.Exts)→(RSl rS_api_Tunnel 51 w21 (M) ao4 cap4 a0.Tunnels)→(Cs w21 g7 0 (cS_api_Attrs a0 ao1 cap1 ao2 cap2 ao3 cap3 ao4 cap4))→(g7∉(M))→(Chg [] w w21)→(MS (M) w21)→K20 a w21:=by
      intro a w21 ha f1 f2 f3 f4 hE9 hn10 hC hM;refine hK20 _ _ ?_;refine cnH H ha (fun hc22 H=>?_) (fun hc22 H=>?_)
      ·refine sq ha 1 [(2,.bool false)] fun a ha=>?_;refine wrt ?_;obtain rfl:=oj H;refine rt1 ha rfl rfl ?_;exact ⟨rfl,hC,hM⟩
      ·refine wsr fun K24 hK24=>?_;refine sd ha 1 [33] [(47,.pointer (some ⟨g7,0+21,none⟩))] fun a ha=>?_;refine ld ha rfl (by kernel_rfl) rfl rfl rfl (hE9 21 (.slice ao2 a0.Clusters.length cap2) (by kernel_rfl)) fun a ha=>?_;obtain ⟨t25,H25,H⟩:=bind_some H;refine cL ha (api_Addr_attr_Right_1.walk w21 _ hM a0.Clusters ao2 cap2 f2 k _ H25) ?_;rintro _ w25 ⟨rfl,hc25,hMn⟩ a ha;have o1:=oN M w21;have o2:=oR M w21;have f1:=f1.chg hc25 o1 o2;have f4:=f4.chg hc25 o1 o2;have q_hn10:=qn o2 hn10 (hE9 0 _ rfl);have hE9:=ck hc25 o1 hn10 hE9;have hn10:=q_hn10;have hM:=hM.chg hc25;have hC:=hC.t0 hc25;refine sd ha 1 [47] [(46,.bool t25)] fun a ha=>?_;refine hK24 _ _ ?_;refine cnH H ha (fun hc26 H=>?_) (fun hc26 H=>?_)
       ·refine sq ha 1 [(2,.bool false)] fun a ha=>?_;refine wrt ?_;obtain rfl:=oj H;refine rt1 ha rfl rfl ?_;exact ⟨rfl,hC,hM⟩
       ·refine wsr fun K28 hK28=>?_;refine sd ha 1 [46] [(51,.pointer (some ⟨g7,0+23,none⟩))] fun a ha=>?_;refine ld ha rfl (by kernel_rfl) rfl rfl rfl (hE9 23 (.slice ao4 a0.Tunnels.length cap4) (by kernel_rfl)) fun a ha=>?_;obtain ⟨t29,H29,H⟩:=bind_some H;refine cL ha (api_Tunnel_attr_Right_2.walk w25 _ hM a0.Tunnels ao4 cap4 f4 k _ H29) ?_;rintro _ w29 ⟨rfl,hc29,hMn⟩ a ha;have o1:=oN M w25;have o2:=oR M w25;have f1:=f1.chg hc29 o1 o2;have hE9:=ck hc29 o1 hn10 hE9;have hM:=hM.chg hc29;have hC:=hC.t0 hc29;refine sd ha 1 [51] [(50,.bool t29)] fun a ha=>?_;refine hK28 _ _ ?_;refine cnH H ha (fun hc30 H=>?_) (fun hc30 H=>?_)
        ·refine sq ha 1 [(2,.bool false)] fun a ha=>?_;refine wrt ?_;obtain rfl:=oj H;refine rt1 ha rfl rfl ?_;exact ⟨rfl,hC,hM⟩
        ·refine wp_skip ?_;refine hK11 _ _ ?_;refine wsr fun K32 hK32=>?_;refine sf ha 1 [(54,.pointer (some ⟨g7,0+1,none⟩))] fun a ha=>?_;refine ld ha rfl (by kernel_rfl) rfl rfl rfl (hE9 1 (.slice ao1 a0.Path.length cap1) (by kernel_rfl)) fun a ha=>?_;obtain ⟨t33,H33,H⟩:=bind_some H;refine cL ha (attr_rightPath.walk w29 _ hM a0.Path ao1 cap1 f1 k _ H33) ?_;rintro _ w33 ⟨rfl,hc33,hMn⟩ a ha;have hM:=hM.chg hc33;have hC:=hC.t0 hc33;refine sf ha 1 [(2,.bool t33)] fun a ha=>?_;refine hK32 _ _ ?_;refine wrt ?_;obtain rfl:=oj H;refine rt1 ha rfl rfl ?_;exact ⟨rfl,hC,hM⟩
     have H:=H21;refine wsr fun K34 hK34=>?_;refine sd ha 1 [22] [(34,.pointer (some ⟨g7,0+21,none⟩))] fun a ha=>?_;refine ld ha rfl (by kernel_rfl) rfl rfl rfl (hE9 21 (.slice ao2 a0.Clusters.length cap2) (by kernel_rfl)) fun a ha=>?_;refine sd ha 3 [34] [(33,.bool (decide ((a0.Clusters.length:Int) > (32:Int))))] fun a ha=>?_;refine hK34 _ _ ?_;refine cnH H ha (fun hc35 H=>?_) (fun hc35 H=>?_)
     ·refine wp_skip ?_;obtain rfl:=oj H;exact J21 _ _ (ha.sel (by kernel_rfl)) f1 f2 f3 f4 hE9 hn10 hC hM
     ·refine wsr fun K36 hK36=>?_;refine sd ha 1 [33] [(38,.pointer (some ⟨g7,0+22,none⟩))] fun a ha=>?_;refine ld ha rfl (by kernel_rfl) rfl rfl rfl (hE9 22 (.slice ao3 a0.Exts.length cap3) (by kernel_rfl)) fun a ha=>?_;refine sd ha 3 [38] [(33,.bool (decide ((a0.Exts.length:Int) > (64:Int))))] fun a ha=>?_;refine hK36 _ _ ?_;refine cnH H ha (fun hc37 H=>?_) (fun hc37 H=>?_)
      ·refine wp_skip ?_;obtain rfl:=oj H;exact J21 _ _ (ha.sel (by kernel_rfl)) f1 f2 f3 f4 hE9 hn10 hC hM
      ·refine wp_region_lit ?_;refine sd ha 1 [33] [(42,.pointer (some ⟨g7,0+23,none⟩))] fun a ha=>?_;refine ld ha rfl (by kernel_rfl) rfl rfl rfl (hE9 23 (.slice ao4 a0.Tunnels.length cap4) (by kernel_rfl)) fun a ha=>?_;refine sd ha 3 [42] [(33,.bool (decide ((a0.Tunnels.length:Int) > (1:Int))))] fun a ha=>?_;obtain rfl:=oj H;exact J21 _ _ (ha.sel (by kernel_rfl)) f1 f2 f3 f4 hE9 hn10 hC hM
   have H:=H17;refine sd ha 1 [3] [(23,.pointer (some ⟨g7,0+4,none⟩))] fun a ha=>?_;refine ldA (cs:=(cS_api_Addr a0.Originator)) ha rfl (by kernel_rfl) rfl rfl rfl (cells_sub hE9 (all:=(cS_api_Attrs a0 ao1 cap1 ao2 cap2 ao3 cap3 ao4 cap4)) [.int .i64 a0.Origin,.slice ao1 a0.Path.length cap1,.int .i64 a0.Med,.int .i64 a0.Pref] [.slice ao2 a0.Clusters.length cap2,.slice ao3 a0.Exts.length cap3,.slice ao4 a0.Tunnels.length cap4] (by kernel_rfl)) fun a ha=>?_;refine oP (.agg (cS_api_Addr (⟨(0:Int),(List.replicate 16 (0:Int))⟩:S_api_Addr)).toArray) ha fun a ha=>?_;refine hop (v:=.bool (!((a0.Originator.Size==(0:Int)) && ((eqA 16 a0.Originator.B (List.replicate 16 (0:Int))) && true)))) (w':=w13) ha rfl rfl rfl (nes_run (r:=((a0.Originator.Size==(0:Int)) && ((eqA 16 a0.Originator.B (List.replicate 16 (0:Int))) && true))) (m:=9) ha rfl rfl (by kernel_rfl) rfl (by kernel_rfl) _) fun a ha=>?_;refine sd ha 1 [23] [(27,.bool (!((a0.Originator.Size==(0:Int)) && ((eqA 16 a0.Originator.B (List.replicate 16 (0:Int))) && true))))] fun a ha=>?_;rcases Bool.eq_false_or_eq_true (!((a0.Originator.Size==(0:Int)) && ((eqA 16 a0.Originator.B (List.replicate 16 (0:Int))) && true))) with hb38 | hb38
   ·have ha:=ha.lit hb38;have H:=ite_t hb38 H;refine sgd ha 1 [2] [] [(27,.bool true),(28,.pointer (some ⟨g7,0+4,none⟩))] fun a ha=>?_;refine ldA (cs:=(cS_api_Addr a0.Originator)) ha rfl (by kernel_rfl) rfl rfl rfl (cells_sub hE9 (all:=(cS_api_Attrs a0 ao1 cap1 ao2 cap2 ao3 cap3 ao4 cap4)) [.int .i64 a0.Origin,.slice ao1 a0.Path.length cap1,.int .i64 a0.Med,.int .i64 a0.Pref] [.slice ao2 a0.Clusters.length cap2,.slice ao3 a0.Exts.length cap3,.slice ao4 a0.Tunnels.length cap4] (by kernel_rfl)) fun a ha=>?_;obtain ⟨t39,H39,H⟩:=bind_some H;refine cL ha (attr_router.walk w13 _ hM a0.Originator k _ H39) ?_;rintro _ w39 ⟨rfl,hc39,hMn⟩ a ha;have o1:=oN M w13;have o2:=oR M w13;have f1:=f1.chg hc39 o1 o2;have f2:=f2.chg hc39 o1 o2;have f3:=f3.chg hc39 o1 o2;have f4:=f4.chg hc39 o1 o2;have q_hn10:=qn o2 hn10 (hE9 0 _ rfl);have hE9:=ck hc39 o1 hn10 hE9;have hn10:=q_hn10;have hM:=hM.chg hc39;have hC:=hC.t0 hc39;refine sgd ha 3 [2,3,0] [27,28] [(22,.bool (!t39))] fun a ha=>?_;obtain rfl:=oj H;exact J17 _ _ (ha.sel (by kernel_rfl)) f1 f2 f3 f4 hE9 hn10 hC hM
   ·have ha:=ha.lit hb38;have H:=ite_f hb38 H;refine sgd ha 6 [1,1,1,1,4,0] [27] [(22,.bool false)] fun a ha=>?_;obtain rfl:=oj H;exact J17 _ _ (ha.sel (by kernel_rfl)) f1 f2 f3 f4 hE9 hn10 hC hM
 have H:=H13;refine wsr fun K40 hK40=>?_;refine sd ha 1 [] [(4,pt g7 0)] fun a ha=>?_;refine ld ha rfl (by kernel_rfl) rfl rfl rfl (hE9 0 (.int .i64 a0.Origin) (by kernel_rfl)) fun a ha=>?_;refine sd ha 2 [4] [(3,.bool (decide (a0.Origin < (0:Int))))] fun a ha=>?_;refine hK40 _ _ ?_;refine cnH H ha (fun hc41 H=>?_) (fun hc41 H=>?_)
 ·refine wp_skip ?_;obtain rfl:=oj H;exact J13 _ _ (ha.sel (by kernel_rfl)) f1 f2 f3 f4 hE9 hn10 hC hM
 ·refine wsr fun K42 hK42=>?_;refine sd ha 1 [3] [(7,pt g7 0)] fun a ha=>?_;refine ld ha rfl (by kernel_rfl) rfl rfl rfl (hE9 0 (.int .i64 a0.Origin) (by kernel_rfl)) fun a ha=>?_;refine sd ha 2 [7] [(3,.bool (decide (a0.Origin > (2:Int))))] fun a ha=>?_;refine hK42 _ _ ?_;refine cnH H ha (fun hc43 H=>?_) (fun hc43 H=>?_)
  ·refine wp_skip ?_;obtain rfl:=oj H;exact J13 _ _ (ha.sel (by kernel_rfl)) f1 f2 f3 f4 hE9 hn10 hC hM
  ·refine wsr fun K44 hK44=>?_;refine sd ha 1 [3] [(10,.pointer (some ⟨g7,0+2,none⟩))] fun a ha=>?_;refine ld ha rfl (by kernel_rfl) rfl rfl rfl (hE9 2 (.int .i64 a0.Med) (by kernel_rfl)) fun a ha=>?_;refine sd ha 2 [10] [(3,.bool (decide (a0.Med < (-1:Int))))] fun a ha=>?_;refine hK44 _ _ ?_;refine cnH H ha (fun hc45 H=>?_) (fun hc45 H=>?_)
   ·refine wp_skip ?_;obtain rfl:=oj H;exact J13 _ _ (ha.sel (by kernel_rfl)) f1 f2 f3 f4 hE9 hn10 hC hM
   ·refine wsr fun K46 hK46=>?_;refine sd ha 1 [3] [(13,.pointer (some ⟨g7,0+2,none⟩))] fun a ha=>?_;refine ld ha rfl (by kernel_rfl) rfl rfl rfl (hE9 2 (.int .i64 a0.Med) (by kernel_rfl)) fun a ha=>?_;refine sd ha 2 [13] [(3,.bool (decide (a0.Med > (4294967295:Int))))] fun a ha=>?_;refine hK46 _ _ ?_;refine cnH H ha (fun hc47 H=>?_) (fun hc47 H=>?_)
    ·refine wp_skip ?_;obtain rfl:=oj H;exact J13 _ _ (ha.sel (by kernel_rfl)) f1 f2 f3 f4 hE9 hn10 hC hM
    ·refine wsr fun K48 hK48=>?_;refine sd ha 1 [3] [(16,.pointer (some ⟨g7,0+3,none⟩))] fun a ha=>?_;refine ld ha rfl (by kernel_rfl) rfl rfl rfl (hE9 3 (.int .i64 a0.Pref) (by kernel_rfl)) fun a ha=>?_;refine sd ha 2 [16] [(3,.bool (decide (a0.Pref < (-1:Int))))] fun a ha=>?_;refine hK48 _ _ ?_;refine cnH H ha (fun hc49 H=>?_) (fun hc49 H=>?_)
     ·refine wp_skip ?_;obtain rfl:=oj H;exact J13 _ _ (ha.sel (by kernel_rfl)) f1 f2 f3 f4 hE9 hn10 hC hM
     ·refine wp_region_lit ?_;refine sd ha 1 [3] [(19,.pointer (some ⟨g7,0+3,none⟩))] fun a ha=>?_;refine ld ha rfl (by kernel_rfl) rfl rfl rfl (hE9 3 (.int .i64 a0.Pref) (by kernel_rfl)) fun a ha=>?_;refine sd ha 2 [19] [(3,.bool (decide (a0.Pref > (4294967295:Int))))] fun a ha=>?_;obtain rfl:=oj H;exact J13 _ _ (ha.sel (by kernel_rfl)) f1 f2 f3 f4 hE9 hn10 hC hM
def cursor_Put.l0 (a1:Int):Nat→(List Int)→Int→Option (List Int)
  | 0,_,_=>none
  | kk+1,x20,x21=>(if (decide (x21 ≥ (0:Int)))=true then (if 0≤x21 then (if (x20.length+([IntKind.u8.wrap (Int.fdiv a1 (2^(min (Int.toNat x21) IntKind.i64.bits)))]:List Int).length)*1≤140737488355328 then cursor_Put.l0 a1 kk (x20++([IntKind.u8.wrap (Int.fdiv a1 (2^(min (Int.toNat x21) IntKind.i64.bits)))]:List Int)) (IntKind.i64.wrap (x21 - (8:Int))) else none) else none) else some (x20:List Int))
def cursor_Put.f (k:Nat) (a0:List Int) (a1:Int) (a2:Int):Option (List Int×Int):=(if (if (decide (a2 < (1:Int)))=true then true else (decide (a2 > (4:Int))))=true then some ((([]:List Int):List Int),((1:Int):Int)) else ((if (decide (a1 < (0:Int)))=true then some (true:Bool) else (if 0≤(IntKind.i64.wrap ((8:Int)*a2)) then some ((Int.fdiv a1 (2^(min (Int.toNat (IntKind.i64.wrap ((8:Int)*a2))) IntKind.i64.bits))) != (0:Int):Bool) else none))).bind fun s9=>(if s9=true then some ((([]:List Int):List Int),((5:Int):Int)) else (bytes_Clone.f a0).bind fun t14=>(cursor_Put.l0 a1 k t14 (IntKind.i64.wrap ((8:Int)*(IntKind.i64.wrap (a2 - (1:Int)))))).bind fun s18=>some ((s18:List Int),((0:Int):Int))))
set_option maxRecDepth 100000 in
theorem cursor_Put.walk (w:World) (M:List Nat) (hM:MS M w) (a0:List Int) (ao1:Option Addr) (cap1:Nat) (f1:RSl (rInt .u8) 5 w M ao1 cap1 a0) (a1:Int) (a2:Int) (k:Nat) (r:List Int×Int) (H:cursor_Put.f k a0 a1 a2=some r) :
    To Tryz.prog 60 [.slice ao1 a0.length cap1,.int .i64 a1,.int .i64 a2] w fun v w'=>∃ (ao39:Option Addr) (cap39:Nat),v=.tuple #[.slice ao39 r.1.length cap39,.int .i64 r.2]∧(Own (rInt .u8) 5 w' (blkL ao39++(M)) ao39 cap39 r.1)∧(∀ x∈blkL ao39,w.heap.size≤x)∧Chg [] w w'∧MS (blkL ao39++(M)) w':=by
 unfold cursor_Put.f at H;refine ent Tryz.func60 rfl [(0,.slice ao1 a0.length cap1),(1,.int .i64 a1),(2,.int .i64 a2)] rfl (by rfl) fun a ha=>?_;have hC:Chg [] w w:=Chg.refl _ _;refine sqd ha 2 [] [] fun a ha=>?_;refine wp_seq_k fun K3 hK3=>?_;refine wp_block ?_;refine sqd ha 7 [] [(10,.bool (if (decide (a2 < (1:Int)))=true then true else (decide (a2 > (4:Int)))))] fun a ha=>?_;refine cnH H ha (fun hc5 H=>?_) (fun hc5 H=>?_)
 ·refine sq ha 2 [(6,.slice none 0 0),(7,.int .i64 1)] fun a ha=>?_;refine wrt ?_;have e_z7:∀ x∈blkL none,w.heap.size≤x:=fun x hx=>Nat.le_trans hC.size ((fun _ h=>nomatch h) x hx);have hM:MS (blkL none++(M)) w:=(MS.app (fun _ h=>nomatch h) (hM.chg (Chg.refl [] _)))
  obtain rfl:=oj H;refine rt2 ha rfl rfl rfl ?_;exact ⟨none,0,rfl,Own.nil,e_z7,hC,hM⟩
 ·refine wsr fun K8 hK8=>?_;obtain ⟨s9,H9,H⟩:=bind_some H;have J9:∀ (a:Act) (w9:World),Has a Tryz.f60.ntmps [(0,.slice ao1 a0.length cap1),(1,.int .i64 a1),(2,.int .i64 a2),(17,.bool s9)]→(RSl (rInt .u8) 5 w9 (M) ao1 cap1 a0)→(Chg [] w w9)→(MS (M) w9)→K8 a w9:=by
   intro a w9 ha f1 hC hM;refine hK8 _ _ ?_;refine cnH H ha (fun hc10 H=>?_) (fun hc10 H=>?_)
   ·refine sq ha 2 [(6,.slice none 0 0),(7,.int .i64 5)] fun a ha=>?_;refine wrt ?_;have e_z12:∀ x∈blkL none,w.heap.size≤x:=fun x hx=>Nat.le_trans hC.size ((fun _ h=>nomatch h) x hx);have hM:MS (blkL none++(M)) w9:=(MS.app (fun _ h=>nomatch h) (hM.chg (Chg.refl [] _)))
    obtain rfl:=oj H;refine rt2 ha rfl rfl rfl ?_;exact ⟨none,0,rfl,Own.nil,e_z12,hC,hM⟩
   ·refine wp_skip ?_;refine hK3 _ _ ?_;refine wsr fun K13 hK13=>?_;refine sd ha 1 [0,17] [(27,.slice ao1 a0.length cap1)] fun a ha=>?_;obtain ⟨t14,H14,H⟩:=bind_some H;refine cL ha (bytes_Clone.walk w9 _ hM a0 ao1 cap1 f1 _ H14) ?_;rintro _ w14 ⟨ao15,cap15,rfl,f15,ne_i15,hc14,hMn⟩ a ha;have o1:=oN M w9;have o2:Ok (blkL ao15++(M)) (M) w9.heap.size:=(Ok.app (fun x h=>.inr (ne_i15 x h)) (Ok.refl _ _))
    have p_i15_M:=pn (B:=M) hM ne_i15 fun _ hy=>hy;have e_i15:=eN hC ne_i15;have hM:MS (blkL ao15++(M)) w14:=(MS.app (fun x h=>hMn x (ml h)) (hM.chg hc14))
    have hC:=hC.t0 hc14;refine sd ha 1 [27] [(8,.slice ao15 t14.length cap15)] fun a ha=>?_;refine hK13 _ _ ?_;refine wp_seq_k fun K16 hK16=>?_;refine sqd ha 4 [2] [(9,.int .i64 (IntKind.i64.wrap ((8:Int)*(IntKind.i64.wrap (a2 - (1:Int))))))] fun a ha=>?_;refine wp_block ?_;obtain ⟨s18,H18,H⟩:=bind_some H;have J18:∀ (a:Act) (wx18:World) (ao22:Option Addr) (cap22:Nat),Has a Tryz.f60.ntmps [(8,.slice ao22 s18.length cap22)]→(Own (rInt .u8) 5 wx18 (blkL ao22++(M)) ao22 cap22 s18)→(∀ x∈blkL ao22,w.heap.size≤x)→(∀ x∈blkL ao22,x∉M)→(Chg [] w wx18)→(MS (blkL ao22++(M)) wx18)→K16 a wx18:=by
     intro a wx18 ao22 cap22 ha f22 e_i22 p_i22_M hC hM;refine hK16 _ _ ?_;refine sq ha 3 [(6,.slice ao22 s18.length cap22),(7,.int .i64 0)] fun a ha=>?_;refine wrt ?_;obtain rfl:=oj H;refine rt2 ha rfl rfl rfl ?_;exact ⟨ao22,cap22,rfl,f22,e_i22,hC,hM⟩
    have Hc18:=H;have H:=H18;refine wp_loop_ghost (fun kk a w18=>∃ (x20:List Int) (x21:Int) (ao19:Option Addr) (cap19:Nat),cursor_Put.l0 a1 kk x20 x21=some s18∧Has a Tryz.f60.ntmps [(1,.int .i64 a1),(8,.slice ao19 x20.length cap19),(9,.int .i64 x21)]∧(Own (rInt .u8) 5 w18 (blkL ao19++(M)) ao19 cap19 x20)∧(∀ x∈blkL ao19,w.heap.size≤x)∧(∀ x∈blkL ao19,x∉M)∧(Chg [] w w18)∧(MS (blkL ao19++(M)) w18)) k ?_ ?_
    ·skip;exact ⟨t14,IntKind.i64.wrap ((8:Int)*(IntKind.i64.wrap (a2 - (1:Int)))),ao15,cap15,H,(ha.sel (by kernel_rfl)),f15,e_i15,p_i15_M,hC,hM⟩
    ·rintro kk a w18 ⟨x20,x21,ao19,cap19,H,ha,f19,e_i19,p_i19_M,hC,hM⟩;obtain _ | kk:=kk
     ·exact nomatch (show none=some _ from H)
     rw [cursor_Put.l0] at H;refine wp_seq_k fun K24 hK24=>?_;refine sqd ha 2 [] [(33,.bool (decide (x21 ≥ (0:Int))))] fun a ha=>?_;refine cnH H ha (fun hc26 H=>?_) (fun hc26 H=>?_)
     ·refine wp_skip ?_;refine hK24 _ _ ?_;refine wp_seq_k fun K27 hK27=>?_;refine wp_block ?_;refine wp_region_lit ?_;refine sd ha 3 [8,33] [(36,.slice ao19 x20.length cap19),(37,.int .i64 a1),(38,.int .i64 x21)] fun a ha=>?_;obtain ⟨hx28,H⟩:=ite_some H;refine hop (v:=.int .i64 (Int.fdiv a1 (2^(min (Int.toNat x21) IntKind.i64.bits)))) (w':=w18) ha rfl rfl rfl (shr_run ha (by rfl) (by rfl) hx28 _) fun a ha=>?_;refine sd ha 1 [37,38] [(40,.int .u8 (IntKind.u8.wrap (Int.fdiv a1 (2^(min (Int.toNat x21) IntKind.i64.bits)))))] fun a ha=>?_;refine bsl (vals:=([.int .u8 (IntKind.u8.wrap (Int.fdiv a1 (2^(min (Int.toNat x21) IntKind.i64.bits))))]:List Value)) (T:=5) ha rfl (([.int .u8 (IntKind.u8.wrap (Int.fdiv a1 (2^(min (Int.toNat x21) IntKind.i64.bits))))]:List Value)++([]:List Value)) (fun w=>by kernel_rfl) rfl rfl rfl fun a w29 g30 hN31 ha=>?_;have o1:=oN (blkL ao19++(M)) w18;have o2:=oA hN31 (blkL ao19++(M));have f19:=f19.chg hN31.chg o1 o2 (fun _ _ h=>nomatch h) (fun _ h=>mr (ml h));have hM:=MS.app hN31.ms (hM.chg hN31.chg);have hC:=hC.t0 hN31.chg;have f33:Own (rInt .u8) 5 w29 ([g30]++(blkL ao19++(M))) (some ⟨g30,0,none⟩) 1 ([IntKind.u8.wrap (Int.fdiv a1 (2^(min (Int.toNat x21) IntKind.i64.bits)))]:List Int):=hN31.own ⟨([.int .u8 (IntKind.u8.wrap (Int.fdiv a1 (2^(min (Int.toNat x21) IntKind.i64.bits))))]:List Value),_,rfl,rfl,rfl⟩ (Nat.le_of_ble_eq_true rfl);obtain ⟨hx34,H⟩:=ite_some H;refine app (r:=(rInt .u8)) (xs:=x20) (ys:=([IntKind.u8.wrap (Int.fdiv a1 (2^(min (Int.toNat x21) IntKind.i64.bits)))]:List Int)) ha (ElemT.mk' (bytes:=1) (by kernel_rfl)) rfl rfl rfl rfl rfl f19 f33.src hx34 (by decide) fun a w35 ao36 cap36 hO36 hc36 hk36 hl36 ha=>?_;have p_i36_M:=pf (B:=M) hk36 p_i19_M hM fun _ hy=>mr (mr (hy));have e_i36:=ef hk36 e_i19 hC;have hM:MS (blkL ao36++([g30]++(M))) w35:=(MS.app hl36 (MS.app (fun x h=>hM.chg hc36 x (ml h)) (fun x h=>hM.chg hc36 x (mr (mr (h))))))
      have hC:=hC.t1 hc36 e_i19;have f36:=hO36.chg (M':=blkL ao36++([g30]++(M))) (Chg.refl [] _) (Ok.nil _ _) (Ok.app (fun _ h=>.inl (ml h)) (Ok.to (Ok.app (fun _ h=>.inl (ml h)) (fun _ h=>.inl (mr (mr (h))))) (fun _ h=>mr h))) (fun _ _ h=>nomatch h) (fun _ h=>ml h);refine sd ha 1 [36,40] [(8,.slice ao36 (x20++([IntKind.u8.wrap (Int.fdiv a1 (2^(min (Int.toNat x21) IntKind.i64.bits)))]:List Int)).length cap36)] fun a ha=>?_;refine hK27 _ _ ?_;refine wp_region_lit ?_;refine sd ha 3 [] [(9,.int .i64 (IntKind.i64.wrap (x21 - (8:Int))))] fun a ha=>?_;have o1:=oN (blkL ao36++([g30]++(M))) w35;have o2:Ok (blkL ao36++(M)) (blkL ao36++([g30]++(M))) w35.heap.size:=(Ok.app (fun _ h=>.inl (ml h)) (fun _ h=>.inl (mr (mr (h)))))
      have f36:=f36.chg (Chg.refl [] _) o1 o2 (fun _ _ h=>nomatch h) (fun _ h=>ml h);have hM:MS (blkL ao36++(M)) w35:=(MS.app (fun x h=>hM.chg (Chg.refl [] _) x (ml h)) (fun x h=>hM.chg (Chg.refl [] _) x (mr (mr (h)))))
      exact ⟨kk,Nat.lt_succ_self _,⟨(x20++([IntKind.u8.wrap (Int.fdiv a1 (2^(min (Int.toNat x21) IntKind.i64.bits)))]:List Int)),IntKind.i64.wrap (x21 - (8:Int)),ao36,cap36,H,(ha.sel (by kernel_rfl)),f36,e_i36,p_i36_M,hC,hM⟩⟩
     ·refine wx ?_;obtain rfl:=oj H;exact J18 _ _ ao19 cap19 (ha.sel (by kernel_rfl)) f19 e_i19 p_i19_M hC hM
  have H:=H9;refine sd ha 3 [10] [(20,.bool (decide (a1 < (0:Int))))] fun a ha=>?_;rcases Bool.eq_false_or_eq_true (decide (a1 < (0:Int))) with hb37 | hb37
  ·have ha:=ha.lit hb37;have H:=ite_t hb37 H;refine sgd ha 7 [1,1,1,1,1,3,0] [20] [(17,.bool true)] fun a ha=>?_;obtain rfl:=oj H;exact J9 _ _ (ha.sel (by kernel_rfl)) f1 hC hM
  ·have ha:=ha.lit hb37;have H:=ite_f hb37 H;refine sgd ha 3 [2,2,2] [] [(20,.bool false),(21,.int .i64 a1),(23,.int .i64 (IntKind.i64.wrap ((8:Int)*a2)))] fun a ha=>?_;obtain ⟨hx38,H⟩:=ite_some H;refine hop (v:=.int .i64 (Int.fdiv a1 (2^(min (Int.toNat (IntKind.i64.wrap ((8:Int)*a2))) IntKind.i64.bits)))) (w':=w) ha rfl rfl rfl (shr_run ha (by rfl) (by rfl) hx38 _) fun a ha=>?_;refine sgd ha 3 [2,4,0] [20,21,23] [(17,.bool ((Int.fdiv a1 (2^(min (Int.toNat (IntKind.i64.wrap ((8:Int)*a2))) IntKind.i64.bits))) != (0:Int)))] fun a ha=>?_;obtain rfl:=oj H;exact J9 _ _ (ha.sel (by kernel_rfl)) f1 hC hM
def attr_num.f (k:Nat) (a0:Int):Option (List Int):=(cursor_Put.f k ([]:List Int) a0 (4:Int)).bind fun t3=>some ((t3.1:List Int))
set_option maxRecDepth 100000 in
theorem attr_num.walk (w:World) (M:List Nat) (hM:MS M w) (a0:Int) (k:Nat) (r:List Int) (H:attr_num.f k a0=some r) :
    To Tryz.prog 22 [.int .i64 a0] w fun v w'=>∃ (ao6:Option Addr) (cap6:Nat),v=.slice ao6 r.length cap6∧(Own (rInt .u8) 5 w' (blkL ao6++(M)) ao6 cap6 r)∧(∀ x∈blkL ao6,w.heap.size≤x)∧Chg [] w w'∧MS (blkL ao6++(M)) w':=by
 unfold attr_num.f at H;refine ent Tryz.func22 rfl [(0,.int .i64 a0)] rfl (by rfl) fun a ha=>?_;have hC:Chg [] w w:=Chg.refl _ _;refine sqd ha 1 [] [] fun a ha=>?_;refine wsr fun K2 hK2=>?_;refine sf ha 1 [(6,.int .i64 a0)] fun a ha=>?_;obtain ⟨t3,H3,H⟩:=bind_some H;refine cL ha (cursor_Put.walk w _ hM ([]:List Int) none 0 (RSl.nil (Nat.zero_le _)) a0 (4:Int) k _ H3) ?_;rintro _ w3 ⟨ao4,cap4,rfl,f4,ne_i4,hc3,hMn⟩ a ha;have e_i4:=eN hC ne_i4;have hM:MS (blkL ao4++(M)) w3:=(MS.app (fun x h=>hMn x (ml h)) (hM.chg hc3))
 have hC:=hC.t0 hc3;refine sf ha 5 [(3,.slice ao4 t3.1.length cap4)] fun a ha=>?_;refine hK2 _ _ ?_;refine sq ha 2 [(2,.slice ao4 t3.1.length cap4)] fun a ha=>?_;refine wrt ?_;obtain rfl:=oj H;refine rt1 ha rfl rfl ?_;exact ⟨ao4,cap4,rfl,f4,e_i4,hC,hM⟩
end Go.E
