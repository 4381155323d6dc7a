/- What the functions that the law reaches compute, and the walks that show it. -/
import Derived.Test.YtoeenagdbjppgaaDoorEngO
import Derived.Test.YtoeenagdbjppgaaDoorEngX
import Derived.Test.YtoeenagdbjppgaaDoorEngQ
import Derived.Test.YtoeenagdbjppgaaDoorEngY
import Derived.Test.YtoeenagdbjppgaaDoorEngZ
import Derived.Test.YtoeenagdbjppgaaDoorProg
set_option linter.unusedVariables false
set_option linter.unusedSimpArgs false
namespace Go.E
open Go.RowKit Go.Proofs
structure S_api_Raw where
  Flags : Int
  Kind : Int
  Value : List Int
  deriving DecidableEq, Inhabited
def cS_api_Raw (x : S_api_Raw) (ao1 : Option Addr) (cap1 : Nat) : List Value := ([.int .i64 x.Flags] : List Value) ++ (([.int .i64 x.Kind] : List Value) ++ (([.slice ao1 x.Value.length cap1] : List Value)))
def rS_api_Raw : Rep S_api_Raw := rIso (fun x : S_api_Raw => (x.Flags, (x.Kind, x.Value))) (rPair (rInt .i64) (rPair (rInt .i64) (rSl 5 (rInt .u8))))
theorem rS_api_Raw.open {w : World} {M : List Nat} {cs : List Value} {x : S_api_Raw} (h : rS_api_Raw.R w M cs x) : ∃ (ao1 : Option Addr) (cap1 : Nat), cs = cS_api_Raw x ao1 cap1 ∧ RSl (rInt .u8) 5 w M ao1 cap1 x.Value := by
  obtain ⟨c0, k0, e0, h0, ⟨c1, k1, e1, h1, h2⟩⟩ := h
  obtain rfl := h0
  obtain rfl := h1
  obtain ⟨ao1, cap1, rfl, f1⟩ := h2
  subst e1
  subst e0
  exact ⟨ao1, cap1, rfl, f1⟩
theorem rS_api_Raw.mk {w : World} {M : List Nat} (x : S_api_Raw) {ao1 : Option Addr} {cap1 : Nat} (f1 : RSl (rInt .u8) 5 w M ao1 cap1 x.Value) : rS_api_Raw.R w M (cS_api_Raw x ao1 cap1) x := ⟨_, _, rfl, rfl, ⟨_, _, rfl, rfl, ⟨ao1, cap1, rfl, f1⟩⟩⟩
def okS_api_Raw (x : S_api_Raw) : Prop := (okI .i64) x.Flags ∧ (okI .i64) x.Kind ∧ (okL 1 (okI .u8)) x.Value
structure S_cursor_rest where
  left : List Int
  bad : Bool
  deriving DecidableEq, Inhabited
def cS_cursor_rest (x : S_cursor_rest) (ao1 : Option Addr) (cap1 : Nat) : List Value := ([.slice ao1 x.left.length cap1] : List Value) ++ (([.bool x.bad] : List Value))
def rS_cursor_rest : Rep S_cursor_rest := rIso (fun x : S_cursor_rest => (x.left, x.bad)) (rPair (rSl 5 (rInt .u8)) rBool)
theorem rS_cursor_rest.open {w : World} {M : List Nat} {cs : List Value} {x : S_cursor_rest} (h : rS_cursor_rest.R w M cs x) : ∃ (ao1 : Option Addr) (cap1 : Nat), cs = cS_cursor_rest x ao1 cap1 ∧ RSl (rInt .u8) 5 w M ao1 cap1 x.left := by
  obtain ⟨c0, k0, e0, h0, h1⟩ := h
  obtain ⟨ao1, cap1, rfl, f1⟩ := h0
  obtain rfl := h1
  subst e0
  exact ⟨ao1, cap1, rfl, f1⟩
theorem rS_cursor_rest.mk {w : World} {M : List Nat} (x : S_cursor_rest) {ao1 : Option Addr} {cap1 : Nat} (f1 : RSl (rInt .u8) 5 w M ao1 cap1 x.left) : rS_cursor_rest.R w M (cS_cursor_rest x ao1 cap1) x := ⟨_, _, rfl, ⟨ao1, cap1, rfl, f1⟩, rfl⟩
def okS_cursor_rest (x : S_cursor_rest) : Prop := (okL 1 (okI .u8)) x.left ∧ okB x.bad
structure S_cursor_Reader where
  rest : S_cursor_rest
  deriving DecidableEq, Inhabited
def cS_cursor_Reader (x : S_cursor_Reader) (ao1 : Option Addr) (cap1 : Nat) : List Value := cS_cursor_rest x.rest ao1 cap1
def rS_cursor_Reader : Rep S_cursor_Reader := rIso (fun x : S_cursor_Reader => x.rest) rS_cursor_rest
theorem rS_cursor_Reader.open {w : World} {M : List Nat} {cs : List Value} {x : S_cursor_Reader} (h : rS_cursor_Reader.R w M cs x) : ∃ (ao1 : Option Addr) (cap1 : Nat), cs = cS_cursor_Reader x ao1 cap1 ∧ RSl (rInt .u8) 5 w M ao1 cap1 x.rest.left := by
  have h0 := h
  have h0 := rS_cursor_rest.open h0
  obtain ⟨ao1, cap1, rfl, f1⟩ := h0
  exact ⟨ao1, cap1, rfl, f1⟩
theorem rS_cursor_Reader.mk {w : World} {M : List Nat} (x : S_cursor_Reader) {ao1 : Option Addr} {cap1 : Nat} (f1 : RSl (rInt .u8) 5 w M ao1 cap1 x.rest.left) : rS_cursor_Reader.R w M (cS_cursor_Reader x ao1 cap1) x := (rS_cursor_rest.mk x.rest f1)
def okS_cursor_Reader (x : S_cursor_Reader) : Prop := (okS_cursor_rest) x.rest
structure S_api_Segment where
  Set : Bool
  AS : List Int
  deriving DecidableEq, Inhabited
def cS_api_Segment (x : S_api_Segment) (ao1 : Option Addr) (cap1 : Nat) : List Value := ([.bool x.Set] : List Value) ++ (([.slice ao1 x.AS.length cap1] : List Value))
def rS_api_Segment : Rep S_api_Segment := rIso (fun x : S_api_Segment => (x.Set, x.AS)) (rPair rBool (rSl 3 (rInt .i64)))
theorem rS_api_Segment.open {w : World} {M : List Nat} {cs : List Value} {x : S_api_Segment} (h : rS_api_Segment.R w M cs x) : ∃ (ao1 : Option Addr) (cap1 : Nat), cs = cS_api_Segment x ao1 cap1 ∧ RSl (rInt .i64) 3 w M ao1 cap1 x.AS := by
  obtain ⟨c0, k0, e0, h0, h1⟩ := h
  obtain rfl := h0
  obtain ⟨ao1, cap1, rfl, f1⟩ := h1
  subst e0
  exact ⟨ao1, cap1, rfl, f1⟩
theorem rS_api_Segment.mk {w : World} {M : List Nat} (x : S_api_Segment) {ao1 : Option Addr} {cap1 : Nat} (f1 : RSl (rInt .i64) 3 w M ao1 cap1 x.AS) : rS_api_Segment.R w M (cS_api_Segment x ao1 cap1) x := ⟨_, _, rfl, rfl, ⟨ao1, cap1, rfl, f1⟩⟩
def okS_api_Segment (x : S_api_Segment) : Prop := okB x.Set ∧ (okL 8 (okI .i64)) x.AS
structure S_api_Addr where
  Size : Int
  B : List Int
  deriving DecidableEq, Inhabited
def cS_api_Addr (x : S_api_Addr) : List Value := ([.int .i64 x.Size] : List Value) ++ (cA .u8 16 x.B)
def rS_api_Addr : Rep S_api_Addr := rIso (fun x : S_api_Addr => (x.Size, x.B)) (rPair (rInt .i64) (rArr .u8 16))
theorem rS_api_Addr.open {w : World} {M : List Nat} {cs : List Value} {x : S_api_Addr} (h : rS_api_Addr.R w M cs x) : cs = cS_api_Addr x := by
  obtain ⟨c0, k0, e0, h0, h1⟩ := h
  obtain rfl := h0
  obtain rfl := h1
  subst e0
  exact rfl
theorem rS_api_Addr.mk {w : World} {M : List Nat} (x : S_api_Addr) : rS_api_Addr.R w M (cS_api_Addr x) x := ⟨_, _, rfl, rfl, rfl⟩
def okS_api_Addr (x : S_api_Addr) : Prop := (okI .i64) x.Size ∧ (okA .u8 16) x.B
structure S_api_Tunnel where
  Leaf : Bool
  Kind : Int
  Label : Int
  Root : S_api_Addr
  Id : List Int
  deriving DecidableEq, Inhabited
def cS_api_Tunnel (x : S_api_Tunnel) (ao1 : Option Addr) (cap1 : Nat) : List Value := ([.bool x.Leaf] : List Value) ++ (([.int .i64 x.Kind] : List Value) ++ (([.int .i64 x.Label] : List Value) ++ (cS_api_Addr x.Root ++ (([.slice ao1 x.Id.length cap1] : List Value)))))
def rS_api_Tunnel : Rep S_api_Tunnel := rIso (fun x : S_api_Tunnel => (x.Leaf, (x.Kind, (x.Label, (x.Root, x.Id))))) (rPair rBool (rPair (rInt .i64) (rPair (rInt .i64) (rPair rS_api_Addr (rSl 5 (rInt .u8))))))
theorem rS_api_Tunnel.open {w : World} {M : List Nat} {cs : List Value} {x : S_api_Tunnel} (h : rS_api_Tunnel.R w M cs x) : ∃ (ao1 : Option Addr) (cap1 : Nat), cs = cS_api_Tunnel x ao1 cap1 ∧ RSl (rInt .u8) 5 w M ao1 cap1 x.Id := by
  obtain ⟨c0, k0, e0, h0, ⟨c1, k1, e1, h1, ⟨c2, k2, e2, h2, ⟨c3, k3, e3, h3, h4⟩⟩⟩⟩ := h
  have h3 := rS_api_Addr.open h3
  obtain rfl := h0
  obtain rfl := h1
  obtain rfl := h2
  obtain rfl := h3
  obtain ⟨ao1, cap1, rfl, f1⟩ := h4
  subst e3
  subst e2
  subst e1
  subst e0
  exact ⟨ao1, cap1, rfl, f1⟩
theorem rS_api_Tunnel.mk {w : World} {M : List Nat} (x : S_api_Tunnel) {ao1 : Option Addr} {cap1 : Nat} (f1 : RSl (rInt .u8) 5 w M ao1 cap1 x.Id) : rS_api_Tunnel.R w M (cS_api_Tunnel x ao1 cap1) x := ⟨_, _, rfl, rfl, ⟨_, _, rfl, rfl, ⟨_, _, rfl, rfl, ⟨_, _, rfl, (rS_api_Addr.mk x.Root), ⟨ao1, cap1, rfl, f1⟩⟩⟩⟩⟩
def okS_api_Tunnel (x : S_api_Tunnel) : Prop := okB x.Leaf ∧ (okI .i64) x.Kind ∧ (okI .i64) x.Label ∧ (okS_api_Addr) x.Root ∧ (okL 1 (okI .u8)) x.Id
structure S_api_Attrs where
  Origin : Int
  Path : List S_api_Segment
  Med : Int
  Pref : Int
  Originator : S_api_Addr
  Clusters : List S_api_Addr
  Exts : List (List Int)
  Tunnels : List S_api_Tunnel
  deriving DecidableEq, Inhabited
def cS_api_Attrs (x : S_api_Attrs) (ao1 : Option Addr) (cap1 : Nat) (ao2 : Option Addr) (cap2 : Nat) (ao3 : Option Addr) (cap3 : Nat) (ao4 : Option Addr) (cap4 : Nat) : List Value := ([.int .i64 x.Origin] : List Value) ++ (([.slice ao1 x.Path.length cap1] : List Value) ++ (([.int .i64 x.Med] : List Value) ++ (([.int .i64 x.Pref] : List Value) ++ (cS_api_Addr x.Originator ++ (([.slice ao2 x.Clusters.length cap2] : List Value) ++ (([.slice ao3 x.Exts.length cap3] : List Value) ++ (([.slice ao4 x.Tunnels.length cap4] : List Value))))))))
def rS_api_Attrs : Rep S_api_Attrs := rIso (fun x : S_api_Attrs => (x.Origin, (x.Path, (x.Med, (x.Pref, (x.Originator, (x.Clusters, (x.Exts, x.Tunnels)))))))) (rPair (rInt .i64) (rPair (rSl 93 rS_api_Segment) (rPair (rInt .i64) (rPair (rInt .i64) (rPair rS_api_Addr (rPair (rSl 24 rS_api_Addr) (rPair (rSl 114 (rArr .u8 8)) (rSl 27 rS_api_Tunnel))))))))
theorem rS_api_Attrs.open {w : World} {M : List Nat} {cs : List Value} {x : S_api_Attrs} (h : rS_api_Attrs.R w M cs x) : ∃ (ao1 : Option Addr) (cap1 : Nat) (ao2 : Option Addr) (cap2 : Nat) (ao3 : Option Addr) (cap3 : Nat) (ao4 : Option Addr) (cap4 : Nat), cs = cS_api_Attrs x ao1 cap1 ao2 cap2 ao3 cap3 ao4 cap4 ∧ RSl rS_api_Segment 93 w M ao1 cap1 x.Path ∧ RSl rS_api_Addr 24 w M ao2 cap2 x.Clusters ∧ RSl (rArr .u8 8) 114 w M ao3 cap3 x.Exts ∧ RSl rS_api_Tunnel 27 w M ao4 cap4 x.Tunnels := by
  obtain ⟨c0, k0, e0, h0, ⟨c1, k1, e1, h1, ⟨c2, k2, e2, h2, ⟨c3, k3, e3, h3, ⟨c4, k4, e4, h4, ⟨c5, k5, e5, h5, ⟨c6, k6, e6, h6, h7⟩⟩⟩⟩⟩⟩⟩ := h
  have h4 := rS_api_Addr.open h4
  obtain rfl := h0
  obtain ⟨ao1, cap1, rfl, f1⟩ := h1
  obtain rfl := h2
  obtain rfl := h3
  obtain rfl := h4
  obtain ⟨ao2, cap2, rfl, f2⟩ := h5
  obtain ⟨ao3, cap3, rfl, f3⟩ := h6
  obtain ⟨ao4, cap4, rfl, f4⟩ := h7
  subst e6
  subst e5
  subst e4
  subst e3
  subst e2
  subst e1
  subst e0
  exact ⟨ao1, cap1, ao2, cap2, ao3, cap3, ao4, cap4, rfl, f1, f2, f3, f4⟩
theorem rS_api_Attrs.mk {w : World} {M : List Nat} (x : S_api_Attrs) {ao1 : Option Addr} {cap1 : Nat} {ao2 : Option Addr} {cap2 : Nat} {ao3 : Option Addr} {cap3 : Nat} {ao4 : Option Addr} {cap4 : Nat} (f1 : RSl rS_api_Segment 93 w M ao1 cap1 x.Path) (f2 : RSl rS_api_Addr 24 w M ao2 cap2 x.Clusters) (f3 : RSl (rArr .u8 8) 114 w M ao3 cap3 x.Exts) (f4 : RSl rS_api_Tunnel 27 w M ao4 cap4 x.Tunnels) : rS_api_Attrs.R w M (cS_api_Attrs x ao1 cap1 ao2 cap2 ao3 cap3 ao4 cap4) x := ⟨_, _, rfl, rfl, ⟨_, _, rfl, ⟨ao1, cap1, rfl, f1⟩, ⟨_, _, rfl, rfl, ⟨_, _, rfl, rfl, ⟨_, _, rfl, (rS_api_Addr.mk x.Originator), ⟨_, _, rfl, ⟨ao2, cap2, rfl, f2⟩, ⟨_, _, rfl, ⟨ao3, cap3, rfl, f3⟩, ⟨ao4, cap4, rfl, f4⟩⟩⟩⟩⟩⟩⟩⟩
def okS_api_Attrs (x : S_api_Attrs) : Prop := (okI .i64) x.Origin ∧ (okL 32 (okS_api_Segment)) x.Path ∧ (okI .i64) x.Med ∧ (okI .i64) x.Pref ∧ (okS_api_Addr) x.Originator ∧ (okL 24 (okS_api_Addr)) x.Clusters ∧ (okL 8 (okA .u8 8)) x.Exts ∧ (okL 72 (okS_api_Tunnel)) x.Tunnels
structure S_vineryref01_Reader where
  B : List Int
  At : Int
  No : Bool
  deriving DecidableEq, Inhabited
def cS_vineryref01_Reader (x : S_vineryref01_Reader) (ao1 : Option Addr) (cap1 : Nat) : List Value := ([.slice ao1 x.B.length cap1] : List Value) ++ (([.int .i64 x.At] : List Value) ++ (([.bool x.No] : List Value)))
def rS_vineryref01_Reader : Rep S_vineryref01_Reader := rIso (fun x : S_vineryref01_Reader => (x.B, (x.At, x.No))) (rPair (rSl 5 (rInt .u8)) (rPair (rInt .i64) rBool))
theorem rS_vineryref01_Reader.open {w : World} {M : List Nat} {cs : List Value} {x : S_vineryref01_Reader} (h : rS_vineryref01_Reader.R w M cs x) : ∃ (ao1 : Option Addr) (cap1 : Nat), cs = cS_vineryref01_Reader x ao1 cap1 ∧ RSl (rInt .u8) 5 w M ao1 cap1 x.B := by
  obtain ⟨c0, k0, e0, h0, ⟨c1, k1, e1, h1, h2⟩⟩ := h
  obtain ⟨ao1, cap1, rfl, f1⟩ := h0
  obtain rfl := h1
  obtain rfl := h2
  subst e1
  subst e0
  exact ⟨ao1, cap1, rfl, f1⟩
theorem rS_vineryref01_Reader.mk {w : World} {M : List Nat} (x : S_vineryref01_Reader) {ao1 : Option Addr} {cap1 : Nat} (f1 : RSl (rInt .u8) 5 w M ao1 cap1 x.B) : rS_vineryref01_Reader.R w M (cS_vineryref01_Reader x ao1 cap1) x := ⟨_, _, rfl, ⟨ao1, cap1, rfl, f1⟩, ⟨_, _, rfl, rfl, rfl⟩⟩
def okS_vineryref01_Reader (x : S_vineryref01_Reader) : Prop := (okL 1 (okI .u8)) x.B ∧ (okI .i64) x.At ∧ okB x.No

def bytes_Clone.f (a0 : List Int) : Option (List Int) := if a0.length ≤ 140737488355328 then some a0 else none
theorem bytes_Clone.walk (w : World) (M : List Nat) (hM : MS M w) (a0 : List Int) (ao1 : Option Addr) (cap1 : Nat) (f1 : RSl (rInt .u8) 5 w M ao1 cap1 a0) (r : List Int) (H : bytes_Clone.f a0 = some r) :
    To Tryd.prog 85 [.slice ao1 a0.length cap1] w fun v w' => ∃ (ao2 : Option Addr) (cap2 : Nat), v = .slice ao2 r.length cap2 ∧ (Own (rInt .u8) 5 w' (blkL ao2 ++ M) ao2 cap2 r) ∧ (∀ x ∈ blkL ao2, w.heap.size ≤ x) ∧ Chg [] w w' ∧ MS (blkL ao2 ++ M) w' := by
  unfold bytes_Clone.f at H
  obtain ⟨hb, H⟩ := ite_some H
  obtain rfl := Option.some.inj H
  refine ent Tryd.func85 rfl [(0, .slice ao1 a0.length cap1)] rfl rfl fun a ha => ?_
  refine wp_seq_k fun K hK => ?_
  refine wp_region_lit ?_
  refine seg ha 1 [(0, .slice ao1 a0.length cap1)] (by kernel_rfl) fun a ha => ?_
  refine hK _ _ ?_; clear hK K
  refine wp_seq_k fun K hK => ?_
  refine wp_seq_k fun K2 hK2 => ?_
  refine wp_region_lit ?_
  refine seg ha 2 [(0, .slice ao1 a0.length cap1), (4, .bool ao1.isNone)] (by kernel_rfl) fun a ha => ?_
  refine hK2 _ _ ?_; clear hK2 K2
  refine cnd ha rfl (fun hc => ?_) (fun hc => ?_)
  · refine wp_seq_k fun K2 hK2 => ?_
    refine wp_region_lit ?_
    refine seg ha 1 [(2, .slice none 0 0)] (by kernel_rfl) fun a ha => ?_
    refine hK2 _ _ ?_; clear hK2 K2
    refine wp_ret ?_
    have hx : a0 = [] := by
      rcases f1 with ⟨_, _, h | ⟨g, o, cur, fr, e, _⟩⟩
      · exact h
      · subst e; simp at hc
    simp only [Exit.then]
    refine rt1 ha rfl rfl ?_
    exact ⟨none, 0, by rw [hx]; rfl, by rw [hx]; exact Own.nil, (fun _ h => nomatch h), Chg.refl _ _, hM⟩
  · refine wp_skip ?_
    refine hK _ _ ?_; clear hK K
    refine wp_seq_k fun K hK => ?_
    refine wp_region_lit ?_
    refine bsl (vals := []) (T := 5) ha rfl [] (fun w => by kernel_rfl) rfl rfl rfl fun a w1 g hN ha => ?_
    refine seg ha 1 [(0, .slice ao1 a0.length cap1), (5, .slice (some ⟨g, 0, none⟩) 0 0), (6, .slice ao1 a0.length cap1)] (by kernel_rfl) fun a ha => ?_
    have hO : Own (rInt .u8) 5 w1 ([g] ++ M) (some ⟨g, 0, none⟩) 0 [] := hN.own rfl (Nat.zero_le _)
    have h1 : RSl (rInt .u8) 5 w1 ([g] ++ M) ao1 cap1 a0 := f1.chg hN.chg (Ok.nil _ _) (Ok.app (hN.ok _) (Ok.refl _ _))
    refine app (r := rInt .u8) (xs := []) ha (ElemT.mk' (bytes := 1) (by kernel_rfl)) rfl rfl rfl rfl rfl hO h1.src (by simpa using hb) (by decide) fun a w2 ao2 cap2 hO2 hc2 hok hlt ha => ?_
    refine seg ha 1 [(2, .slice ao2 ([] ++ a0).length cap2)] (by kernel_rfl) fun a ha => ?_
    refine hK _ _ ?_; clear hK K
    refine wp_ret ?_
    refine rt1 ha rfl rfl ⟨ao2, cap2, rfl, ?_, ?_, ?_, ?_⟩
    · exact hO2.chg (Chg.refl [] _) (Ok.nil _ _) (Ok.app (fun g hg => .inl (ml hg)) (fun g hg => .inl (mr (mr hg)))) (fun _ _ hh => nomatch hh) (fun g hg => ml hg)
    · intro x hx
      rcases hok x hx with h | h
      · simp [blkL] at h; subst h; exact hN.ge
      · exact Nat.le_trans hN.chg.size h
    · exact hN.chg.trans hc2 (Ok.one (.inr hN.ge))
    · exact MS.app hlt ((hM.chg hN.chg).chg hc2)

def cursor_Open.f (a0 : List Int) : Option (S_cursor_Reader) := (bytes_Clone.f a0).bind fun t4 => some (((⟨(⟨t4, false⟩ : S_cursor_rest)⟩ : S_cursor_Reader) : S_cursor_Reader))
set_option maxRecDepth 100000 in
theorem cursor_Open.walk (w : World) (M : List Nat) (hM : MS M w) (a0 : List Int) (ao1 : Option Addr) (cap1 : Nat) (f1 : RSl (rInt .u8) 5 w M ao1 cap1 a0) (r : S_cursor_Reader) (H : cursor_Open.f a0 = some r) :
    To Tryd.prog 41 [.slice ao1 a0.length cap1] w fun v w' => ∃ (g10 : Nat) (ao12 : Option Addr) (cap12 : Nat), v = .pointer (some ⟨g10, 0, none⟩) ∧ (RSl (rInt .u8) 5 w' ([g10] ++ (M)) ao12 cap12 r.rest.left) ∧ (Box w' g10 (cS_cursor_Reader r ao12 cap12)) ∧ (∀ x ∈ [g10], w.heap.size ≤ x) ∧ Chg [] w w' ∧ MS ([g10] ++ (M)) w' := by
 unfold cursor_Open.f at H
 refine ent Tryd.func41 rfl [(0, .slice ao1 a0.length cap1)] rfl (by rfl) fun a ha => ?_
 have hC : Chg [] w w := Chg.refl _ _
 refine wp_seq_k fun K2 hK2 => ?_
 refine wp_region_lit ?_
 refine seg ha 1 [(0, .slice ao1 a0.length cap1)] (by kernel_rfl) fun a ha => ?_
 refine hK2 _ _ ?_; try clear hK2 K2
 refine wp_seq_k fun K3 hK3 => ?_
 refine wp_region_lit ?_
 refine seg ha 1 [(3, .slice ao1 a0.length cap1)] (by kernel_rfl) fun a ha => ?_
 obtain ⟨t4, H4, H⟩ := bind_some H
 refine cl ha (by rfl) (by kernel_rfl) (by rfl) (by rfl) (by rfl) (bytes_Clone.walk w _ hM a0 ao1 cap1 f1 _ H4) ?_
 rintro _ w4 ⟨ao5, cap5, rfl, f5, ne_i5, hc4, hMn⟩ a ha
 have o1 : Ok [] (M) w.heap.size := Ok.nil _ _
 have o2 : Ok (blkL ao5 ++ (M)) (M) w.heap.size := (Ok.app (fun x h => .inr (ne_i5 x h)) (Ok.refl _ _))
 have f1 := f1.chg hc4 o1 o2
 have p_i5_M : ∀ x ∈ blkL ao5, x ∉ M := fun x hx hy => absurd (hM x (hy)) (Nat.not_lt.2 (ne_i5 x hx))
 have e_i5 : ∀ x ∈ blkL ao5, w.heap.size ≤ x := fun x hx => Nat.le_trans hC.size (ne_i5 x hx)
 have hM : MS (blkL ao5 ++ (M)) w4 := (MS.app (fun x h => hMn x (ml h)) (hM.chg hc4))
 have hC := hC.trans hc4 (Ok.nil _ _)
 refine opk (v := .agg (cS_cursor_rest (⟨t4, false⟩ : S_cursor_rest) ao5 cap5).toArray) ha rfl rfl rfl rfl rfl (fun w => by kernel_rfl) fun a ha => ?_
 refine opk (v := .agg (cS_cursor_Reader (⟨(⟨t4, false⟩ : S_cursor_rest)⟩ : S_cursor_Reader) ao5 cap5).toArray) ha rfl rfl rfl rfl rfl (fun w => by kernel_rfl) fun a ha => ?_
 have fz := f5.toRSl (M' := M) (fun _ h => .inl (mr (h))) (fun x hx hm => p_i5_M x hx hm)
 have hM : MS (M) w4 := (fun x h => hM.chg (Chg.refl [] _) x (mr (h)))
 have f5 := fz
 refine bx (cs := (cS_cursor_Reader (⟨(⟨t4, false⟩ : S_cursor_rest)⟩ : S_cursor_Reader) ao5 cap5)) ha rfl rfl rfl rfl rfl fun a w6 g7 hN8 ha => ?_
 have o1 : Ok [] (M) w4.heap.size := Ok.nil _ _
 have o2 : Ok ([g7] ++ (M)) (M) w4.heap.size := (Ok.app (hN8.ok _) (Ok.refl _ _))
 have f5 := f5.chg hN8.chg o1 o2
 have p_i9_M : ∀ x ∈ [g7], x ∉ M := fun x hx hy => absurd (hM x (hy)) (Nat.not_lt.2 ((hN8.ge1) x hx))
 have e_i9 : ∀ x ∈ [g7], w.heap.size ≤ x := fun x hx => Nat.le_trans hC.size ((hN8.ge1) x hx)
 have hM : MS ([g7] ++ (M)) w6 := (MS.app hN8.ms (hM.chg hN8.chg))
 have hC := hC.trans hN8.chg (Ok.nil _ _)
 have hBg7 : Box w6 g7 (cS_cursor_Reader (⟨(⟨t4, false⟩ : S_cursor_rest)⟩ : S_cursor_Reader) ao5 cap5) := hN8.box
 refine seg ha 1 [(2, .pointer (some ⟨g7, 0, none⟩))] (by kernel_rfl) fun a ha => ?_
 refine hK3 _ _ ?_; try clear hK3 K3
 refine wp_ret ?_
 try simp only [Exit.then, Exit.inBlock]
 obtain rfl := Option.some.inj H
 refine rt1 ha rfl rfl ?_
 exact ⟨g7, ao5, cap5, rfl, f5, hBg7, e_i9, hC, hM⟩
def cursor_rest_Left.f (a0 : S_cursor_rest) : Option (Int) := (if a0.bad = true then some (((0 : Int) : Int)) else some (((a0.left.length : Int) : Int)))
set_option maxRecDepth 100000 in
theorem cursor_rest_Left.walk (w : World) (M : List Nat) (hM : MS M w) (gp0 : Nat) (a0 : S_cursor_rest) (ao1 : Option Addr) (cap1 : Nat) (f1 : RSl (rInt .u8) 5 w M ao1 cap1 a0.left) (hBgp0 : Box w gp0 (cS_cursor_rest a0 ao1 cap1)) (hg_gp0 : gp0 ∈ M) (r : Int) (H : cursor_rest_Left.f a0 = some r) :
    To Tryd.prog 46 [.pointer (some ⟨gp0, 0, none⟩)] w fun v w' => v = .int .i64 r ∧ Chg [] w w' ∧ MS (M) w' := by
 unfold cursor_rest_Left.f at H
 refine ent Tryd.func46 rfl [(0, .pointer (some ⟨gp0, 0, none⟩))] rfl (by rfl) fun a ha => ?_
 have hC : Chg [] w w := Chg.refl _ _
 refine wp_seq_k fun K2 hK2 => ?_
 refine wp_region_lit ?_
 refine seg ha 1 [(0, .pointer (some ⟨gp0, 0, none⟩))] (by kernel_rfl) fun a ha => ?_
 refine hK2 _ _ ?_; try clear hK2 K2
 refine wp_seq_k fun K3 hK3 => ?_
 refine wp_seq_k fun K4 hK4 => ?_
 refine wp_region_lit ?_
 refine seg ha 3 [(0, .pointer (some ⟨gp0, 0, none⟩)), (5, .pointer (some ⟨gp0, 1, none⟩))] (by kernel_rfl) fun a ha => ?_
 refine ld (v := .bool a0.bad) ha rfl (by kernel_rfl) rfl rfl rfl (hBgp0.cell' (o := 1) rfl (by kernel_rfl)) fun a ha => ?_
 refine hK4 _ _ ?_; try clear hK4 K4
 refine cnd ha rfl (fun hc5 => ?_) (fun hc5 => ?_)
 ·have H := ite_t hc5 H
  refine wp_seq_k fun K6 hK6 => ?_
  refine wp_region_lit ?_
  refine seg ha 1 [(2, .int .i64 (0 : Int))] (by kernel_rfl) fun a ha => ?_
  refine hK6 _ _ ?_; try clear hK6 K6
  refine wp_ret ?_
  try simp only [Exit.then, Exit.inBlock]
  obtain rfl := Option.some.inj H
  refine rt1 ha rfl rfl ?_
  exact ⟨rfl, hC, hM⟩
 ·have H := ite_f hc5 H
  refine wp_skip ?_
  refine hK3 _ _ ?_; try clear hK3 K3
  refine wp_seq_k fun K7 hK7 => ?_
  refine wp_region_lit ?_
  refine seg ha 3 [(9, .pointer (some ⟨gp0, 0, none⟩))] (by kernel_rfl) fun a ha => ?_
  refine ld (v := .slice ao1 a0.left.length cap1) ha rfl (by kernel_rfl) rfl rfl rfl (hBgp0.cell' (o := 0) rfl (by kernel_rfl)) fun a ha => ?_
  refine seg ha 2 [(2, .int .i64 (a0.left.length : Int))] (by kernel_rfl) fun a ha => ?_
  refine hK7 _ _ ?_; try clear hK7 K7
  refine wp_ret ?_
  try simp only [Exit.then, Exit.inBlock]
  obtain rfl := Option.some.inj H
  refine rt1 ha rfl rfl ?_
  exact ⟨rfl, hC, hM⟩
def cursor_rest_next.f (a0 : S_cursor_rest) (a1 : Int) : Option (List Int × S_cursor_rest) := ((if a0.bad = true then some (true : Bool) else (if (decide (a1 < (0 : Int))) = true then some (true : Bool) else some (decide (a1 > (a0.left.length : Int)) : Bool)))).bind fun s5 => (if s5 = true then some ((([] : List Int) : List Int), ((⟨a0.left, true⟩ : S_cursor_rest) : S_cursor_rest)) else (if 0 ≤ (0 : Int) ∧ (0 : Int) ≤ a1 ∧ a1 ≤ (a0.left.length : Int) then (if 0 ≤ a1 ∧ a1 ≤ (a0.left.length : Int) ∧ (a0.left.length : Int) ≤ (a0.left.length : Int) then some ((((a0.left.take (Int.toNat a1)).drop (Int.toNat (0 : Int))) : List Int), ((⟨((a0.left.take (Int.toNat (a0.left.length : Int))).drop (Int.toNat a1)), a0.bad⟩ : S_cursor_rest) : S_cursor_rest)) else none) else none))
set_option maxRecDepth 100000 in
theorem cursor_rest_next.walk (w : World) (M : List Nat) (hM : MS M w) (gp0 : Nat) (a0 : S_cursor_rest) (ao1 : Option Addr) (cap1 : Nat) (f1 : RSl (rInt .u8) 5 w M ao1 cap1 a0.left) (hBgp0 : Box w gp0 (cS_cursor_rest a0 ao1 cap1)) (hg_gp0 : gp0 ∈ M) (a1 : Int) (r : List Int × S_cursor_rest) (H : cursor_rest_next.f a0 a1 = some r) :
    To Tryd.prog 87 [.pointer (some ⟨gp0, 0, none⟩), .int .i64 a1] w fun v w' => ∃ (ao22 : Option Addr) (cap22 : Nat) (ao23 : Option Addr) (cap23 : Nat), v = .slice ao22 r.1.length cap22 ∧ (RSl (rInt .u8) 5 w' (M) ao22 cap22 r.1) ∧ (RSl (rInt .u8) 5 w' (M) ao23 cap23 r.2.left) ∧ (Box w' gp0 (cS_cursor_rest r.2 ao23 cap23)) ∧ Chg [gp0] w w' ∧ MS (M) w' := by
 unfold cursor_rest_next.f at H
 refine ent Tryd.func87 rfl [(0, .pointer (some ⟨gp0, 0, none⟩)), (1, .int .i64 a1)] rfl (by rfl) fun a ha => ?_
 have hC : Chg [gp0] w w := Chg.refl _ _
 refine wp_seq_k fun K2 hK2 => ?_
 refine wp_region_lit ?_
 refine seg ha 1 [(0, .pointer (some ⟨gp0, 0, none⟩)), (1, .int .i64 a1)] (by kernel_rfl) fun a ha => ?_
 refine hK2 _ _ ?_; try clear hK2 K2
 refine wp_seq_k fun K3 hK3 => ?_
 refine wp_seq_k fun K4 hK4 => ?_
 refine wp_region_lit ?_
 obtain ⟨s5, H5, H⟩ := bind_some H
 have J5 : ∀ (a : Act) (w5 : World), Has a Tryd.f87.ntmps [(0, .pointer (some ⟨gp0, 0, none⟩)), (1, .int .i64 a1), (22, .bool s5)] → (RSl (rInt .u8) 5 w5 (M) ao1 cap1 a0.left) → (Box w5 gp0 (cS_cursor_rest a0 ao1 cap1)) → (Chg [gp0] w w5) → (MS (M) w5) → K4 a w5 := by
  intro a w5 ha f1 hBgp0 hC hM
  refine hK4 _ _ ?_; try clear hK4 K4
  refine cnd ha rfl (fun hc6 => ?_) (fun hc6 => ?_)
  ·have H := ite_t hc6 H
   refine wp_seq_k fun K7 hK7 => ?_
   refine wp_region_lit ?_
   refine seg ha 3 [(25, .pointer (some ⟨gp0, 1, none⟩))] (by kernel_rfl) fun a ha => ?_
   refine st ha rfl rfl rfl (by kernel_rfl) rfl rfl hBgp0 (Nat.le_of_ble_eq_true (by kernel_rfl)) fun a w8 ha hb2 hc9 _ => ?_
   have o1 : Ok [gp0] (M) w5.heap.size := Ok.one (.inl (hg_gp0))
   have o2 : Ok (M) (M) w5.heap.size := (Ok.refl _ _)
   have f1 := f1.chg hc9 o1 o2
   have hM : MS (M) w8 := (hM.chg hc9)
   have hC := hC.trans hc9 (Ok.one (.inl (by simp)))
   have hBgp0 : Box w8 gp0 (cS_cursor_rest (⟨a0.left, true⟩ : S_cursor_rest) ao1 cap1) := hb2
   refine hK7 _ _ ?_; try clear hK7 K7
   refine wp_seq_k fun K10 hK10 => ?_
   refine wp_region_lit ?_
   refine seg ha 1 [(4, .slice none 0 0)] (by kernel_rfl) fun a ha => ?_
   refine hK10 _ _ ?_; try clear hK10 K10
   refine wp_ret ?_
   try simp only [Exit.then, Exit.inBlock]
   obtain rfl := Option.some.inj H
   refine rt1 ha rfl rfl ?_
   exact ⟨none, 0, ao1, cap1, rfl, (RSl.nil (Nat.zero_le _)), f1, hBgp0, hC, hM⟩
  ·have H := ite_f hc6 H
   refine wp_skip ?_
   refine hK3 _ _ ?_; try clear hK3 K3
   refine wp_seq_k fun K11 hK11 => ?_
   refine wp_region_lit ?_
   refine seg ha 3 [(0, .pointer (some ⟨gp0, 0, none⟩)), (1, .int .i64 a1), (28, .pointer (some ⟨gp0, 0, none⟩))] (by kernel_rfl) fun a ha => ?_
   refine ld (v := .slice ao1 a0.left.length cap1) ha rfl (by kernel_rfl) rfl rfl rfl (hBgp0.cell' (o := 0) rfl (by kernel_rfl)) fun a ha => ?_
   refine seg ha 1 [(0, .pointer (some ⟨gp0, 0, none⟩)), (1, .int .i64 a1), (29, .slice ao1 a0.left.length cap1), (30, .int .i64 a1)] (by kernel_rfl) fun a ha => ?_
   obtain ⟨⟨hx12, hx12', hx12''⟩, H⟩ := ite_some H
   refine slc (r := (rInt .u8)) (l := (0 : Int)) (h := a1) ha (by kernel_rfl) (by kernel_rfl) rfl rfl rfl rfl rfl rfl f1 hx12 hx12' hx12'' fun a ao13 cap13 f13 ha => ?_
   refine seg ha 1 [(0, .pointer (some ⟨gp0, 0, none⟩)), (1, .int .i64 a1), (5, .slice ao13 ((a0.left.take (Int.toNat a1)).drop (Int.toNat (0 : Int))).length cap13)] (by kernel_rfl) fun a ha => ?_
   refine hK11 _ _ ?_; try clear hK11 K11
   refine wp_seq_k fun K14 hK14 => ?_
   refine wp_region_lit ?_
   refine seg ha 4 [(1, .int .i64 a1), (5, .slice ao13 ((a0.left.take (Int.toNat a1)).drop (Int.toNat (0 : Int))).length cap13), (32, .pointer (some ⟨gp0, 0, none⟩)), (35, .pointer (some ⟨gp0, 0, none⟩))] (by kernel_rfl) fun a ha => ?_
   refine ld (v := .slice ao1 a0.left.length cap1) ha rfl (by kernel_rfl) rfl rfl rfl (hBgp0.cell' (o := 0) rfl (by kernel_rfl)) fun a ha => ?_
   refine seg ha 1 [(5, .slice ao13 ((a0.left.take (Int.toNat a1)).drop (Int.toNat (0 : Int))).length cap13), (32, .pointer (some ⟨gp0, 0, none⟩)), (36, .slice ao1 a0.left.length cap1), (37, .int .i64 a1)] (by kernel_rfl) fun a ha => ?_
   obtain ⟨⟨hx15, hx15', hx15''⟩, H⟩ := ite_some H
   refine slc (r := (rInt .u8)) (l := a1) (h := (a0.left.length : Int)) ha (by kernel_rfl) (by kernel_rfl) rfl rfl rfl rfl rfl rfl f1 hx15 hx15' hx15'' fun a ao16 cap16 f16 ha => ?_
   refine seg ha 2 [(5, .slice ao13 ((a0.left.take (Int.toNat a1)).drop (Int.toNat (0 : Int))).length cap13), (38, .slice ao16 ((a0.left.take (Int.toNat (a0.left.length : Int))).drop (Int.toNat a1)).length cap16), (40, .pointer (some ⟨gp0, 0, none⟩))] (by kernel_rfl) fun a ha => ?_
   refine st ha rfl rfl rfl (by kernel_rfl) rfl rfl hBgp0 (Nat.le_of_ble_eq_true (by kernel_rfl)) fun a w17 ha hb2 hc18 _ => ?_
   have o1 : Ok [gp0] (M) w5.heap.size := Ok.one (.inl (hg_gp0))
   have o2 : Ok (M) (M) w5.heap.size := (Ok.refl _ _)
   have f13 := f13.chg hc18 o1 o2
   have f16 := f16.chg hc18 o1 o2
   have f1 := f1.chg hc18 o1 o2
   have hM : MS (M) w17 := (hM.chg hc18)
   have hC := hC.trans hc18 (Ok.one (.inl (by simp)))
   have hBgp0 : Box w17 gp0 (cS_cursor_rest (⟨((a0.left.take (Int.toNat (a0.left.length : Int))).drop (Int.toNat a1)), a0.bad⟩ : S_cursor_rest) ao16 cap16) := hb2
   refine hK14 _ _ ?_; try clear hK14 K14
   refine wp_seq_k fun K19 hK19 => ?_
   refine wp_region_lit ?_
   refine seg ha 2 [(4, .slice ao13 ((a0.left.take (Int.toNat a1)).drop (Int.toNat (0 : Int))).length cap13)] (by kernel_rfl) fun a ha => ?_
   refine hK19 _ _ ?_; try clear hK19 K19
   refine wp_ret ?_
   try simp only [Exit.then, Exit.inBlock]
   obtain rfl := Option.some.inj H
   refine rt1 ha rfl rfl ?_
   exact ⟨ao13, cap13, ao16, cap16, rfl, f13, f16, hBgp0, hC, hM⟩
 have H := H5
 refine seg ha 3 [(0, .pointer (some ⟨gp0, 0, none⟩)), (1, .int .i64 a1), (8, .pointer (some ⟨gp0, 1, none⟩))] (by kernel_rfl) fun a ha => ?_
 refine ld (v := .bool a0.bad) ha rfl (by kernel_rfl) rfl rfl rfl (hBgp0.cell' (o := 1) rfl (by kernel_rfl)) fun a ha => ?_
 refine seg ha 1 [(10, .bool a0.bad), (0, .pointer (some ⟨gp0, 0, none⟩)), (1, .int .i64 a1)] (by kernel_rfl) fun a ha => ?_
 rcases Bool.eq_false_or_eq_true (a0.bad) with hb20 | hb20
 ·have ha := ha.lit hb20
  have H := ite_t hb20 H
  refine sgh ha 12 [1, 1, 3, 0, 1, 1, 1, 1, 1, 1, 1, 3] [(0, .pointer (some ⟨gp0, 0, none⟩)), (1, .int .i64 a1), (22, .bool true)] (by kernel_rfl) fun a ha => ?_
  obtain rfl := Option.some.inj H
  exact J5 _ _ (ha.sel (by kernel_rfl)) f1 hBgp0 hC hM
 ·have ha := ha.lit hb20
  have H := ite_f hb20 H
  refine sgh ha 4 [2, 2, 4, 0] [(14, .bool (decide (a1 < (0 : Int)))), (0, .pointer (some ⟨gp0, 0, none⟩)), (1, .int .i64 a1)] (by kernel_rfl) fun a ha => ?_
  rcases Bool.eq_false_or_eq_true (decide (a1 < (0 : Int))) with hb21 | hb21
  ·have ha := ha.lit hb21
   have H := ite_t hb21 H
   refine sgh ha 8 [1, 1, 1, 1, 1, 1, 1, 3] [(0, .pointer (some ⟨gp0, 0, none⟩)), (1, .int .i64 a1), (22, .bool true)] (by kernel_rfl) fun a ha => ?_
   obtain rfl := Option.some.inj H
   exact J5 _ _ (ha.sel (by kernel_rfl)) f1 hBgp0 hC hM
  ·have ha := ha.lit hb21
   have H := ite_f hb21 H
   refine sgh ha 4 [2, 2, 2, 2] [(0, .pointer (some ⟨gp0, 0, none⟩)), (1, .int .i64 a1), (14, .bool false), (15, .int .i64 a1), (18, .pointer (some ⟨gp0, 0, none⟩))] (by kernel_rfl) fun a ha => ?_
   refine ld (v := .slice ao1 a0.left.length cap1) ha rfl (by kernel_rfl) rfl rfl rfl (hBgp0.cell' (o := 0) rfl (by kernel_rfl)) fun a ha => ?_
   refine sgh ha 3 [2, 2, 4] [(0, .pointer (some ⟨gp0, 0, none⟩)), (1, .int .i64 a1), (22, .bool (decide (a1 > (a0.left.length : Int))))] (by kernel_rfl) fun a ha => ?_
   obtain rfl := Option.some.inj H
   exact J5 _ _ (ha.sel (by kernel_rfl)) f1 hBgp0 hC hM
def cursor_Reader_Num.l0 (t8 : List Int × S_cursor_rest) : Nat → Int → Int → Option (Int)
  | 0, _, _ => none
  | kk + 1, x12, x13 => (if (decide (x13 < (t8.1.length : Int))) = true then (if 0 ≤ x13 ∧ x13 < (t8.1.length : Int) then cursor_Reader_Num.l0 t8 kk (IntKind.i64.wrap (BitVec.ofInt IntKind.i64.bits (IntKind.i64.wrap (x12 * 2 ^ (min (8 : Int).toNat IntKind.i64.bits))) ||| BitVec.ofInt IntKind.i64.bits (IntKind.i64.wrap (rd t8.1 x13))).toNat) (IntKind.i64.wrap (x13 + (1 : Int))) else none) else some (x12 : Int))
def cursor_Reader_Num.f (k : Nat) (a0 : S_cursor_Reader) (a1 : Int) : Option (Int × S_cursor_Reader) := ((if (if (decide (a1 < (1 : Int))) = true then true else (decide (a1 > (4 : Int)))) = true then some ((-1 : Int) : Int) else some (a1 : Int))).bind fun s4 => (cursor_rest_next.f a0.rest s4).bind fun t8 => (cursor_Reader_Num.l0 t8 k (0 : Int) (0 : Int)).bind fun s11 => some ((s11 : Int), ((⟨t8.2⟩ : S_cursor_Reader) : S_cursor_Reader))
set_option maxRecDepth 100000 in
theorem cursor_Reader_Num.walk (w : World) (M : List Nat) (hM : MS M w) (gp0 : Nat) (a0 : S_cursor_Reader) (ao1 : Option Addr) (cap1 : Nat) (f1 : RSl (rInt .u8) 5 w M ao1 cap1 a0.rest.left) (hBgp0 : Box w gp0 (cS_cursor_Reader a0 ao1 cap1)) (hg_gp0 : gp0 ∈ M) (a1 : Int) (k : Nat) (r : Int × S_cursor_Reader) (H : cursor_Reader_Num.f k a0 a1 = some r) :
    To Tryd.prog 42 [.pointer (some ⟨gp0, 0, none⟩), .int .i64 a1] w fun v w' => ∃ (ao29 : Option Addr) (cap29 : Nat), v = .int .i64 r.1 ∧ (RSl (rInt .u8) 5 w' (M) ao29 cap29 r.2.rest.left) ∧ (Box w' gp0 (cS_cursor_Reader r.2 ao29 cap29)) ∧ Chg [gp0] w w' ∧ MS (M) w' := by
 unfold cursor_Reader_Num.f at H
 refine ent Tryd.func42 rfl [(0, .pointer (some ⟨gp0, 0, none⟩)), (1, .int .i64 a1)] rfl (by rfl) fun a ha => ?_
 have hC : Chg [gp0] w w := Chg.refl _ _
 refine wp_seq_k fun K2 hK2 => ?_
 refine wp_region_lit ?_
 refine seg ha 1 [(0, .pointer (some ⟨gp0, 0, none⟩)), (1, .int .i64 a1)] (by kernel_rfl) fun a ha => ?_
 refine hK2 _ _ ?_; try clear hK2 K2
 refine wp_seq_k fun K3 hK3 => ?_
 obtain ⟨s4, H4, H⟩ := bind_some H
 have J4 : ∀ (a : Act) (w4 : World), Has a Tryd.f42.ntmps [(0, .pointer (some ⟨gp0, 0, none⟩)), (1, .int .i64 s4)] → (RSl (rInt .u8) 5 w4 (M) ao1 cap1 a0.rest.left) → (Box w4 gp0 (cS_cursor_Reader a0 ao1 cap1)) → (Chg [gp0] w w4) → (MS (M) w4) → K3 a w4 := by
  intro a w4 ha f1 hBgp0 hC hM
  refine hK3 _ _ ?_; try clear hK3 K3
  refine wp_seq_k fun K5 hK5 => ?_
  refine wp_region_lit ?_
  refine seg ha 1 [(0, .pointer (some ⟨gp0, 0, none⟩)), (1, .int .i64 s4), (5, .int .i64 (0 : Int))] (by kernel_rfl) fun a ha => ?_
  refine hK5 _ _ ?_; try clear hK5 K5
  refine wp_seq_k fun K6 hK6 => ?_
  refine wp_seq_k fun K7 hK7 => ?_
  refine wp_region_lit ?_
  refine seg ha 4 [(5, .int .i64 (0 : Int)), (16, .pointer (some ⟨gp0, 0, none⟩)), (17, .int .i64 s4)] (by kernel_rfl) fun a ha => ?_
  obtain ⟨t8, H8, H⟩ := bind_some H
  refine cl ha (by rfl) (by kernel_rfl) (by rfl) (by rfl) (by rfl) (cursor_rest_next.walk w4 _ hM gp0 a0.rest ao1 cap1 f1 hBgp0 (hg_gp0) s4 _ H8) ?_
  rintro _ w8 ⟨ao9, cap9, ao10, cap10, rfl, f9, f10, qhBgp0, hc8, hMn⟩ a ha
  have o1 : Ok [gp0] (M) w4.heap.size := Ok.one (.inl (hg_gp0))
  have o2 : Ok (M) (M) w4.heap.size := (Ok.refl _ _)
  have f1 := f1.chg hc8 o1 o2
  have hM : MS (M) w8 := (hM.chg hc8)
  have hC := hC.trans hc8 (Ok.one (.inl (by simp)))
  have hBgp0 := qhBgp0
  refine seg ha 2 [(5, .int .i64 (0 : Int)), (18, .slice ao9 t8.1.length cap9), (19, .int .i64 (t8.1.length : Int)), (20, .int .i64 (0 : Int))] (by kernel_rfl) fun a ha => ?_
  refine hK7 _ _ ?_; try clear hK7 K7
  refine wp_block ?_
  obtain ⟨s11, H11, H⟩ := bind_some H
  have J11 : ∀ (a : Act) (wx11 : World), Has a Tryd.f42.ntmps [(5, .int .i64 s11)] → (RSl (rInt .u8) 5 wx11 (M) ao10 cap10 t8.2.left) → (Box wx11 gp0 (cS_cursor_Reader (⟨t8.2⟩ : S_cursor_Reader) ao10 cap10)) → (Chg [gp0] w wx11) → (MS (M) wx11) → K6 a wx11 := by
   intro a wx11 ha f10 hBgp0 hC hM
   refine hK6 _ _ ?_; try clear hK6 K6
   refine wp_seq_k fun K14 hK14 => ?_
   refine wp_region_lit ?_
   refine seg ha 2 [(4, .int .i64 s11)] (by kernel_rfl) fun a ha => ?_
   refine hK14 _ _ ?_; try clear hK14 K14
   refine wp_ret ?_
   try simp only [Exit.then, Exit.inBlock]
   obtain rfl := Option.some.inj H
   refine rt1 ha rfl rfl ?_
   exact ⟨ao10, cap10, rfl, f10, hBgp0, hC, hM⟩
  have Hc11 := H
  have H := H11
  refine wp_loop_ghost (fun kk a w11 => ∃ (x12 : Int) (x13 : Int), cursor_Reader_Num.l0 t8 kk x12 x13 = some s11 ∧ Has a Tryd.f42.ntmps [(5, .int .i64 x12), (18, .slice ao9 t8.1.length cap9), (19, .int .i64 (t8.1.length : Int)), (20, .int .i64 x13)] ∧ (RSl (rInt .u8) 5 w11 (M) ao9 cap9 t8.1) ∧ (RSl (rInt .u8) 5 w11 (M) ao10 cap10 t8.2.left) ∧ (Box w11 gp0 (cS_cursor_Reader (⟨t8.2⟩ : S_cursor_Reader) ao10 cap10)) ∧ (Chg [gp0] w w11) ∧ (MS (M) w11)) k ?_ ?_
  ·skip
   exact ⟨(0 : Int), (0 : Int), H, (ha.sel (by kernel_rfl)), f9, f10, hBgp0, hC, hM⟩
  ·rintro kk a w11 ⟨x12, x13, H, ha, f9, f10, hBgp0, hC, hM⟩
   obtain _ | kk := kk
   ·exact nomatch (show none = some _ from H)
   rw [cursor_Reader_Num.l0] at H
   refine wp_seq_k fun K15 hK15 => ?_
   refine wp_region_lit ?_
   refine seg ha 1 [(5, .int .i64 x12), (18, .slice ao9 t8.1.length cap9), (19, .int .i64 (t8.1.length : Int)), (20, .int .i64 x13), (21, .bool (decide (x13 < (t8.1.length : Int))))] (by kernel_rfl) fun a ha => ?_
   refine hK15 _ _ ?_; try clear hK15 K15
   refine wp_seq_k fun K16 hK16 => ?_
   refine cnd ha rfl (fun hc17 => ?_) (fun hc17 => ?_)
   ·have H := ite_t hc17 H
    refine wp_skip ?_
    refine hK16 _ _ ?_; try clear hK16 K16
    refine wp_seq_k fun K18 hK18 => ?_
    refine wp_block ?_
    refine wp_seq_k fun K19 hK19 => ?_
    refine wp_region_lit ?_
    obtain ⟨⟨hx20, hx20'⟩, H⟩ := ite_some H
    refine ix (r := (rInt .u8)) ha (by kernel_rfl) (by kernel_rfl) rfl rfl rfl rfl rfl f9 hx20 hx20' fun a ge21 oe22 cs23 hn26 hR24 hE25 ha => ?_
    rw [rd_get] at hR24
    obtain rfl := hR24
    have hE25 : ∀ j v, ([.int .u8 (rd t8.1 x13)] : List Value)[j]? = some v → w11.cell? ⟨ge21, oe22 + j, none⟩ = some v := hE25
    refine ld ha rfl (by kernel_rfl) rfl rfl rfl (hE25 0 (.int .u8 (rd t8.1 x13)) (by kernel_rfl)) fun a ha => ?_
    refine seg ha 1 [(5, .int .i64 x12), (7, .int .u8 (rd t8.1 x13)), (18, .slice ao9 t8.1.length cap9), (19, .int .i64 (t8.1.length : Int)), (20, .int .i64 x13)] (by kernel_rfl) fun a ha => ?_
    refine hK19 _ _ ?_; try clear hK19 K19
    refine wp_region_lit ?_
    refine seg ha 6 [(5, .int .i64 (IntKind.i64.wrap (BitVec.ofInt IntKind.i64.bits (IntKind.i64.wrap (x12 * 2 ^ (min (8 : Int).toNat IntKind.i64.bits))) ||| BitVec.ofInt IntKind.i64.bits (IntKind.i64.wrap (rd t8.1 x13))).toNat)), (18, .slice ao9 t8.1.length cap9), (19, .int .i64 (t8.1.length : Int)), (20, .int .i64 x13)] (by kernel_rfl) fun a ha => ?_
    refine hK18 _ _ ?_; try clear hK18 K18
    refine wp_region_lit ?_
    refine seg ha 2 [(5, .int .i64 (IntKind.i64.wrap (BitVec.ofInt IntKind.i64.bits (IntKind.i64.wrap (x12 * 2 ^ (min (8 : Int).toNat IntKind.i64.bits))) ||| BitVec.ofInt IntKind.i64.bits (IntKind.i64.wrap (rd t8.1 x13))).toNat)), (18, .slice ao9 t8.1.length cap9), (19, .int .i64 (t8.1.length : Int)), (20, .int .i64 (IntKind.i64.wrap (x13 + (1 : Int))))] (by kernel_rfl) fun a ha => ?_
    exact ⟨kk, Nat.lt_succ_self _, ⟨IntKind.i64.wrap (BitVec.ofInt IntKind.i64.bits (IntKind.i64.wrap (x12 * 2 ^ (min (8 : Int).toNat IntKind.i64.bits))) ||| BitVec.ofInt IntKind.i64.bits (IntKind.i64.wrap (rd t8.1 x13))).toNat, IntKind.i64.wrap (x13 + (1 : Int)), H, (ha.sel (by kernel_rfl)), f9, f10, hBgp0, hC, hM⟩⟩
   ·have H := ite_f hc17 H
    refine wp_exit ?_
    simp only [Exit.then, Exit.inBlock, ↓reduceIte, Nat.reduceEqDiff]
    obtain rfl := Option.some.inj H
    exact J11 _ _ (ha.sel (by kernel_rfl)) f10 hBgp0 hC hM
 have H := H4
 refine wp_seq_k fun K27 hK27 => ?_
 refine wp_region_lit ?_
 refine seg ha 6 [(0, .pointer (some ⟨gp0, 0, none⟩)), (1, .int .i64 a1), (13, .bool (if (decide (a1 < (1 : Int))) = true then true else (decide (a1 > (4 : Int)))))] (by kernel_rfl) fun a ha => ?_
 refine hK27 _ _ ?_; try clear hK27 K27
 refine cnd ha rfl (fun hc28 => ?_) (fun hc28 => ?_)
 ·have H := ite_t hc28 H
  refine wp_region_lit ?_
  refine seg ha 1 [(0, .pointer (some ⟨gp0, 0, none⟩)), (1, .int .i64 (-1 : Int))] (by kernel_rfl) fun a ha => ?_
  obtain rfl := Option.some.inj H
  exact J4 _ _ (ha.sel (by kernel_rfl)) f1 hBgp0 hC hM
 ·have H := ite_f hc28 H
  refine wp_skip ?_
  obtain rfl := Option.some.inj H
  exact J4 _ _ (ha.sel (by kernel_rfl)) f1 hBgp0 hC hM
def cursor_Reader_Take.f (a0 : S_cursor_Reader) (a1 : Int) : Option (List Int × S_cursor_Reader) := (cursor_rest_next.f a0.rest a1).bind fun t4 => (bytes_Clone.f t4.1).bind fun t7 => some ((t7 : List Int), ((⟨t4.2⟩ : S_cursor_Reader) : S_cursor_Reader))
set_option maxRecDepth 100000 in
theorem cursor_Reader_Take.walk (w : World) (M : List Nat) (hM : MS M w) (gp0 : Nat) (a0 : S_cursor_Reader) (ao1 : Option Addr) (cap1 : Nat) (f1 : RSl (rInt .u8) 5 w M ao1 cap1 a0.rest.left) (hBgp0 : Box w gp0 (cS_cursor_Reader a0 ao1 cap1)) (hg_gp0 : gp0 ∈ M) (a1 : Int) (r : List Int × S_cursor_Reader) (H : cursor_Reader_Take.f a0 a1 = some r) :
    To Tryd.prog 44 [.pointer (some ⟨gp0, 0, none⟩), .int .i64 a1] w fun v w' => ∃ (ao9 : Option Addr) (cap9 : Nat) (ao10 : Option Addr) (cap10 : Nat), v = .slice ao9 r.1.length cap9 ∧ (Own (rInt .u8) 5 w' (blkL ao9 ++ (M)) ao9 cap9 r.1) ∧ (RSl (rInt .u8) 5 w' (blkL ao9 ++ (M)) ao10 cap10 r.2.rest.left) ∧ (Box w' gp0 (cS_cursor_Reader r.2 ao10 cap10)) ∧ (∀ x ∈ blkL ao9, w.heap.size ≤ x) ∧ Chg [gp0] w w' ∧ MS (blkL ao9 ++ (M)) w' := by
 unfold cursor_Reader_Take.f at H
 refine ent Tryd.func44 rfl [(0, .pointer (some ⟨gp0, 0, none⟩)), (1, .int .i64 a1)] rfl (by rfl) fun a ha => ?_
 have hC : Chg [gp0] w w := Chg.refl _ _
 refine wp_seq_k fun K2 hK2 => ?_
 refine wp_region_lit ?_
 refine seg ha 1 [(0, .pointer (some ⟨gp0, 0, none⟩)), (1, .int .i64 a1)] (by kernel_rfl) fun a ha => ?_
 refine hK2 _ _ ?_; try clear hK2 K2
 refine wp_seq_k fun K3 hK3 => ?_
 refine wp_region_lit ?_
 refine seg ha 4 [(7, .pointer (some ⟨gp0, 0, none⟩)), (8, .int .i64 a1)] (by kernel_rfl) fun a ha => ?_
 obtain ⟨t4, H4, H⟩ := bind_some H
 refine cl ha (by rfl) (by kernel_rfl) (by rfl) (by rfl) (by rfl) (cursor_rest_next.walk w _ hM gp0 a0.rest ao1 cap1 f1 hBgp0 (hg_gp0) a1 _ H4) ?_
 rintro _ w4 ⟨ao5, cap5, ao6, cap6, rfl, f5, f6, qhBgp0, hc4, hMn⟩ a ha
 have o1 : Ok [gp0] (M) w.heap.size := Ok.one (.inl (hg_gp0))
 have o2 : Ok (M) (M) w.heap.size := (Ok.refl _ _)
 have f1 := f1.chg hc4 o1 o2
 have hM : MS (M) w4 := (hM.chg hc4)
 have hC := hC.trans hc4 (Ok.one (.inl (by simp)))
 have hBgp0 := qhBgp0
 obtain ⟨t7, H7, H⟩ := bind_some H
 refine cl ha (by rfl) (by kernel_rfl) (by rfl) (by rfl) (by rfl) (bytes_Clone.walk w4 _ hM t4.1 ao5 cap5 f5 _ H7) ?_
 rintro _ w7 ⟨ao8, cap8, rfl, f8, ne_i8, hc7, hMn⟩ a ha
 have o1 : Ok [] (M) w4.heap.size := Ok.nil _ _
 have o2 : Ok (blkL ao8 ++ (M)) (M) w4.heap.size := (Ok.app (fun x h => .inr (ne_i8 x h)) (Ok.refl _ _))
 have f5 := f5.chg hc7 o1 o2
 have f6 := f6.chg hc7 o1 o2
 have hBgp0 := hBgp0.chg hc7 (fun h => nomatch h)
 have p_i8_M : ∀ x ∈ blkL ao8, x ∉ M := fun x hx hy => absurd (hM x (hy)) (Nat.not_lt.2 (ne_i8 x hx))
 have e_i8 : ∀ x ∈ blkL ao8, w.heap.size ≤ x := fun x hx => Nat.le_trans hC.size (ne_i8 x hx)
 have hM : MS (blkL ao8 ++ (M)) w7 := (MS.app (fun x h => hMn x (ml h)) (hM.chg hc7))
 have hC := hC.trans hc7 (Ok.nil _ _)
 refine seg ha 1 [(4, .slice ao8 t7.length cap8)] (by kernel_rfl) fun a ha => ?_
 refine hK3 _ _ ?_; try clear hK3 K3
 refine wp_ret ?_
 try simp only [Exit.then, Exit.inBlock]
 obtain rfl := Option.some.inj H
 refine rt1 ha rfl rfl ?_
 exact ⟨ao8, cap8, ao6, cap6, rfl, f8, f6, hBgp0, e_i8, hC, hM⟩
def cursor_rest_Bad.f (a0 : S_cursor_rest) : Option (Bool) := some ((a0.bad : Bool))
set_option maxRecDepth 100000 in
theorem cursor_rest_Bad.walk (w : World) (M : List Nat) (hM : MS M w) (gp0 : Nat) (a0 : S_cursor_rest) (ao1 : Option Addr) (cap1 : Nat) (f1 : RSl (rInt .u8) 5 w M ao1 cap1 a0.left) (hBgp0 : Box w gp0 (cS_cursor_rest a0 ao1 cap1)) (hg_gp0 : gp0 ∈ M) (r : Bool) (H : cursor_rest_Bad.f a0 = some r) :
    To Tryd.prog 47 [.pointer (some ⟨gp0, 0, none⟩)] w fun v w' => v = .bool r ∧ Chg [] w w' ∧ MS (M) w' := by
 unfold cursor_rest_Bad.f at H
 refine ent Tryd.func47 rfl [(0, .pointer (some ⟨gp0, 0, none⟩))] rfl (by rfl) fun a ha => ?_
 have hC : Chg [] w w := Chg.refl _ _
 refine wp_seq_k fun K2 hK2 => ?_
 refine wp_region_lit ?_
 refine seg ha 1 [(0, .pointer (some ⟨gp0, 0, none⟩))] (by kernel_rfl) fun a ha => ?_
 refine hK2 _ _ ?_; try clear hK2 K2
 refine wp_seq_k fun K3 hK3 => ?_
 refine wp_region_lit ?_
 refine seg ha 3 [(5, .pointer (some ⟨gp0, 1, none⟩))] (by kernel_rfl) fun a ha => ?_
 refine ld (v := .bool a0.bad) ha rfl (by kernel_rfl) rfl rfl rfl (hBgp0.cell' (o := 1) rfl (by kernel_rfl)) fun a ha => ?_
 refine seg ha 1 [(2, .bool a0.bad)] (by kernel_rfl) fun a ha => ?_
 refine hK3 _ _ ?_; try clear hK3 K3
 refine wp_ret ?_
 try simp only [Exit.then, Exit.inBlock]
 obtain rfl := Option.some.inj H
 refine rt1 ha rfl rfl ?_
 exact ⟨rfl, hC, hM⟩
/-! rows whose elements lead nowhere but into what is new -/
def freshC (n0 : Nat) (cs : List Value) : Prop := ∀ (ad : Addr) (l c : Nat), Value.slice (some ad) l c ∈ cs → n0 ≤ ad.block
def rFr {α : Type} (r : Rep α) (n0 : Nat) : Rep α where
  sz := r.sz
  R w M cs x := r.R w M cs x ∧ freshC n0 cs
  len h := r.len h.1
  one h := r.one h.1
  chg h a b c := ⟨r.chg h.1 a b c, h.2⟩
theorem fr_raw {n0 : Nat} (x : S_api_Raw) (ao : Option Addr) (cap : Nat) (h : ∀ y ∈ blkL ao, n0 ≤ y) : freshC n0 (cS_api_Raw x ao cap) := by
  intro ad l c hm
  simp [cS_api_Raw] at hm
  obtain ⟨e, _⟩ := hm
  subst e
  exact h ad.block (by simp [blkL])
theorem raw_up {w : World} {M1 M2 : List Nat} {cs : List Value} {x : S_api_Raw} {n0 : Nat} (h : (rFr rS_api_Raw n0).R w M1 cs x) (hM : ∀ y ∈ M2, y ∈ M1 ∨ y < n0) : rS_api_Raw.R w M2 cs x := by
  obtain ⟨h1, h2⟩ := h
  obtain ⟨ao, cap, rfl, f⟩ := rS_api_Raw.open h1
  refine rS_api_Raw.mk x ?_
  obtain ⟨f1, f2, f3⟩ := f
  refine ⟨f1, f2, f3.imp id ?_⟩
  rintro ⟨g, o, cur, fr, rfl, hg, hb, hl⟩
  refine ⟨g, o, cur, fr, rfl, fun hm => ?_, hb, ?_⟩
  · rcases hM g hm with h | h
    · exact hg h
    · have := h2 ⟨g, o, none⟩ x.Value.length cap (by simp [cS_api_Raw])
      simp at this; omega
  · have e := RL_int hl
    rw [e]; exact RL_int_mk _
theorem own_up {w : World} {M1 M2 : List Nat} {ao : Option Addr} {cap : Nat} {xs : List S_api_Raw} {n0 : Nat} (h : Own (rFr rS_api_Raw n0) 61 w M1 ao cap xs) (hM : ∀ y ∈ M2, y ∈ M1 ∨ y < n0) (hb : ∀ y ∈ blkL ao, y ∈ M2) : Own rS_api_Raw 61 w M2 ao cap xs := by
  have key : ∀ (xs : List S_api_Raw) (cs : List Value), RL (rFr rS_api_Raw n0) w M1 cs xs → RL rS_api_Raw w M2 cs xs := by
    intro xs
    induction xs with
    | nil => intro cs h; exact h
    | cons x xs ih =>
      rintro cs ⟨c1, c2, rfl, h1, h2⟩
      exact ⟨c1, c2, rfl, raw_up h1 hM, ih c2 h2⟩
  rcases h with h | ⟨g, cur, rfl, hg, hb', h1, h2, h3, hl⟩
  · exact .inl h
  · exact .inr ⟨g, cur, rfl, hb g (by simp [blkL]), hb', h1, h2, h3, key _ _ hl⟩
def attr_Split.l0 (k : Nat) : Nat → (List S_api_Raw) → (List Int) → Bool → Option ((List S_api_Raw × Int) ⊕ (List S_api_Raw × List Int × Bool))
  | 0, _, _, _ => none
  | kk + 1, x13, x14, x15 => (cursor_rest_Left.f (⟨x14, x15⟩ : S_cursor_rest)).bind fun t22 => (if (decide (t22 > (0 : Int))) = true then (if ((x13.length : Int) == (64 : Int)) = true then some (.inl ((([] : List S_api_Raw) : List S_api_Raw), ((2 : Int) : Int))) else (cursor_Reader_Num.f k (⟨(⟨x14, x15⟩ : S_cursor_rest)⟩ : S_cursor_Reader) (1 : Int)).bind fun t30 => (cursor_Reader_Num.f k t30.2 (1 : Int)).bind fun t33 => ((if ((IntKind.i64.wrap (BitVec.ofInt IntKind.i64.bits t30.1 &&& BitVec.ofInt IntKind.i64.bits (16 : Int)).toNat) != (0 : Int)) = true then some ((2 : Int) : Int) else some ((1 : Int) : Int))).bind fun s43 => (cursor_Reader_Num.f k t33.2 s43).bind fun t45 => (cursor_Reader_Take.f t45.2 t45.1).bind fun t48 => (cursor_rest_Bad.f t48.2.rest).bind fun t55 => (if t55 = true then some (.inl ((([] : List S_api_Raw) : List S_api_Raw), ((3 : Int) : Int))) else (if (x13.length + ([(⟨IntKind.i64.wrap (BitVec.ofInt IntKind.i64.bits t30.1 &&& ~~~ BitVec.ofInt IntKind.i64.bits (16 : Int)).toNat, t33.1, t48.1⟩ : S_api_Raw)] : List S_api_Raw).length) * 40 ≤ 140737488355328 then attr_Split.l0 k kk (x13 ++ ([(⟨IntKind.i64.wrap (BitVec.ofInt IntKind.i64.bits t30.1 &&& ~~~ BitVec.ofInt IntKind.i64.bits (16 : Int)).toNat, t33.1, t48.1⟩ : S_api_Raw)] : List S_api_Raw)) t48.2.rest.left t48.2.rest.bad else none))) else some (.inr ((x13 : List S_api_Raw), (x14 : List Int), (x15 : Bool))))
def attr_Split.f (k : Nat) (a0 : List Int) : Option (List S_api_Raw × Int) := (cursor_Open.f a0).bind fun t6 => (attr_Split.l0 k k ([] : List S_api_Raw) t6.rest.left t6.rest.bad).bind fun s10 => match s10 with | .inl r => some r | .inr s10' => some ((s10'.1 : List S_api_Raw), ((0 : Int) : Int))
set_option maxRecDepth 100000 in
theorem attr_Split.walk (w : World) (M : List Nat) (hM : MS M w) (a0 : List Int) (ao1 : Option Addr) (cap1 : Nat) (f1 : RSl (rInt .u8) 5 w M ao1 cap1 a0) (k : Nat) (r : List S_api_Raw × Int) (H : attr_Split.f k a0 = some r) :
    To Tryd.prog 28 [.slice ao1 a0.length cap1] w fun v w' => ∃ (ao69 : Option Addr) (cap69 : Nat), v = .tuple #[.slice ao69 r.1.length cap69, .int .i64 r.2] ∧ (Own (rFr rS_api_Raw w.heap.size) 61 w' (blkL ao69 ++ (M)) ao69 cap69 r.1) ∧ (∀ x ∈ blkL ao69, w.heap.size ≤ x) ∧ Chg [] w w' ∧ MS (blkL ao69 ++ (M)) w' := by
 unfold attr_Split.f at H
 refine ent Tryd.func28 rfl [(0, .slice ao1 a0.length cap1)] rfl (by rfl) fun a ha => ?_
 have hC : Chg [] w w := Chg.refl _ _
 refine wp_seq_k fun K2 hK2 => ?_
 refine wp_region_lit ?_
 refine seg ha 2 [(0, .slice ao1 a0.length cap1)] (by kernel_rfl) fun a ha => ?_
 refine hK2 _ _ ?_; try clear hK2 K2
 refine wp_seq_k fun K3 hK3 => ?_
 refine wp_region_lit ?_
 refine seg ha 1 [(0, .slice ao1 a0.length cap1), (4, .slice none 0 0)] (by kernel_rfl) fun a ha => ?_
 refine hK3 _ _ ?_; try clear hK3 K3
 refine wp_seq_k fun K4 hK4 => ?_
 refine wp_seq_k fun K5 hK5 => ?_
 refine wp_region_lit ?_
 refine seg ha 1 [(4, .slice none 0 0), (10, .slice ao1 a0.length cap1)] (by kernel_rfl) fun a ha => ?_
 obtain ⟨t6, H6, H⟩ := bind_some H
 refine cl ha (by rfl) (by kernel_rfl) (by rfl) (by rfl) (by rfl) (cursor_Open.walk w _ hM a0 ao1 cap1 f1 _ H6) ?_
 rintro _ w6 ⟨g7, ao9, cap9, rfl, f9, hBg7, ne_i8, hc6, hMn⟩ a ha
 have o1 : Ok [] (M) w.heap.size := Ok.nil _ _
 have o2 : Ok ([g7] ++ (M)) (M) w.heap.size := (Ok.app (fun x h => .inr (ne_i8 x h)) (Ok.refl _ _))
 have f1 := f1.chg hc6 o1 o2
 have p_i8_M : ∀ x ∈ [g7], x ∉ M := fun x hx hy => absurd (hM x (hy)) (Nat.not_lt.2 (ne_i8 x hx))
 have e_i8 : ∀ x ∈ [g7], w.heap.size ≤ x := fun x hx => Nat.le_trans hC.size (ne_i8 x hx)
 have hM : MS ([g7] ++ (M)) w6 := (MS.app (fun x h => hMn x (ml h)) (hM.chg hc6))
 have hC := hC.trans hc6 (Ok.nil _ _)
 refine seg ha 1 [(4, .slice none 0 0), (5, .pointer (some ⟨g7, 0, none⟩))] (by kernel_rfl) fun a ha => ?_
 refine hK5 _ _ ?_; try clear hK5 K5
 refine wp_block ?_
 obtain ⟨s10, H10, H⟩ := bind_some H
 have J10 : ∀ s10' (a : Act) (wx10 : World) (ao16 : Option Addr) (cap16 : Nat) (ao17 : Option Addr) (cap17 : Nat), s10 = .inr s10' → Has a Tryd.f28.ntmps [(4, .slice ao16 s10'.1.length cap16)] → (Own (rFr rS_api_Raw w.heap.size) 61 wx10 (blkL ao16 ++ ([g7] ++ (M))) ao16 cap16 s10'.1) → (RSl (rInt .u8) 5 wx10 (blkL ao16 ++ ([g7] ++ (M))) ao17 cap17 s10'.2.1) → (Box wx10 g7 (cS_cursor_Reader (⟨(⟨s10'.2.1, s10'.2.2⟩ : S_cursor_rest)⟩ : S_cursor_Reader) ao17 cap17)) → (∀ x ∈ blkL ao16, w.heap.size ≤ x) → (∀ x ∈ blkL ao16, x ∉ [g7]) → (∀ x ∈ blkL ao16, x ∉ M) → (Chg [] w wx10) → (MS (blkL ao16 ++ ([g7] ++ (M))) wx10) → K4 a wx10 := by
  intro s10' a wx10 ao16 cap16 ao17 cap17 hs ha f16 f17 hBg7 e_i16 p_i16_i8 p_i16_M hC hM
  subst hs
  refine hK4 _ _ ?_; try clear hK4 K4
  refine wp_seq_k fun K18 hK18 => ?_
  refine wp_region_lit ?_
  refine seg ha 3 [(2, .slice ao16 s10'.1.length cap16), (3, .int .i64 (0 : Int))] (by kernel_rfl) fun a ha => ?_
  refine hK18 _ _ ?_; try clear hK18 K18
  refine wp_ret ?_
  try simp only [Exit.then, Exit.inBlock]
  have o1 : Ok [] (blkL ao16 ++ ([g7] ++ (M))) wx10.heap.size := Ok.nil _ _
  have o2 : Ok (blkL ao16 ++ (M)) (blkL ao16 ++ ([g7] ++ (M))) wx10.heap.size := (Ok.app (fun _ h => .inl (ml h)) (fun _ h => .inl (mr (mr (h)))))
  have f16 := f16.chg (Chg.refl [] _) o1 o2 (fun _ _ h => nomatch h) (fun _ h => ml h)
  have f17 := f17.chg (Chg.refl [] _) o1 o2
  have hM : MS (blkL ao16 ++ (M)) wx10 := (MS.app (fun x h => hM.chg (Chg.refl [] _) x (ml h)) (fun x h => hM.chg (Chg.refl [] _) x (mr (mr (h)))))
  obtain rfl := Option.some.inj H
  refine rt2 ha rfl rfl rfl ?_
  exact ⟨ao16, cap16, rfl, f16, e_i16, hC, hM⟩
 have Hc10 := H
 have H := H10
 refine wp_loop_ghost (fun kk a w10 => ∃ (x13 : List S_api_Raw) (x14 : List Int) (x15 : Bool) (ao11 : Option Addr) (cap11 : Nat) (ao12 : Option Addr) (cap12 : Nat), attr_Split.l0 k kk x13 x14 x15 = some s10 ∧ Has a Tryd.f28.ntmps [(4, .slice ao11 x13.length cap11), (5, .pointer (some ⟨g7, 0, none⟩))] ∧ (Own (rFr rS_api_Raw w.heap.size) 61 w10 (blkL ao11 ++ ([g7] ++ (M))) ao11 cap11 x13) ∧ (RSl (rInt .u8) 5 w10 (blkL ao11 ++ ([g7] ++ (M))) ao12 cap12 x14) ∧ (Box w10 g7 (cS_cursor_Reader (⟨(⟨x14, x15⟩ : S_cursor_rest)⟩ : S_cursor_Reader) ao12 cap12)) ∧ (∀ x ∈ blkL ao11, w.heap.size ≤ x) ∧ (∀ x ∈ blkL ao11, x ∉ [g7]) ∧ (∀ x ∈ blkL ao11, x ∉ M) ∧ (Chg [] w w10) ∧ (MS (blkL ao11 ++ ([g7] ++ (M))) w10)) k ?_ ?_
 ·skip
  have o1 : Ok [] ([g7] ++ (M)) w6.heap.size := Ok.nil _ _
  have o2 : Ok (blkL none ++ ([g7] ++ (M))) ([g7] ++ (M)) w6.heap.size := (Ok.app (fun _ h => nomatch h) (Ok.refl _ _))
  have f9 := f9.chg (Chg.refl [] _) o1 o2
  have p_z19_i8 : ∀ x ∈ blkL none, x ∉ ([g7]) := fun x hx hy => absurd (hM x (ml hy)) (Nat.not_lt.2 ((fun _ h => nomatch h) x hx))
  have p_z19_M : ∀ x ∈ blkL none, x ∉ M := fun x hx hy => absurd (hM x (mr (hy))) (Nat.not_lt.2 ((fun _ h => nomatch h) x hx))
  have e_z19 : ∀ x ∈ blkL none, w.heap.size ≤ x := fun x hx => Nat.le_trans hC.size ((fun _ h => nomatch h) x hx)
  have hM : MS (blkL none ++ ([g7] ++ (M))) w6 := (MS.app (fun _ h => nomatch h) (hM.chg (Chg.refl [] _)))
  exact ⟨([] : List S_api_Raw), t6.rest.left, t6.rest.bad, none, 0, ao9, cap9, H, (ha.sel (by kernel_rfl)), Own.nil, f9, hBg7, e_z19, p_z19_i8, p_z19_M, hC, hM⟩
 ·rintro kk a w10 ⟨x13, x14, x15, ao11, cap11, ao12, cap12, H, ha, f11, f12, hBg7, e_i11, p_i11_i8, p_i11_M, hC, hM⟩
  obtain _ | kk := kk
  ·exact nomatch (show none = some _ from H)
  rw [attr_Split.l0] at H
  refine wp_seq_k fun K20 hK20 => ?_
  refine wp_seq_k fun K21 hK21 => ?_
  refine wp_region_lit ?_
  refine seg ha 3 [(4, .slice ao11 x13.length cap11), (5, .pointer (some ⟨g7, 0, none⟩)), (14, .pointer (some ⟨g7, 0, none⟩))] (by kernel_rfl) fun a ha => ?_
  obtain ⟨t22, H22, H⟩ := bind_some H
  refine cl ha (by rfl) (by kernel_rfl) (by rfl) (by rfl) (by rfl) (cursor_rest_Left.walk w10 _ hM g7 (⟨x14, x15⟩ : S_cursor_rest) ao12 cap12 f12 hBg7 (mr (ml (List.mem_singleton.2 rfl))) _ H22) ?_
  rintro _ w22 ⟨rfl, hc22, hMn⟩ a ha
  have o1 : Ok [] (blkL ao11 ++ ([g7] ++ (M))) w10.heap.size := Ok.nil _ _
  have o2 : Ok (blkL ao11 ++ ([g7] ++ (M))) (blkL ao11 ++ ([g7] ++ (M))) w10.heap.size := (Ok.refl _ _)
  have f11 := f11.chg hc22 o1 o2 (fun _ _ h => nomatch h) (fun _ h => ml h)
  have f12 := f12.chg hc22 o1 o2
  have hBg7 := hBg7.chg hc22 (fun h => nomatch h)
  have hM : MS (blkL ao11 ++ ([g7] ++ (M))) w22 := (hM.chg hc22)
  have hC := hC.trans hc22 (Ok.nil _ _)
  refine seg ha 1 [(4, .slice ao11 x13.length cap11), (5, .pointer (some ⟨g7, 0, none⟩)), (16, .bool (decide (t22 > (0 : Int))))] (by kernel_rfl) fun a ha => ?_
  refine hK21 _ _ ?_; try clear hK21 K21
  refine cnd ha rfl (fun hc23 => ?_) (fun hc23 => ?_)
  ·have H := ite_t hc23 H
   refine wp_skip ?_
   refine hK20 _ _ ?_; try clear hK20 K20
   refine wp_block ?_
   refine wp_seq_k fun K24 hK24 => ?_
   refine wp_seq_k fun K25 hK25 => ?_
   refine wp_region_lit ?_
   refine seg ha 3 [(4, .slice ao11 x13.length cap11), (5, .pointer (some ⟨g7, 0, none⟩)), (19, .bool ((x13.length : Int) == (64 : Int)))] (by kernel_rfl) fun a ha => ?_
   refine hK25 _ _ ?_; try clear hK25 K25
   refine cnd ha rfl (fun hc26 => ?_) (fun hc26 => ?_)
   ·have H := ite_t hc26 H
    refine wp_seq_k fun K27 hK27 => ?_
    refine wp_region_lit ?_
    refine seg ha 2 [(2, .slice none 0 0), (3, .int .i64 (2 : Int))] (by kernel_rfl) fun a ha => ?_
    refine hK27 _ _ ?_; try clear hK27 K27
    refine wp_ret ?_
    try simp only [Exit.then, Exit.inBlock]
    have o1 : Ok [] (blkL ao11 ++ ([g7] ++ (M))) w22.heap.size := Ok.nil _ _
    have o2 : Ok (blkL none ++ (M)) (blkL ao11 ++ ([g7] ++ (M))) w22.heap.size := (Ok.app (fun _ h => nomatch h) (fun _ h => .inl (mr (mr (h)))))
    have f12 := f12.chg (Chg.refl [] _) o1 o2
    have p_z28_M : ∀ x ∈ blkL none, x ∉ M := fun x hx hy => absurd (hM x (mr (mr (hy)))) (Nat.not_lt.2 ((fun _ h => nomatch h) x hx))
    have e_z28 : ∀ x ∈ blkL none, w.heap.size ≤ x := fun x hx => Nat.le_trans hC.size ((fun _ h => nomatch h) x hx)
    have hM : MS (blkL none ++ (M)) w22 := (MS.app (fun _ h => nomatch h) (fun x h => hM.chg (Chg.refl [] _) x (mr (mr (h)))))
    obtain rfl := Option.some.inj H
    have H := (show some _ = some _ from Hc10)
    obtain rfl := Option.some.inj H
    refine rt2 ha rfl rfl rfl ?_
    exact ⟨none, 0, rfl, Own.nil, e_z28, hC, hM⟩
   ·have H := ite_f hc26 H
    refine wp_skip ?_
    refine hK24 _ _ ?_; try clear hK24 K24
    refine wp_seq_k fun K29 hK29 => ?_
    refine wp_region_lit ?_
    refine seg ha 1 [(4, .slice ao11 x13.length cap11), (5, .pointer (some ⟨g7, 0, none⟩)), (20, .pointer (some ⟨g7, 0, none⟩))] (by kernel_rfl) fun a ha => ?_
    obtain ⟨t30, H30, H⟩ := bind_some H
    refine cl ha (by rfl) (by kernel_rfl) (by rfl) (by rfl) (by rfl) (cursor_Reader_Num.walk w22 _ hM g7 (⟨(⟨x14, x15⟩ : S_cursor_rest)⟩ : S_cursor_Reader) ao12 cap12 f12 hBg7 (mr (ml (List.mem_singleton.2 rfl))) (1 : Int) k _ H30) ?_
    rintro _ w30 ⟨ao31, cap31, rfl, f31, qhBg7, hc30, hMn⟩ a ha
    have o1 : Ok [g7] (blkL ao11 ++ ([g7] ++ (M))) w22.heap.size := (fun _ h => .inl (mr (ml h)))
    have o2 : Ok (blkL ao11 ++ ([g7] ++ (M))) (blkL ao11 ++ ([g7] ++ (M))) w22.heap.size := (Ok.refl _ _)
    have f11 := f11.chg hc30 o1 o2 p_i11_i8 (fun _ h => ml h)
    have f12 := f12.chg hc30 o1 o2
    have hM : MS (blkL ao11 ++ ([g7] ++ (M))) w30 := (hM.chg hc30)
    have hC := hC.trans hc30 (fun x h => .inr (e_i8 x h))
    have hBg7 := qhBg7
    refine seg ha 1 [(4, .slice ao11 x13.length cap11), (5, .pointer (some ⟨g7, 0, none⟩)), (6, .int .i64 t30.1)] (by kernel_rfl) fun a ha => ?_
    refine hK29 _ _ ?_; try clear hK29 K29
    refine wp_seq_k fun K32 hK32 => ?_
    refine wp_region_lit ?_
    refine seg ha 3 [(4, .slice ao11 x13.length cap11), (5, .pointer (some ⟨g7, 0, none⟩)), (6, .int .i64 t30.1), (23, .int .i64 (IntKind.i64.wrap (BitVec.ofInt IntKind.i64.bits t30.1 &&& ~~~ BitVec.ofInt IntKind.i64.bits (16 : Int)).toNat)), (24, .pointer (some ⟨g7, 0, none⟩))] (by kernel_rfl) fun a ha => ?_
    obtain ⟨t33, H33, H⟩ := bind_some H
    refine cl ha (by rfl) (by kernel_rfl) (by rfl) (by rfl) (by rfl) (cursor_Reader_Num.walk w30 _ hM g7 t30.2 ao31 cap31 f31 hBg7 (mr (ml (List.mem_singleton.2 rfl))) (1 : Int) k _ H33) ?_
    rintro _ w33 ⟨ao34, cap34, rfl, f34, qhBg7, hc33, hMn⟩ a ha
    have o1 : Ok [g7] (blkL ao11 ++ ([g7] ++ (M))) w30.heap.size := (fun _ h => .inl (mr (ml h)))
    have o2 : Ok (blkL ao11 ++ ([g7] ++ (M))) (blkL ao11 ++ ([g7] ++ (M))) w30.heap.size := (Ok.refl _ _)
    have f11 := f11.chg hc33 o1 o2 p_i11_i8 (fun _ h => ml h)
    have f31 := f31.chg hc33 o1 o2
    have hM : MS (blkL ao11 ++ ([g7] ++ (M))) w33 := (hM.chg hc33)
    have hC := hC.trans hc33 (fun x h => .inr (e_i8 x h))
    have hBg7 := qhBg7
    refine opk (v := .agg (cS_api_Raw (⟨IntKind.i64.wrap (BitVec.ofInt IntKind.i64.bits t30.1 &&& ~~~ BitVec.ofInt IntKind.i64.bits (16 : Int)).toNat, t33.1, ([] : List Int)⟩ : S_api_Raw) none 0).toArray) ha rfl rfl rfl rfl rfl (fun w => by kernel_rfl) fun a ha => ?_
    refine al (cs := (cS_api_Raw (⟨(0 : Int), (0 : Int), ([] : List Int)⟩ : S_api_Raw) none 0)) (z := .agg (cS_api_Raw (⟨(0 : Int), (0 : Int), ([] : List Int)⟩ : S_api_Raw) none 0).toArray) ha (fun w => by kernel_rfl) rfl rfl rfl rfl fun a w35 g36 hN37 ha => ?_
    have o1 : Ok [] (blkL ao11 ++ ([g7] ++ (M))) w33.heap.size := Ok.nil _ _
    have o2 : Ok ([g36] ++ (blkL ao11 ++ ([g7] ++ (M)))) (blkL ao11 ++ ([g7] ++ (M))) w33.heap.size := (Ok.app (hN37.ok _) (Ok.refl _ _))
    have f11 := f11.chg hN37.chg o1 o2 (fun _ _ h => nomatch h) (fun _ h => mr (ml h))
    have f34 := f34.chg hN37.chg o1 o2
    have hBg7 := hBg7.chg hN37.chg (fun h => nomatch h)
    have p_i38_i11 : ∀ x ∈ [g36], x ∉ (blkL ao11) := fun x hx hy => absurd (hM x (ml hy)) (Nat.not_lt.2 ((hN37.ge1) x hx))
    have p_i38_i8 : ∀ x ∈ [g36], x ∉ ([g7]) := fun x hx hy => absurd (hM x (mr (ml hy))) (Nat.not_lt.2 ((hN37.ge1) x hx))
    have p_i38_M : ∀ x ∈ [g36], x ∉ M := fun x hx hy => absurd (hM x (mr (mr (hy)))) (Nat.not_lt.2 ((hN37.ge1) x hx))
    have e_i38 : ∀ x ∈ [g36], w.heap.size ≤ x := fun x hx => Nat.le_trans hC.size ((hN37.ge1) x hx)
    have hM : MS ([g36] ++ (blkL ao11 ++ ([g7] ++ (M)))) w35 := (MS.app hN37.ms (hM.chg hN37.chg))
    have hC := hC.trans hN37.chg (Ok.nil _ _)
    have hBg36 : Box w35 g36 (cS_api_Raw (⟨(0 : Int), (0 : Int), ([] : List Int)⟩ : S_api_Raw) none 0) := hN37.box
    refine stA (l := (cS_api_Raw (⟨IntKind.i64.wrap (BitVec.ofInt IntKind.i64.bits t30.1 &&& ~~~ BitVec.ofInt IntKind.i64.bits (16 : Int)).toNat, t33.1, ([] : List Int)⟩ : S_api_Raw) none 0)) ha rfl rfl rfl (by kernel_rfl) rfl rfl hBg36 rfl fun a w39 ha hb2 hc40 _ => ?_
    have o1 : Ok [g36] ([g36] ++ (blkL ao11 ++ ([g7] ++ (M)))) w35.heap.size := (fun _ h => .inl (ml h))
    have o2 : Ok ([g36] ++ (blkL ao11 ++ ([g7] ++ (M)))) ([g36] ++ (blkL ao11 ++ ([g7] ++ (M)))) w35.heap.size := (Ok.refl _ _)
    have f11 := f11.chg hc40 o1 o2 (fun x (hx : x ∈ blkL ao11) (hy : x ∈ [g36]) => p_i38_i11 x hy hx) (fun _ h => mr (ml h))
    have f34 := f34.chg hc40 o1 o2
    have hBg7 := hBg7.chg hc40 ((fun x (hx : x ∈ [g7]) (hy : x ∈ [g36]) => p_i38_i8 x hy hx) g7 (by simp))
    have hM : MS ([g36] ++ (blkL ao11 ++ ([g7] ++ (M)))) w39 := (hM.chg hc40)
    have hC := hC.trans hc40 (fun x h => .inr (e_i38 x h))
    have hBg36 : Box w39 g36 (cS_api_Raw (⟨IntKind.i64.wrap (BitVec.ofInt IntKind.i64.bits t30.1 &&& ~~~ BitVec.ofInt IntKind.i64.bits (16 : Int)).toNat, t33.1, ([] : List Int)⟩ : S_api_Raw) none 0) := hb2
    refine hK32 _ _ ?_; try clear hK32 K32
    refine wp_seq_k fun K41 hK41 => ?_
    refine wp_region_lit ?_
    refine seg ha 1 [(4, .slice ao11 x13.length cap11), (5, .pointer (some ⟨g7, 0, none⟩)), (6, .int .i64 t30.1), (7, .pointer (some ⟨g36, 0, none⟩)), (8, .int .i64 (1 : Int))] (by kernel_rfl) fun a ha => ?_
    refine hK41 _ _ ?_; try clear hK41 K41
    refine wp_seq_k fun K42 hK42 => ?_
    obtain ⟨s43, H43, H⟩ := bind_some H
    have J43 : ∀ (a : Act) (w43 : World), Has a Tryd.f28.ntmps [(4, .slice ao11 x13.length cap11), (5, .pointer (some ⟨g7, 0, none⟩)), (7, .pointer (some ⟨g36, 0, none⟩)), (8, .int .i64 s43)] → (Own (rFr rS_api_Raw w.heap.size) 61 w43 ([g36] ++ (blkL ao11 ++ ([g7] ++ (M)))) ao11 cap11 x13) → (RSl (rInt .u8) 5 w43 ([g36] ++ (blkL ao11 ++ ([g7] ++ (M)))) ao34 cap34 t33.2.rest.left) → (Box w43 g7 (cS_cursor_Reader t33.2 ao34 cap34)) → (Box w43 g36 (cS_api_Raw (⟨IntKind.i64.wrap (BitVec.ofInt IntKind.i64.bits t30.1 &&& ~~~ BitVec.ofInt IntKind.i64.bits (16 : Int)).toNat, t33.1, ([] : List Int)⟩ : S_api_Raw) none 0)) → (Chg [] w w43) → (MS ([g36] ++ (blkL ao11 ++ ([g7] ++ (M)))) w43) → K42 a w43 := by
     intro a w43 ha f11 f34 hBg7 hBg36 hC hM
     refine hK42 _ _ ?_; try clear hK42 K42
     refine wp_seq_k fun K44 hK44 => ?_
     refine wp_region_lit ?_
     refine seg ha 2 [(4, .slice ao11 x13.length cap11), (5, .pointer (some ⟨g7, 0, none⟩)), (7, .pointer (some ⟨g36, 0, none⟩)), (30, .pointer (some ⟨g7, 0, none⟩)), (31, .int .i64 s43)] (by kernel_rfl) fun a ha => ?_
     obtain ⟨t45, H45, H⟩ := bind_some H
     refine cl ha (by rfl) (by kernel_rfl) (by rfl) (by rfl) (by rfl) (cursor_Reader_Num.walk w43 _ hM g7 t33.2 ao34 cap34 f34 hBg7 (mr (mr (ml (List.mem_singleton.2 rfl)))) s43 k _ H45) ?_
     rintro _ w45 ⟨ao46, cap46, rfl, f46, qhBg7, hc45, hMn⟩ a ha
     have o1 : Ok [g7] ([g36] ++ (blkL ao11 ++ ([g7] ++ (M)))) w43.heap.size := (fun _ h => .inl (mr (mr (ml h))))
     have o2 : Ok ([g36] ++ (blkL ao11 ++ ([g7] ++ (M)))) ([g36] ++ (blkL ao11 ++ ([g7] ++ (M)))) w43.heap.size := (Ok.refl _ _)
     have f11 := f11.chg hc45 o1 o2 p_i11_i8 (fun _ h => mr (ml h))
     have f34 := f34.chg hc45 o1 o2
     have hBg36 := hBg36.chg hc45 (p_i38_i8 g36 (by simp))
     have hM : MS ([g36] ++ (blkL ao11 ++ ([g7] ++ (M)))) w45 := (hM.chg hc45)
     have hC := hC.trans hc45 (fun x h => .inr (e_i8 x h))
     have hBg7 := qhBg7
     refine seg ha 1 [(4, .slice ao11 x13.length cap11), (5, .pointer (some ⟨g7, 0, none⟩)), (7, .pointer (some ⟨g36, 0, none⟩)), (9, .int .i64 t45.1)] (by kernel_rfl) fun a ha => ?_
     refine hK44 _ _ ?_; try clear hK44 K44
     refine wp_seq_k fun K47 hK47 => ?_
     refine wp_region_lit ?_
     refine seg ha 2 [(4, .slice ao11 x13.length cap11), (5, .pointer (some ⟨g7, 0, none⟩)), (7, .pointer (some ⟨g36, 0, none⟩)), (33, .pointer (some ⟨g7, 0, none⟩)), (34, .int .i64 t45.1)] (by kernel_rfl) fun a ha => ?_
     obtain ⟨t48, H48, H⟩ := bind_some H
     refine cl ha (by rfl) (by kernel_rfl) (by rfl) (by rfl) (by rfl) (cursor_Reader_Take.walk w45 _ hM g7 t45.2 ao46 cap46 f46 hBg7 (mr (mr (ml (List.mem_singleton.2 rfl)))) t45.1 _ H48) ?_
     rintro _ w48 ⟨ao49, cap49, ao50, cap50, rfl, f49, f50, qhBg7, ne_i49, hc48, hMn⟩ a ha
     have o1 : Ok [g7] ([g36] ++ (blkL ao11 ++ ([g7] ++ (M)))) w45.heap.size := (fun _ h => .inl (mr (mr (ml h))))
     have o2 : Ok (blkL ao49 ++ ([g36] ++ (blkL ao11 ++ ([g7] ++ (M))))) ([g36] ++ (blkL ao11 ++ ([g7] ++ (M)))) w45.heap.size := (Ok.app (fun x h => .inr (ne_i49 x h)) (Ok.refl _ _))
     have f11 := f11.chg hc48 o1 o2 p_i11_i8 (fun _ h => mr (mr (ml h)))
     have f46 := f46.chg hc48 o1 o2
     have hBg36 := hBg36.chg hc48 (p_i38_i8 g36 (by simp))
     have p_i49_i38 : ∀ x ∈ blkL ao49, x ∉ ([g36]) := fun x hx hy => absurd (hM x (ml hy)) (Nat.not_lt.2 (ne_i49 x hx))
     have p_i49_i11 : ∀ x ∈ blkL ao49, x ∉ (blkL ao11) := fun x hx hy => absurd (hM x (mr (ml hy))) (Nat.not_lt.2 (ne_i49 x hx))
     have p_i49_i8 : ∀ x ∈ blkL ao49, x ∉ ([g7]) := fun x hx hy => absurd (hM x (mr (mr (ml hy)))) (Nat.not_lt.2 (ne_i49 x hx))
     have p_i49_M : ∀ x ∈ blkL ao49, x ∉ M := fun x hx hy => absurd (hM x (mr (mr (mr (hy))))) (Nat.not_lt.2 (ne_i49 x hx))
     have e_i49 : ∀ x ∈ blkL ao49, w.heap.size ≤ x := fun x hx => Nat.le_trans hC.size (ne_i49 x hx)
     have hM : MS (blkL ao49 ++ ([g36] ++ (blkL ao11 ++ ([g7] ++ (M))))) w48 := (MS.app (fun x h => hMn x (ml h)) (hM.chg hc48))
     have hC := hC.trans hc48 (fun x h => .inr (e_i8 x h))
     have hBg7 := qhBg7
     refine seg ha 1 [(4, .slice ao11 x13.length cap11), (5, .pointer (some ⟨g7, 0, none⟩)), (7, .pointer (some ⟨g36, 0, none⟩)), (35, .slice ao49 t48.1.length cap49), (36, .pointer (some ⟨g36, 2, none⟩))] (by kernel_rfl) fun a ha => ?_
     refine st ha rfl rfl rfl (by kernel_rfl) rfl rfl hBg36 (Nat.le_of_ble_eq_true (by kernel_rfl)) fun a w51 ha hb2 hc52 _ => ?_
     have o1 : Ok [g36] (blkL ao49 ++ ([g36] ++ (blkL ao11 ++ ([g7] ++ (M))))) w48.heap.size := (fun _ h => .inl (mr (ml h)))
     have o2 : Ok (blkL ao49 ++ ([g36] ++ (blkL ao11 ++ ([g7] ++ (M))))) (blkL ao49 ++ ([g36] ++ (blkL ao11 ++ ([g7] ++ (M))))) w48.heap.size := (Ok.refl _ _)
     have f11 := f11.chg hc52 o1 o2 (fun x (hx : x ∈ blkL ao11) (hy : x ∈ [g36]) => p_i38_i11 x hy hx) (fun _ h => mr (mr (ml h)))
     have f49 := f49.chg hc52 o1 o2 p_i49_i38 (fun _ h => ml h)
     have f50 := f50.chg hc52 o1 o2
     have hBg7 := hBg7.chg hc52 ((fun x (hx : x ∈ [g7]) (hy : x ∈ [g36]) => p_i38_i8 x hy hx) g7 (by simp))
     have hM : MS (blkL ao49 ++ ([g36] ++ (blkL ao11 ++ ([g7] ++ (M))))) w51 := (hM.chg hc52)
     have hC := hC.trans hc52 (fun x h => .inr (e_i38 x h))
     have hBg36 : Box w51 g36 (cS_api_Raw (⟨IntKind.i64.wrap (BitVec.ofInt IntKind.i64.bits t30.1 &&& ~~~ BitVec.ofInt IntKind.i64.bits (16 : Int)).toNat, t33.1, t48.1⟩ : S_api_Raw) ao49 cap49) := hb2
     refine hK47 _ _ ?_; try clear hK47 K47
     refine wp_seq_k fun K53 hK53 => ?_
     refine wp_seq_k fun K54 hK54 => ?_
     refine wp_region_lit ?_
     refine seg ha 3 [(4, .slice ao11 x13.length cap11), (5, .pointer (some ⟨g7, 0, none⟩)), (7, .pointer (some ⟨g36, 0, none⟩)), (39, .pointer (some ⟨g7, 0, none⟩))] (by kernel_rfl) fun a ha => ?_
     obtain ⟨t55, H55, H⟩ := bind_some H
     refine cl ha (by rfl) (by kernel_rfl) (by rfl) (by rfl) (by rfl) (cursor_rest_Bad.walk w51 _ hM g7 t48.2.rest ao50 cap50 f50 hBg7 (mr (mr (mr (ml (List.mem_singleton.2 rfl))))) _ H55) ?_
     rintro _ w55 ⟨rfl, hc55, hMn⟩ a ha
     have o1 : Ok [] (blkL ao49 ++ ([g36] ++ (blkL ao11 ++ ([g7] ++ (M))))) w51.heap.size := Ok.nil _ _
     have o2 : Ok (blkL ao49 ++ ([g36] ++ (blkL ao11 ++ ([g7] ++ (M))))) (blkL ao49 ++ ([g36] ++ (blkL ao11 ++ ([g7] ++ (M))))) w51.heap.size := (Ok.refl _ _)
     have f11 := f11.chg hc55 o1 o2 (fun _ _ h => nomatch h) (fun _ h => mr (mr (ml h)))
     have f50 := f50.chg hc55 o1 o2
     have f49 := f49.chg hc55 o1 o2 (fun _ _ h => nomatch h) (fun _ h => ml h)
     have hBg7 := hBg7.chg hc55 (fun h => nomatch h)
     have hBg36 := hBg36.chg hc55 (fun h => nomatch h)
     have hM : MS (blkL ao49 ++ ([g36] ++ (blkL ao11 ++ ([g7] ++ (M))))) w55 := (hM.chg hc55)
     have hC := hC.trans hc55 (Ok.nil _ _)
     refine hK54 _ _ ?_; try clear hK54 K54
     refine cnd ha rfl (fun hc56 => ?_) (fun hc56 => ?_)
     ·have H := ite_t hc56 H
      refine wp_seq_k fun K57 hK57 => ?_
      refine wp_region_lit ?_
      refine seg ha 2 [(2, .slice none 0 0), (3, .int .i64 (3 : Int))] (by kernel_rfl) fun a ha => ?_
      refine hK57 _ _ ?_; try clear hK57 K57
      refine wp_ret ?_
      try simp only [Exit.then, Exit.inBlock]
      have o1 : Ok [] (blkL ao49 ++ ([g36] ++ (blkL ao11 ++ ([g7] ++ (M))))) w55.heap.size := Ok.nil _ _
      have o2 : Ok (blkL none ++ (M)) (blkL ao49 ++ ([g36] ++ (blkL ao11 ++ ([g7] ++ (M))))) w55.heap.size := (Ok.app (fun _ h => nomatch h) (fun _ h => .inl (mr (mr (mr (mr (h)))))))
      have f50 := f50.chg (Chg.refl [] _) o1 o2
      have p_z58_M : ∀ x ∈ blkL none, x ∉ M := fun x hx hy => absurd (hM x (mr (mr (mr (mr (hy)))))) (Nat.not_lt.2 ((fun _ h => nomatch h) x hx))
      have e_z58 : ∀ x ∈ blkL none, w.heap.size ≤ x := fun x hx => Nat.le_trans hC.size ((fun _ h => nomatch h) x hx)
      have hM : MS (blkL none ++ (M)) w55 := (MS.app (fun _ h => nomatch h) (fun x h => hM.chg (Chg.refl [] _) x (mr (mr (mr (mr (h)))))))
      obtain rfl := Option.some.inj H
      have H := (show some _ = some _ from Hc10)
      obtain rfl := Option.some.inj H
      refine rt2 ha rfl rfl rfl ?_
      exact ⟨none, 0, rfl, Own.nil, e_z58, hC, hM⟩
     ·have H := ite_f hc56 H
      refine wp_skip ?_
      refine hK53 _ _ ?_; try clear hK53 K53
      refine wp_region_lit ?_
      refine seg ha 1 [(5, .pointer (some ⟨g7, 0, none⟩)), (7, .pointer (some ⟨g36, 0, none⟩)), (41, .slice ao11 x13.length cap11)] (by kernel_rfl) fun a ha => ?_
      refine ldA (cs := (cS_api_Raw (⟨IntKind.i64.wrap (BitVec.ofInt IntKind.i64.bits t30.1 &&& ~~~ BitVec.ofInt IntKind.i64.bits (16 : Int)).toNat, t33.1, t48.1⟩ : S_api_Raw) ao49 cap49)) ha rfl (by kernel_rfl) rfl rfl rfl (cells_sub (Box.cells hBg36) (all := (cS_api_Raw (⟨IntKind.i64.wrap (BitVec.ofInt IntKind.i64.bits t30.1 &&& ~~~ BitVec.ofInt IntKind.i64.bits (16 : Int)).toNat, t33.1, t48.1⟩ : S_api_Raw) ao49 cap49)) [] [] (by kernel_rfl)) fun a ha => ?_
      have fz := f49.toRSl (M' := [g36] ++ (blkL ao11 ++ ([g7] ++ (M)))) (fun _ h => .inl (mr (h))) (fun x hx hm => (List.mem_append.1 hm).elim (fun h => p_i49_i38 x hx h) (fun h => (List.mem_append.1 h).elim (fun h => p_i49_i11 x hx h) (fun h => (List.mem_append.1 h).elim (fun h => p_i49_i8 x hx h) (fun h => p_i49_M x hx h))))
      have o1 : Ok [] (blkL ao49 ++ ([g36] ++ (blkL ao11 ++ ([g7] ++ (M))))) w55.heap.size := Ok.nil _ _
      have o2 : Ok ([g36] ++ (blkL ao11 ++ ([g7] ++ (M)))) (blkL ao49 ++ ([g36] ++ (blkL ao11 ++ ([g7] ++ (M))))) w55.heap.size := (fun _ h => .inl (mr (h)))
      have f11 := f11.chg (Chg.refl [] _) o1 o2 (fun _ _ h => nomatch h) (fun _ h => mr (ml h))
      have f50 := f50.chg (Chg.refl [] _) o1 o2
      have hM : MS ([g36] ++ (blkL ao11 ++ ([g7] ++ (M)))) w55 := (fun x h => hM.chg (Chg.refl [] _) x (mr (h)))
      have f49 := fz
      refine bslA (vals := ([.agg (cS_api_Raw (⟨IntKind.i64.wrap (BitVec.ofInt IntKind.i64.bits t30.1 &&& ~~~ BitVec.ofInt IntKind.i64.bits (16 : Int)).toNat, t33.1, t48.1⟩ : S_api_Raw) ao49 cap49).toArray] : List Value)) (T := 61) (z := .agg (cS_api_Raw (⟨(0 : Int), (0 : Int), ([] : List Int)⟩ : S_api_Raw) none 0).toArray) ha rfl (by kernel_rfl) rfl (by kernel_rfl) (s := 3) (by kernel_rfl) rfl rfl (fun w => by kernel_rfl) (by kernel_rfl) rfl rfl rfl fun a w59 g60 hN61 ha => ?_
      have hN61 := (show New _ _ _ (.cells (((cS_api_Raw (⟨IntKind.i64.wrap (BitVec.ofInt IntKind.i64.bits t30.1 &&& ~~~ BitVec.ofInt IntKind.i64.bits (16 : Int)).toNat, t33.1, t48.1⟩ : S_api_Raw) ao49 cap49) ++ ([] : List Value))).toArray 61 (0, 0)) from hN61)
      have o1 : Ok [] ([g36] ++ (blkL ao11 ++ ([g7] ++ (M)))) w55.heap.size := Ok.nil _ _
      have o2 : Ok ([g60] ++ ([g36] ++ (blkL ao11 ++ ([g7] ++ (M))))) ([g36] ++ (blkL ao11 ++ ([g7] ++ (M)))) w55.heap.size := (Ok.app (hN61.ok _) (Ok.refl _ _))
      have f11 := f11.chg hN61.chg o1 o2 (fun _ _ h => nomatch h) (fun _ h => mr (mr (ml h)))
      have f49 := f49.chg hN61.chg o1 o2
      have f50 := f50.chg hN61.chg o1 o2
      have hBg7 := hBg7.chg hN61.chg (fun h => nomatch h)
      have hBg36 := hBg36.chg hN61.chg (fun h => nomatch h)
      have p_i62_i38 : ∀ x ∈ [g60], x ∉ ([g36]) := fun x hx hy => absurd (hM x (ml hy)) (Nat.not_lt.2 ((hN61.ge1) x hx))
      have p_i62_i11 : ∀ x ∈ [g60], x ∉ (blkL ao11) := fun x hx hy => absurd (hM x (mr (ml hy))) (Nat.not_lt.2 ((hN61.ge1) x hx))
      have p_i62_i8 : ∀ x ∈ [g60], x ∉ ([g7]) := fun x hx hy => absurd (hM x (mr (mr (ml hy)))) (Nat.not_lt.2 ((hN61.ge1) x hx))
      have p_i62_M : ∀ x ∈ [g60], x ∉ M := fun x hx hy => absurd (hM x (mr (mr (mr (hy))))) (Nat.not_lt.2 ((hN61.ge1) x hx))
      have e_i62 : ∀ x ∈ [g60], w.heap.size ≤ x := fun x hx => Nat.le_trans hC.size ((hN61.ge1) x hx)
      have hM : MS ([g60] ++ ([g36] ++ (blkL ao11 ++ ([g7] ++ (M))))) w59 := (MS.app hN61.ms (hM.chg hN61.chg))
      have hC := hC.trans hN61.chg (Ok.nil _ _)
      have f63 : Own (rFr rS_api_Raw w.heap.size) 61 w59 ([g60] ++ ([g36] ++ (blkL ao11 ++ ([g7] ++ (M))))) (some ⟨g60, 0, none⟩) 1 ([(⟨IntKind.i64.wrap (BitVec.ofInt IntKind.i64.bits t30.1 &&& ~~~ BitVec.ofInt IntKind.i64.bits (16 : Int)).toNat, t33.1, t48.1⟩ : S_api_Raw)] : List S_api_Raw) := hN61.own ⟨(cS_api_Raw (⟨IntKind.i64.wrap (BitVec.ofInt IntKind.i64.bits t30.1 &&& ~~~ BitVec.ofInt IntKind.i64.bits (16 : Int)).toNat, t33.1, t48.1⟩ : S_api_Raw) ao49 cap49), _, rfl, ⟨rS_api_Raw.mk (⟨IntKind.i64.wrap (BitVec.ofInt IntKind.i64.bits t30.1 &&& ~~~ BitVec.ofInt IntKind.i64.bits (16 : Int)).toNat, t33.1, t48.1⟩ : S_api_Raw) f49, fr_raw _ _ _ e_i49⟩, rfl⟩ (Nat.le_of_ble_eq_true rfl)
      obtain ⟨hx64, H⟩ := ite_some H
      refine app (r := rFr rS_api_Raw w.heap.size) (xs := x13) (ys := ([(⟨IntKind.i64.wrap (BitVec.ofInt IntKind.i64.bits t30.1 &&& ~~~ BitVec.ofInt IntKind.i64.bits (16 : Int)).toNat, t33.1, t48.1⟩ : S_api_Raw)] : List S_api_Raw)) ha (ElemT.mk' (bytes := 40) (by kernel_rfl)) rfl rfl rfl rfl rfl f11 f63.src hx64 (by decide) fun a w65 ao66 cap66 hO66 hc66 hk66 hl66 ha => ?_
      have o1 : Ok (blkL ao11) ([g60] ++ ([g36] ++ (blkL ao11 ++ ([g7] ++ (M))))) w59.heap.size := (fun _ h => .inl (mr (mr (ml h))))
      have o2 : Ok (blkL ao66 ++ ([g60] ++ ([g36] ++ ([g7] ++ (M))))) ([g60] ++ ([g36] ++ (blkL ao11 ++ ([g7] ++ (M))))) w59.heap.size := (Ok.app (Ok.to hk66 (fun _ h => mr (mr (ml h)))) (Ok.app (fun _ h => .inl (ml h)) (Ok.app (fun _ h => .inl (mr (ml h))) (fun _ h => .inl (mr (mr (mr (h))))))))
      have f63 := f63.chg hc66 o1 o2 p_i62_i11 (fun _ h => mr (ml h))
      have f50 := f50.chg hc66 o1 o2
      have f49 := f49.chg hc66 o1 o2
      have hBg7 := hBg7.chg hc66 ((fun x (hx : x ∈ [g7]) (hy : x ∈ blkL ao11) => p_i11_i8 x hy hx) g7 (by simp))
      have hBg36 := hBg36.chg hc66 (p_i38_i11 g36 (by simp))
      have p_i66_i62 : ∀ x ∈ blkL ao66, x ∉ ([g60]) := fun x hx hy => (hk66 x hx).elim (fun h => (fun x hx hy => p_i62_i11 x hy hx) x h hy) (fun h => absurd (hM x (ml hy)) (Nat.not_lt.2 h))
      have p_i66_i38 : ∀ x ∈ blkL ao66, x ∉ ([g36]) := fun x hx hy => (hk66 x hx).elim (fun h => (fun x hx hy => p_i38_i11 x hy hx) x h hy) (fun h => absurd (hM x (mr (ml hy))) (Nat.not_lt.2 h))
      have p_i66_i8 : ∀ x ∈ blkL ao66, x ∉ ([g7]) := fun x hx hy => (hk66 x hx).elim (fun h => p_i11_i8 x h hy) (fun h => absurd (hM x (mr (mr (mr (ml hy))))) (Nat.not_lt.2 h))
      have p_i66_M : ∀ x ∈ blkL ao66, x ∉ M := fun x hx hy => (hk66 x hx).elim (fun h => p_i11_M x h hy) (fun h => absurd (hM x (mr (mr (mr (mr (hy)))))) (Nat.not_lt.2 h))
      have e_i66 : ∀ x ∈ blkL ao66, w.heap.size ≤ x := fun x hx => (hk66 x hx).elim (e_i11 x) (Nat.le_trans hC.size)
      have hM : MS (blkL ao66 ++ ([g60] ++ ([g36] ++ ([g7] ++ (M))))) w65 := (MS.app hl66 (MS.app (fun x h => hM.chg hc66 x (ml h)) (MS.app (fun x h => hM.chg hc66 x (mr (ml h))) (fun x h => hM.chg hc66 x (mr (mr (mr (h))))))))
      have hC := hC.trans hc66 (fun x h => .inr (e_i11 x h))
      have f66 := hO66.chg (M' := blkL ao66 ++ ([g60] ++ ([g36] ++ ([g7] ++ (M))))) (Chg.refl [] _) (Ok.nil _ _) (Ok.app (fun _ h => .inl (ml h)) (Ok.to (Ok.app (fun _ h => .inl (ml h)) (Ok.app (fun _ h => .inl (mr (ml h))) (fun _ h => .inl (mr (mr (mr (h))))))) (fun _ h => mr h))) (fun _ _ h => nomatch h) (fun _ h => ml h)
      refine seg ha 1 [(4, .slice ao66 (x13 ++ ([(⟨IntKind.i64.wrap (BitVec.ofInt IntKind.i64.bits t30.1 &&& ~~~ BitVec.ofInt IntKind.i64.bits (16 : Int)).toNat, t33.1, t48.1⟩ : S_api_Raw)] : List S_api_Raw)).length cap66), (5, .pointer (some ⟨g7, 0, none⟩))] (by kernel_rfl) fun a ha => ?_
      have o1 : Ok [] (blkL ao66 ++ ([g60] ++ ([g36] ++ ([g7] ++ (M))))) w65.heap.size := Ok.nil _ _
      have o2 : Ok (blkL ao66 ++ ([g7] ++ (M))) (blkL ao66 ++ ([g60] ++ ([g36] ++ ([g7] ++ (M))))) w65.heap.size := (Ok.app (fun _ h => .inl (ml h)) (fun _ h => .inl (mr (mr (mr (h))))))
      have f66 := f66.chg (Chg.refl [] _) o1 o2 (fun _ _ h => nomatch h) (fun _ h => ml h)
      have f50 := f50.chg (Chg.refl [] _) o1 o2
      have f49 := f49.chg (Chg.refl [] _) o1 o2
      have hM : MS (blkL ao66 ++ ([g7] ++ (M))) w65 := (MS.app (fun x h => hM.chg (Chg.refl [] _) x (ml h)) (fun x h => hM.chg (Chg.refl [] _) x (mr (mr (mr (h))))))
      exact ⟨kk, Nat.lt_succ_self _, ⟨(x13 ++ ([(⟨IntKind.i64.wrap (BitVec.ofInt IntKind.i64.bits t30.1 &&& ~~~ BitVec.ofInt IntKind.i64.bits (16 : Int)).toNat, t33.1, t48.1⟩ : S_api_Raw)] : List S_api_Raw)), t48.2.rest.left, t48.2.rest.bad, ao66, cap66, ao50, cap50, H, (ha.sel (by kernel_rfl)), f66, f50, hBg7, e_i66, p_i66_i8, p_i66_M, hC, hM⟩⟩
    have H := H43
    refine wp_seq_k fun K67 hK67 => ?_
    refine wp_region_lit ?_
    refine seg ha 3 [(4, .slice ao11 x13.length cap11), (5, .pointer (some ⟨g7, 0, none⟩)), (7, .pointer (some ⟨g36, 0, none⟩)), (8, .int .i64 (1 : Int)), (29, .bool ((IntKind.i64.wrap (BitVec.ofInt IntKind.i64.bits t30.1 &&& BitVec.ofInt IntKind.i64.bits (16 : Int)).toNat) != (0 : Int)))] (by kernel_rfl) fun a ha => ?_
    refine hK67 _ _ ?_; try clear hK67 K67
    refine cnd ha rfl (fun hc68 => ?_) (fun hc68 => ?_)
    ·have H := ite_t hc68 H
     refine wp_region_lit ?_
     refine seg ha 1 [(4, .slice ao11 x13.length cap11), (5, .pointer (some ⟨g7, 0, none⟩)), (7, .pointer (some ⟨g36, 0, none⟩)), (8, .int .i64 (2 : Int))] (by kernel_rfl) fun a ha => ?_
     obtain rfl := Option.some.inj H
     exact J43 _ _ (ha.sel (by kernel_rfl)) f11 f34 hBg7 hBg36 hC hM
    ·have H := ite_f hc68 H
     refine wp_skip ?_
     obtain rfl := Option.some.inj H
     exact J43 _ _ (ha.sel (by kernel_rfl)) f11 f34 hBg7 hBg36 hC hM
  ·have H := ite_f hc23 H
   refine wp_exit ?_
   simp only [Exit.then, Exit.inBlock, ↓reduceIte, Nat.reduceEqDiff]
   obtain rfl := Option.some.inj H
   exact J10 _ _ _ ao11 cap11 ao12 cap12 rfl (ha.sel (by kernel_rfl)) f11 f12 hBg7 e_i11 p_i11_i8 p_i11_M hC hM
def attr_flagsOf.f (a0 : Int) : Option (Int × Bool) := ((if (a0 == (1 : Int)) = true then some (a0 == (1 : Int) : Bool) else (if (a0 == (2 : Int)) = true then some (a0 == (2 : Int) : Bool) else some (a0 == (5 : Int) : Bool)))).bind fun s5 => (if s5 = true then some (((64 : Int) : Int), (true : Bool)) else ((if (a0 == (4 : Int)) = true then some (a0 == (4 : Int) : Bool) else (if (a0 == (9 : Int)) = true then some (a0 == (9 : Int) : Bool) else (if (a0 == (10 : Int)) = true then some (a0 == (10 : Int) : Bool) else (if (a0 == (14 : Int)) = true then some (a0 == (14 : Int) : Bool) else some (a0 == (15 : Int) : Bool)))))).bind fun s9 => (if s9 = true then some (((128 : Int) : Int), (true : Bool)) else ((if (a0 == (16 : Int)) = true then some (a0 == (16 : Int) : Bool) else some (a0 == (22 : Int) : Bool))).bind fun s13 => (if s13 = true then some (((192 : Int) : Int), (true : Bool)) else some (((0 : Int) : Int), (false : Bool)))))
set_option maxRecDepth 100000 in
theorem attr_flagsOf.walk (w : World) (M : List Nat) (hM : MS M w) (a0 : Int) (r : Int × Bool) (H : attr_flagsOf.f a0 = some r) :
    To Tryd.prog 65 [.int .i64 a0] w fun v w' => v = .tuple #[.int .i64 r.1, .bool r.2] ∧ Chg [] w w' ∧ MS (M) w' := by
 unfold attr_flagsOf.f at H
 refine ent Tryd.func65 rfl [(0, .int .i64 a0)] rfl (by rfl) fun a ha => ?_
 have hC : Chg [] w w := Chg.refl _ _
 refine wp_seq_k fun K1 hK1 => ?_
 refine wp_region_lit ?_
 refine seg ha 2 [(0, .int .i64 a0)] (by kernel_rfl) fun a ha => ?_
 refine hK1 _ _ ?_; try clear hK1 K1
 refine wp_seq_k fun K2 hK2 => ?_
 refine wp_seq_k fun K3 hK3 => ?_
 refine wp_region_lit ?_
 refine seg ha 1 [(4, .int .i64 a0)] (by kernel_rfl) fun a ha => ?_
 refine hK3 _ _ ?_; try clear hK3 K3
 refine wp_block ?_
 refine wp_seq_k fun K4 hK4 => ?_
 obtain ⟨s5, H5, H⟩ := bind_some H
 have J5 : ∀ (a : Act) (w5 : World), Has a Tryd.f65.ntmps [(4, .int .i64 a0), (5, .bool s5)] → (Chg [] w w5) → (MS (M) w5) → K4 a w5 := by
  intro a w5 ha hC hM
  refine hK4 _ _ ?_; try clear hK4 K4
  refine cnd ha rfl (fun hc6 => ?_) (fun hc6 => ?_)
  ·have H := ite_t hc6 H
   refine wp_seq_k fun K7 hK7 => ?_
   refine wp_region_lit ?_
   refine seg ha 2 [(2, .int .i64 (64 : Int)), (3, .bool true)] (by kernel_rfl) fun a ha => ?_
   refine hK7 _ _ ?_; try clear hK7 K7
   refine wp_ret ?_
   try simp only [Exit.then, Exit.inBlock]
   obtain rfl := Option.some.inj H
   refine rt2 ha rfl rfl rfl ?_
   exact ⟨rfl, hC, hM⟩
  ·have H := ite_f hc6 H
   refine wp_seq_k fun K8 hK8 => ?_
   obtain ⟨s9, H9, H⟩ := bind_some H
   have J9 : ∀ (a : Act) (w9 : World), Has a Tryd.f65.ntmps [(4, .int .i64 a0), (9, .bool s9)] → (Chg [] w w9) → (MS (M) w9) → K8 a w9 := by
    intro a w9 ha hC hM
    refine hK8 _ _ ?_; try clear hK8 K8
    refine cnd ha rfl (fun hc10 => ?_) (fun hc10 => ?_)
    ·have H := ite_t hc10 H
     refine wp_seq_k fun K11 hK11 => ?_
     refine wp_region_lit ?_
     refine seg ha 2 [(2, .int .i64 (128 : Int)), (3, .bool true)] (by kernel_rfl) fun a ha => ?_
     refine hK11 _ _ ?_; try clear hK11 K11
     refine wp_ret ?_
     try simp only [Exit.then, Exit.inBlock]
     obtain rfl := Option.some.inj H
     refine rt2 ha rfl rfl rfl ?_
     exact ⟨rfl, hC, hM⟩
    ·have H := ite_f hc10 H
     refine wp_seq_k fun K12 hK12 => ?_
     obtain ⟨s13, H13, H⟩ := bind_some H
     have J13 : ∀ (a : Act) (w13 : World), Has a Tryd.f65.ntmps [(15, .bool s13)] → (Chg [] w w13) → (MS (M) w13) → K12 a w13 := by
      intro a w13 ha hC hM
      refine hK12 _ _ ?_; try clear hK12 K12
      refine cnd ha rfl (fun hc14 => ?_) (fun hc14 => ?_)
      ·have H := ite_t hc14 H
       refine wp_seq_k fun K15 hK15 => ?_
       refine wp_region_lit ?_
       refine seg ha 2 [(2, .int .i64 (192 : Int)), (3, .bool true)] (by kernel_rfl) fun a ha => ?_
       refine hK15 _ _ ?_; try clear hK15 K15
       refine wp_ret ?_
       try simp only [Exit.then, Exit.inBlock]
       obtain rfl := Option.some.inj H
       refine rt2 ha rfl rfl rfl ?_
       exact ⟨rfl, hC, hM⟩
      ·have H := ite_f hc14 H
       refine wp_skip ?_
       refine hK2 _ _ ?_; try clear hK2 K2
       refine wp_seq_k fun K16 hK16 => ?_
       refine wp_region_lit ?_
       refine seg ha 2 [(2, .int .i64 (0 : Int)), (3, .bool false)] (by kernel_rfl) fun a ha => ?_
       refine hK16 _ _ ?_; try clear hK16 K16
       refine wp_ret ?_
       try simp only [Exit.then, Exit.inBlock]
       obtain rfl := Option.some.inj H
       refine rt2 ha rfl rfl rfl ?_
       exact ⟨rfl, hC, hM⟩
     have H := H13
     refine wp_seq_k fun K17 hK17 => ?_
     refine wp_region_lit ?_
     refine seg ha 2 [(4, .int .i64 a0), (15, .bool (a0 == (16 : Int)))] (by kernel_rfl) fun a ha => ?_
     refine hK17 _ _ ?_; try clear hK17 K17
     refine cnd ha rfl (fun hc18 => ?_) (fun hc18 => ?_)
     ·have H := ite_t hc18 H
      refine wp_skip ?_
      obtain rfl := Option.some.inj H
      exact J13 _ _ (ha.sel (by kernel_rfl)) hC hM
     ·have H := ite_f hc18 H
      refine wp_region_lit ?_
      refine seg ha 2 [(15, .bool (a0 == (22 : Int)))] (by kernel_rfl) fun a ha => ?_
      obtain rfl := Option.some.inj H
      exact J13 _ _ (ha.sel (by kernel_rfl)) hC hM
   have H := H9
   refine wp_seq_k fun K19 hK19 => ?_
   refine wp_region_lit ?_
   refine seg ha 2 [(4, .int .i64 a0), (9, .bool (a0 == (4 : Int)))] (by kernel_rfl) fun a ha => ?_
   refine hK19 _ _ ?_; try clear hK19 K19
   refine cnd ha rfl (fun hc20 => ?_) (fun hc20 => ?_)
   ·have H := ite_t hc20 H
    refine wp_skip ?_
    obtain rfl := Option.some.inj H
    exact J9 _ _ (ha.sel (by kernel_rfl)) hC hM
   ·have H := ite_f hc20 H
    refine wp_seq_k fun K21 hK21 => ?_
    refine wp_region_lit ?_
    refine seg ha 2 [(4, .int .i64 a0), (9, .bool (a0 == (9 : Int)))] (by kernel_rfl) fun a ha => ?_
    refine hK21 _ _ ?_; try clear hK21 K21
    refine cnd ha rfl (fun hc22 => ?_) (fun hc22 => ?_)
    ·have H := ite_t hc22 H
     refine wp_skip ?_
     obtain rfl := Option.some.inj H
     exact J9 _ _ (ha.sel (by kernel_rfl)) hC hM
    ·have H := ite_f hc22 H
     refine wp_seq_k fun K23 hK23 => ?_
     refine wp_region_lit ?_
     refine seg ha 2 [(4, .int .i64 a0), (9, .bool (a0 == (10 : Int)))] (by kernel_rfl) fun a ha => ?_
     refine hK23 _ _ ?_; try clear hK23 K23
     refine cnd ha rfl (fun hc24 => ?_) (fun hc24 => ?_)
     ·have H := ite_t hc24 H
      refine wp_skip ?_
      obtain rfl := Option.some.inj H
      exact J9 _ _ (ha.sel (by kernel_rfl)) hC hM
     ·have H := ite_f hc24 H
      refine wp_seq_k fun K25 hK25 => ?_
      refine wp_region_lit ?_
      refine seg ha 2 [(4, .int .i64 a0), (9, .bool (a0 == (14 : Int)))] (by kernel_rfl) fun a ha => ?_
      refine hK25 _ _ ?_; try clear hK25 K25
      refine cnd ha rfl (fun hc26 => ?_) (fun hc26 => ?_)
      ·have H := ite_t hc26 H
       refine wp_skip ?_
       obtain rfl := Option.some.inj H
       exact J9 _ _ (ha.sel (by kernel_rfl)) hC hM
      ·have H := ite_f hc26 H
       refine wp_region_lit ?_
       refine seg ha 2 [(4, .int .i64 a0), (9, .bool (a0 == (15 : Int)))] (by kernel_rfl) fun a ha => ?_
       obtain rfl := Option.some.inj H
       exact J9 _ _ (ha.sel (by kernel_rfl)) hC hM
 have H := H5
 refine wp_seq_k fun K27 hK27 => ?_
 refine wp_region_lit ?_
 refine seg ha 2 [(4, .int .i64 a0), (5, .bool (a0 == (1 : Int)))] (by kernel_rfl) fun a ha => ?_
 refine hK27 _ _ ?_; try clear hK27 K27
 refine cnd ha rfl (fun hc28 => ?_) (fun hc28 => ?_)
 ·have H := ite_t hc28 H
  refine wp_skip ?_
  obtain rfl := Option.some.inj H
  exact J5 _ _ (ha.sel (by kernel_rfl)) hC hM
 ·have H := ite_f hc28 H
  refine wp_seq_k fun K29 hK29 => ?_
  refine wp_region_lit ?_
  refine seg ha 2 [(4, .int .i64 a0), (5, .bool (a0 == (2 : Int)))] (by kernel_rfl) fun a ha => ?_
  refine hK29 _ _ ?_; try clear hK29 K29
  refine cnd ha rfl (fun hc30 => ?_) (fun hc30 => ?_)
  ·have H := ite_t hc30 H
   refine wp_skip ?_
   obtain rfl := Option.some.inj H
   exact J5 _ _ (ha.sel (by kernel_rfl)) hC hM
  ·have H := ite_f hc30 H
   refine wp_region_lit ?_
   refine seg ha 2 [(4, .int .i64 a0), (5, .bool (a0 == (5 : Int)))] (by kernel_rfl) fun a ha => ?_
   obtain rfl := Option.some.inj H
   exact J5 _ _ (ha.sel (by kernel_rfl)) hC hM
def attr_table.f (a0 : Int) : Option (Bool) := some ((if (a0 == (14 : Int)) = true then true else (a0 == (15 : Int)) : Bool))
set_option maxRecDepth 100000 in
theorem attr_table.walk (w : World) (M : List Nat) (hM : MS M w) (a0 : Int) (r : Bool) (H : attr_table.f a0 = some r) :
    To Tryd.prog 97 [.int .i64 a0] w fun v w' => v = .bool r ∧ Chg [] w w' ∧ MS (M) w' := by
 unfold attr_table.f at H
 refine ent Tryd.func97 rfl [(0, .int .i64 a0)] rfl (by rfl) fun a ha => ?_
 have hC : Chg [] w w := Chg.refl _ _
 refine wp_seq_k fun K1 hK1 => ?_
 refine wp_region_lit ?_
 refine seg ha 1 [(0, .int .i64 a0)] (by kernel_rfl) fun a ha => ?_
 refine hK1 _ _ ?_; try clear hK1 K1
 refine wp_seq_k fun K2 hK2 => ?_
 refine wp_region_lit ?_
 refine seg ha 7 [(2, .bool (if (a0 == (14 : Int)) = true then true else (a0 == (15 : Int))))] (by kernel_rfl) fun a ha => ?_
 refine hK2 _ _ ?_; try clear hK2 K2
 refine wp_ret ?_
 try simp only [Exit.then, Exit.inBlock]
 obtain rfl := Option.some.inj H
 refine rt1 ha rfl rfl ?_
 exact ⟨rfl, hC, hM⟩
def attr_fits.f (a0 : Int) (a1 : Int) : Option (Bool) := some ((if (a0 == a1) = true then true else (if (a1 == (192 : Int)) = true then (a0 == (224 : Int)) else false) : Bool))
set_option maxRecDepth 100000 in
theorem attr_fits.walk (w : World) (M : List Nat) (hM : MS M w) (a0 : Int) (a1 : Int) (r : Bool) (H : attr_fits.f a0 a1 = some r) :
    To Tryd.prog 99 [.int .i64 a0, .int .i64 a1] w fun v w' => v = .bool r ∧ Chg [] w w' ∧ MS (M) w' := by
 unfold attr_fits.f at H
 refine ent Tryd.func99 rfl [(0, .int .i64 a0), (1, .int .i64 a1)] rfl (by rfl) fun a ha => ?_
 have hC : Chg [] w w := Chg.refl _ _
 refine wp_seq_k fun K1 hK1 => ?_
 refine wp_region_lit ?_
 refine seg ha 1 [(0, .int .i64 a0), (1, .int .i64 a1)] (by kernel_rfl) fun a ha => ?_
 refine hK1 _ _ ?_; try clear hK1 K1
 refine wp_seq_k fun K2 hK2 => ?_
 refine wp_region_lit ?_
 refine seg ha 12 [(4, .bool (if (a0 == a1) = true then true else (if (a1 == (192 : Int)) = true then (a0 == (224 : Int)) else false)))] (by kernel_rfl) fun a ha => ?_
 refine hK2 _ _ ?_; try clear hK2 K2
 refine wp_ret ?_
 try simp only [Exit.then, Exit.inBlock]
 obtain rfl := Option.some.inj H
 refine rt1 ha rfl rfl ?_
 exact ⟨rfl, hC, hM⟩
structure RdS where
  o : Int
  m : Int
  p : Int
  out : Int
  had : List (Int × Bool)
def av3 (o m p : Int) : S_api_Attrs := ⟨o, [], m, p, ⟨0, List.replicate 16 0⟩, [], [], []⟩
def cAt (o m p : Int) : List Value := cS_api_Attrs (av3 o m p) none 0 none 0 none 0 none 0
def cRd (s : RdS) (gm : Nat) : List Value := cAt s.o s.m s.p ++ [.slice none 0 0, .int .i64 s.out, .map (some gm)]
def RdAt (w : World) (g gm : Nat) (s : RdS) : Prop := g ≠ gm ∧ Box w g (cRd s gm) ∧ MapR (kI .i64) kB w gm s.had
theorem RdAt.nil {w w' : World} {g gm : Nat} {s : RdS} (h : RdAt w g gm s) (hc : Chg [] w w') : RdAt w' g gm s :=
  ⟨h.1, h.2.1.chg hc (fun h => nomatch h), h.2.2.chg hc (fun h => nomatch h)⟩
theorem u104 : Tryd.prog.underlying 104 = some (.map 3 4) := by kernel_rfl
theorem K3i : MKey Tryd.prog 3 (kI .i64) := mkey_int (by kernel_rfl)
theorem rd_none (w : World) : To Tryd.prog 76 [] w fun v w' => v = .agg (cAt 0 (-1) (-1)).toArray ∧ Chg [] w w' := by
  refine ent Tryd.func76 rfl [] rfl (by rfl) fun a ha => ?_
  refine wp_seq_k fun K hK => ?_
  refine wp_region_lit ?_
  refine al (cs := cAt 0 0 0) (z := .agg (cAt 0 0 0).toArray) ha (fun w => by kernel_rfl) rfl rfl rfl rfl fun a w2 g hN ha => ?_
  refine seg ha 0 [(0, .pointer (some ⟨g, 0, none⟩))] (by kernel_rfl) fun a ha => ?_
  refine hK _ _ ?_; clear hK K
  refine wp_seq_k fun K hK => ?_
  refine wp_region_lit ?_
  refine opk (v := .agg (cAt 0 (-1) (-1)).toArray) ha rfl rfl rfl rfl rfl (fun w => by kernel_rfl) fun a ha => ?_
  refine stA (l := cAt 0 (-1) (-1)) ha rfl rfl rfl (by kernel_rfl) rfl rfl hN.box rfl fun a w3 ha hb2 hc _ => ?_
  have hB : Box w3 g (cAt 0 (-1) (-1)) := hb2.cast (by kernel_rfl)
  refine wpl_end ?_
  have ha := ha.sel (env' := [(0, .pointer (some ⟨g, 0, none⟩))]) (by kernel_rfl)
  refine hK _ _ ?_; clear hK K
  refine wp_ret ?_
  refine rtr ha (res1 rfl (roA ha rfl hB (by kernel_rfl))) ?_
  exact ⟨rfl, hN.chg.trans hc (Ok.one (.inr hN.ge))⟩
def mxo (s : RdS) (n : Int) : RdS := ⟨s.o, s.m, s.p, if n > s.out then n else s.out, s.had⟩
theorem came_walk (w : World) (g gm : Nat) (s : RdS) (h : RdAt w g gm s) (n : Int) :
    To Tryd.prog 78 [.pointer (some ⟨g, 0, none⟩), .int .i64 n] w fun v w' => v = .tuple #[] ∧ RdAt w' g gm (mxo s n) ∧ Chg [g] w w' := by
  obtain ⟨hne, hB, hm⟩ := h
  refine ent Tryd.func78 rfl [(0, .pointer (some ⟨g, 0, none⟩)), (1, .int .i64 n)] rfl (by rfl) fun a ha => ?_
  refine wp_region_lit ?_
  refine seg ha 4 [(1, .int .i64 n), (4, .pointer (some ⟨g, 0, none⟩)), (7, .pointer (some ⟨g, 25, none⟩))] (by kernel_rfl) fun a ha => ?_
  refine ld (v := .int .i64 s.out) ha rfl (by kernel_rfl) rfl rfl rfl (hB.cell' (o := 25) rfl (by kernel_rfl)) fun a ha => ?_
  refine seg ha 1 [(4, .pointer (some ⟨g, 0, none⟩)), (8, .int .i64 s.out), (9, .int .i64 n)] (by kernel_rfl) fun a ha => ?_
  refine opk (v := .int .i64 (if n > s.out then n else s.out)) ha rfl rfl rfl rfl rfl (fun w => by kernel_rfl) fun a ha => ?_
  refine seg ha 2 [(10, .int .i64 (if n > s.out then n else s.out)), (12, .pointer (some ⟨g, 25, none⟩))] (by kernel_rfl) fun a ha => ?_
  refine st ha rfl rfl rfl (by kernel_rfl) rfl rfl hB (Nat.le_of_ble_eq_true (by kernel_rfl)) fun a w2 ha hb2 hc _ => ?_
  refine wpl_end ?_
  have hB : Box w2 g (cRd (mxo s n) gm) := hb2.cast (by kernel_rfl)
  exact rt0 ha rfl ⟨rfl, ⟨hne, hB, hm.chg hc (by simp [Ne.symm hne])⟩, hc⟩
theorem strange_walk (w : World) (g gm : Nat) (s : RdS) (h : RdAt w g gm s) (x : S_api_Raw) (ao : Option Addr) (cap : Nat) (hq : (IntKind.i64.wrap (BitVec.ofInt IntKind.i64.bits x.Flags &&& BitVec.ofInt IntKind.i64.bits (128 : Int)).toNat == (0 : Int)) = true) :
    To Tryd.prog 96 [.pointer (some ⟨g, 0, none⟩), .agg (cS_api_Raw x ao cap).toArray] w fun v w' => v = .tuple #[] ∧ RdAt w' g gm (mxo s 3) ∧ Chg [g] w w' := by
  refine ent Tryd.func96 rfl [(0, .pointer (some ⟨g, 0, none⟩)), (1, .agg (cS_api_Raw x ao cap).toArray)] rfl (by rfl) fun a ha => ?_
  refine wp_top_k fun K0 hK0 => ?_
  refine wp_seq_k fun K hK => ?_
  refine wp_region_lit ?_
  refine bx (cs := cS_api_Raw x ao cap) ha rfl rfl rfl rfl rfl fun a w1 gN hN ha => ?_
  have h := h.nil hN.chg
  refine seg ha 0 [(0, .pointer (some ⟨g, 0, none⟩)), (3, .pointer (some ⟨gN, 0, none⟩))] (by kernel_rfl) fun a ha => ?_
  refine hK _ _ ?_; clear hK K
  refine wp_block ?_
  refine wp_seq_k fun K hK => ?_
  refine wp_region_lit ?_
  refine seg ha 1 [(0, .pointer (some ⟨g, 0, none⟩)), (5, .pointer (some ⟨gN, 0, none⟩))] (by kernel_rfl) fun a ha => ?_
  refine ld (v := .int .i64 x.Flags) ha rfl (by kernel_rfl) rfl rfl rfl (hN.box.cell' (o := 0) rfl (by kernel_rfl)) fun a ha => ?_
  refine seg ha 3 [(4, .bool (IntKind.i64.wrap (BitVec.ofInt IntKind.i64.bits x.Flags &&& BitVec.ofInt IntKind.i64.bits (128 : Int)).toNat == (0 : Int))), (0, .pointer (some ⟨g, 0, none⟩))] (by kernel_rfl) fun a ha => ?_
  have ha := ha.lit hq
  refine hK _ _ ?_; clear hK K
  refine cnd ha rfl (fun _ => ?_) (fun h => nomatch h)
  refine wp_region_lit ?_
  refine seg ha 1 [(9, .pointer (some ⟨g, 0, none⟩))] (by kernel_rfl) fun a ha => ?_
  refine cl ha (by rfl) (by kernel_rfl) (by rfl) (by rfl) (by rfl) (came_walk w1 g gm s h 3) ?_
  rintro _ w2 ⟨rfl, h2, c2⟩ a ha
  refine wpl_end ?_
  refine hK0 _ _ ?_
  exact rt0 ha rfl ⟨rfl, h2, (hN.chg.mono (Ok.nil _ _)).trans c2 (Ok.one (.inl (by simp)))⟩
def said1.f (k : Nat) (b : List Int) : Option (Int × Bool) := (cursor_Open.f b).bind fun t => (cursor_Reader_Num.f k t 1).bind fun n => some (n.1, if ((b.length : Int) == 1) = true then decide (n.1 ≤ (2 : Int)) else false)
def said4.f (k : Nat) (b : List Int) : Option (Int × Bool) := (cursor_Open.f b).bind fun t => (cursor_Reader_Num.f k t 4).bind fun n => some (n.1, ((b.length : Int) == 4))
theorem said1_walk (w : World) (M : List Nat) (hM : MS M w) (b : List Int) (ao : Option Addr) (cap : Nat) (f1 : RSl (rInt .u8) 5 w M ao cap b) (k : Nat) (r : Int × Bool) (H : said1.f k b = some r) :
    To Tryd.prog 100 [.int .i64 1, .slice ao b.length cap] w fun v w' => v = .tuple #[.iface 3 (.int .i64 r.1), .bool r.2] ∧ Chg [] w w' := by
  unfold said1.f at H
  obtain ⟨t, Ht, H⟩ := bind_some H
  obtain ⟨n, Hn, H⟩ := bind_some H
  have H := Option.some.inj H
  refine ent Tryd.func100 rfl [(0, .int .i64 1), (1, .slice ao b.length cap)] rfl (by rfl) fun a ha => ?_
  refine wp_seq_k fun K hK => ?_
  refine wp_region_lit ?_
  refine seg ha 2 [(0, .int .i64 1), (1, .slice ao b.length cap)] (by kernel_rfl) fun a ha => ?_
  refine hK _ _ ?_; clear hK K
  refine wp_seq_k fun K hK => ?_
  refine wp_region_lit ?_
  refine seg ha 1 [(0, .int .i64 1), (1, .slice ao b.length cap), (18, .slice ao b.length cap)] (by kernel_rfl) fun a ha => ?_
  refine cl ha (by rfl) (by kernel_rfl) (by rfl) (by rfl) (by rfl) (cursor_Open.walk w _ hM b ao cap f1 _ Ht) ?_
  rintro _ w1 ⟨g, ao2, cap2, rfl, f2, hB, he, c1, hM1⟩ a ha
  refine seg ha 1 [(0, .int .i64 1), (1, .slice ao b.length cap), (6, .pointer (some ⟨g, 0, none⟩))] (by kernel_rfl) fun a ha => ?_
  refine hK _ _ ?_; clear hK K
  refine wp_seq_k fun K hK => ?_
  refine wp_seq_k fun K2 hK2 => ?_
  refine wp_region_lit ?_
  refine seg ha 1 [(20, .int .i64 1), (1, .slice ao b.length cap), (6, .pointer (some ⟨g, 0, none⟩))] (by kernel_rfl) fun a ha => ?_
  refine hK2 _ _ ?_; clear hK2 K2
  refine wp_block ?_
  refine wp_seq_k fun K2 hK2 => ?_
  refine wp_region_lit ?_
  refine seg ha 2 [(21, .bool true), (1, .slice ao b.length cap), (6, .pointer (some ⟨g, 0, none⟩))] (by kernel_rfl) fun a ha => ?_
  refine hK2 _ _ ?_; clear hK2 K2
  refine cnd ha rfl (fun _ => ?_) (fun h => nomatch h)
  refine wp_seq_k fun K2 hK2 => ?_
  refine wp_region_lit ?_
  refine seg ha 1 [(23, .pointer (some ⟨g, 0, none⟩)), (1, .slice ao b.length cap)] (by kernel_rfl) fun a ha => ?_
  refine cl ha (by rfl) (by kernel_rfl) (by rfl) (by rfl) (by rfl) (cursor_Reader_Num.walk w1 _ hM1 g t ao2 cap2 f2 hB (by simp) 1 k _ Hn) ?_
  rintro _ w2 ⟨ao3, cap3, rfl, f3, hB2, c2, hM2⟩ a ha
  refine seg ha 1 [(7, .int .i64 n.1), (1, .slice ao b.length cap)] (by kernel_rfl) fun a ha => ?_
  refine hK2 _ _ ?_; clear hK2 K2
  refine wp_seq_k fun K2 hK2 => ?_
  refine wp_region_lit ?_
  refine seg ha 1 [(25, .int .i64 n.1), (7, .int .i64 n.1), (1, .slice ao b.length cap)] (by kernel_rfl) fun a ha => ?_
  refine opk (v := .iface 3 (.int .i64 n.1)) ha rfl rfl rfl rfl rfl (fun w => by kernel_rfl) fun a ha => ?_
  refine seg ha 9 [(4, .iface 3 (.int .i64 n.1)), (5, .bool (if ((b.length : Int) == 1) = true then decide (n.1 ≤ (2 : Int)) else false))] (by kernel_rfl) fun a ha => ?_
  refine hK2 _ _ ?_; clear hK2 K2
  refine wp_ret ?_
  simp only [Exit.then, Exit.inBlock]
  subst H
  exact rt2 ha rfl rfl rfl ⟨rfl, c1.trans c2 (Ok.one (.inr (he g (by simp))))⟩
theorem said4_walk (w : World) (M : List Nat) (hM : MS M w) (b : List Int) (ao : Option Addr) (cap : Nat) (f1 : RSl (rInt .u8) 5 w M ao cap b) (k : Nat) (r : Int × Bool) (H : said4.f k b = some r) :
    To Tryd.prog 100 [.int .i64 4, .slice ao b.length cap] w fun v w' => v = .tuple #[.iface 3 (.int .i64 r.1), .bool r.2] ∧ Chg [] w w' := by
  unfold said4.f at H
  obtain ⟨t, Ht, H⟩ := bind_some H
  obtain ⟨n, Hn, H⟩ := bind_some H
  have H := Option.some.inj H
  refine ent Tryd.func100 rfl [(0, .int .i64 4), (1, .slice ao b.length cap)] rfl (by rfl) fun a ha => ?_
  refine wp_seq_k fun K hK => ?_
  refine wp_region_lit ?_
  refine seg ha 2 [(0, .int .i64 4), (1, .slice ao b.length cap)] (by kernel_rfl) fun a ha => ?_
  refine hK _ _ ?_; clear hK K
  refine wp_seq_k fun K hK => ?_
  refine wp_region_lit ?_
  refine seg ha 1 [(0, .int .i64 4), (1, .slice ao b.length cap), (18, .slice ao b.length cap)] (by kernel_rfl) fun a ha => ?_
  refine cl ha (by rfl) (by kernel_rfl) (by rfl) (by rfl) (by rfl) (cursor_Open.walk w _ hM b ao cap f1 _ Ht) ?_
  rintro _ w1 ⟨g, ao2, cap2, rfl, f2, hB, he, c1, hM1⟩ a ha
  refine seg ha 1 [(0, .int .i64 4), (1, .slice ao b.length cap), (6, .pointer (some ⟨g, 0, none⟩))] (by kernel_rfl) fun a ha => ?_
  refine hK _ _ ?_; clear hK K
  refine wp_seq_k fun K hK => ?_
  refine wp_seq_k fun K2 hK2 => ?_
  refine wp_region_lit ?_
  refine seg ha 1 [(20, .int .i64 4), (1, .slice ao b.length cap), (6, .pointer (some ⟨g, 0, none⟩))] (by kernel_rfl) fun a ha => ?_
  refine hK2 _ _ ?_; clear hK2 K2
  refine wp_block ?_
  refine wp_seq_k fun K2 hK2 => ?_
  refine wp_region_lit ?_
  refine seg ha 2 [(21, .bool false), (20, .int .i64 4), (1, .slice ao b.length cap), (6, .pointer (some ⟨g, 0, none⟩))] (by kernel_rfl) fun a ha => ?_
  refine hK2 _ _ ?_; clear hK2 K2
  refine cnd ha rfl (fun h => nomatch h) (fun _ => ?_)
  refine wp_seq_k fun K2 hK2 => ?_
  refine wp_seq_k fun K3 hK3 => ?_
  refine wp_region_lit ?_
  refine seg ha 2 [(34, .bool true), (1, .slice ao b.length cap), (6, .pointer (some ⟨g, 0, none⟩))] (by kernel_rfl) fun a ha => ?_
  refine hK3 _ _ ?_; clear hK3 K3
  refine cnd ha rfl (fun _ => ?_) (fun h => nomatch h)
  refine wp_skip ?_
  refine hK2 _ _ ?_; clear hK2 K2
  refine cnd ha rfl (fun _ => ?_) (fun h => nomatch h)
  refine wp_seq_k fun K2 hK2 => ?_
  refine wp_region_lit ?_
  refine seg ha 1 [(37, .pointer (some ⟨g, 0, none⟩)), (1, .slice ao b.length cap)] (by kernel_rfl) fun a ha => ?_
  refine cl ha (by rfl) (by kernel_rfl) (by rfl) (by rfl) (by rfl) (cursor_Reader_Num.walk w1 _ hM1 g t ao2 cap2 f2 hB (by simp) 4 k _ Hn) ?_
  rintro _ w2 ⟨ao3, cap3, rfl, f3, hB2, c2, hM2⟩ a ha
  refine opk (v := .iface 3 (.int .i64 n.1)) ha rfl rfl rfl rfl rfl (fun w => by kernel_rfl) fun a ha => ?_
  refine seg ha 5 [(4, .iface 3 (.int .i64 n.1)), (5, .bool ((b.length : Int) == 4))] (by kernel_rfl) fun a ha => ?_
  refine hK2 _ _ ?_; clear hK2 K2
  refine wp_ret ?_
  simp only [Exit.then, Exit.inBlock]
  subst H
  exact rt2 ha rfl rfl rfl ⟨rfl, c1.trans c2 (Ok.one (.inr (he g (by simp))))⟩
def said.f (k : Nat) (kind : Int) (b : List Int) : Option (Int × Bool) := if kind = 1 then said1.f k b else if kind = 4 then said4.f k b else none
theorem said_walk (w : World) (M : List Nat) (hM : MS M w) (kind : Int) (b : List Int) (ao : Option Addr) (cap : Nat) (f1 : RSl (rInt .u8) 5 w M ao cap b) (k : Nat) (r : Int × Bool) (H : said.f k kind b = some r) :
    To Tryd.prog 100 [.int .i64 kind, .slice ao b.length cap] w fun v w' => v = .tuple #[.iface 3 (.int .i64 r.1), .bool r.2] ∧ Chg [] w w' := by
  unfold said.f at H
  by_cases h1 : kind = 1
  · subst h1
    exact said1_walk w M hM b ao cap f1 k r H
  · rw [if_neg h1] at H
    by_cases h4 : kind = 4
    · subst h4
      exact said4_walk w M hM b ao cap f1 k r H
    · rw [if_neg h4] at H; cases H
theorem set1_walk (w : World) (g gm : Nat) (s : RdS) (h : RdAt w g gm s) (v : Int) :
    To Tryd.prog 101 [.pointer (some ⟨g, 0, none⟩), .int .i64 1, .iface 3 (.int .i64 v)] w fun u w' => u = .tuple #[] ∧ RdAt w' g gm ⟨v, s.m, s.p, s.out, s.had⟩ ∧ Chg [g] w w' := by
  obtain ⟨hne, hB, hm⟩ := h
  refine ent Tryd.func101 rfl [(0, .pointer (some ⟨g, 0, none⟩)), (1, .int .i64 1), (2, .iface 3 (.int .i64 v))] rfl (by rfl) fun a ha => ?_
  refine wp_top_k fun K0 hK0 => ?_
  refine wp_seq_k fun K hK => ?_
  refine wp_region_lit ?_
  refine seg ha 1 [(0, .pointer (some ⟨g, 0, none⟩)), (6, .int .i64 1), (2, .iface 3 (.int .i64 v))] (by kernel_rfl) fun a ha => ?_
  refine hK _ _ ?_; clear hK K
  refine wp_block ?_
  refine wp_seq_k fun K hK => ?_
  refine wp_region_lit ?_
  refine seg ha 2 [(7, .bool true), (0, .pointer (some ⟨g, 0, none⟩)), (2, .iface 3 (.int .i64 v))] (by kernel_rfl) fun a ha => ?_
  refine hK _ _ ?_; clear hK K
  refine cnd ha rfl (fun _ => ?_) (fun h => nomatch h)
  refine wp_region_lit ?_
  refine seg ha 2 [(9, .pointer (some ⟨g, 0, none⟩)), (10, .iface 3 (.int .i64 v))] (by kernel_rfl) fun a ha => ?_
  refine opk (v := .int .i64 v) ha rfl rfl rfl rfl rfl (fun w => by kernel_rfl) fun a ha => ?_
  refine seg ha 2 [(13, .pointer (some ⟨g, 0, none⟩)), (11, .int .i64 v)] (by kernel_rfl) fun a ha => ?_
  refine st ha rfl rfl rfl (by kernel_rfl) rfl rfl hB (Nat.le_of_ble_eq_true (by kernel_rfl)) fun a w2 ha hb2 hc _ => ?_
  refine wpl_end ?_
  refine hK0 _ _ ?_
  have hB : Box w2 g (cRd ⟨v, s.m, s.p, s.out, s.had⟩ gm) := hb2.cast (by kernel_rfl)
  exact rt0 ha rfl ⟨rfl, ⟨hne, hB, hm.chg hc (by simp [Ne.symm hne])⟩, hc⟩
theorem set4_walk (w : World) (g gm : Nat) (s : RdS) (h : RdAt w g gm s) (v : Int) :
    To Tryd.prog 101 [.pointer (some ⟨g, 0, none⟩), .int .i64 4, .iface 3 (.int .i64 v)] w fun u w' => u = .tuple #[] ∧ RdAt w' g gm ⟨s.o, v, s.p, s.out, s.had⟩ ∧ Chg [g] w w' := by
  obtain ⟨hne, hB, hm⟩ := h
  refine ent Tryd.func101 rfl [(0, .pointer (some ⟨g, 0, none⟩)), (1, .int .i64 4), (2, .iface 3 (.int .i64 v))] rfl (by rfl) fun a ha => ?_
  refine wp_top_k fun K0 hK0 => ?_
  refine wp_seq_k fun K hK => ?_
  refine wp_region_lit ?_
  refine seg ha 1 [(0, .pointer (some ⟨g, 0, none⟩)), (6, .int .i64 4), (2, .iface 3 (.int .i64 v))] (by kernel_rfl) fun a ha => ?_
  refine hK _ _ ?_; clear hK K
  refine wp_block ?_
  refine wp_seq_k fun K hK => ?_
  refine wp_region_lit ?_
  refine seg ha 2 [(7, .bool false), (6, .int .i64 4), (0, .pointer (some ⟨g, 0, none⟩)), (2, .iface 3 (.int .i64 v))] (by kernel_rfl) fun a ha => ?_
  refine hK _ _ ?_; clear hK K
  refine cnd ha rfl (fun h => nomatch h) (fun _ => ?_)
  refine wp_seq_k fun K hK => ?_
  refine wp_region_lit ?_
  refine seg ha 2 [(14, .bool false), (6, .int .i64 4), (0, .pointer (some ⟨g, 0, none⟩)), (2, .iface 3 (.int .i64 v))] (by kernel_rfl) fun a ha => ?_
  refine hK _ _ ?_; clear hK K
  refine cnd ha rfl (fun h => nomatch h) (fun _ => ?_)
  refine wp_seq_k fun K hK => ?_
  refine wp_region_lit ?_
  refine seg ha 2 [(21, .bool true), (0, .pointer (some ⟨g, 0, none⟩)), (2, .iface 3 (.int .i64 v))] (by kernel_rfl) fun a ha => ?_
  refine hK _ _ ?_; clear hK K
  refine cnd ha rfl (fun _ => ?_) (fun h => nomatch h)
  refine wp_region_lit ?_
  refine seg ha 2 [(23, .pointer (some ⟨g, 0, none⟩)), (24, .iface 3 (.int .i64 v))] (by kernel_rfl) fun a ha => ?_
  refine opk (v := .int .i64 v) ha rfl rfl rfl rfl rfl (fun w => by kernel_rfl) fun a ha => ?_
  refine seg ha 2 [(27, .pointer (some ⟨g, 2, none⟩)), (25, .int .i64 v)] (by kernel_rfl) fun a ha => ?_
  refine st ha rfl rfl rfl (by kernel_rfl) rfl rfl hB (Nat.le_of_ble_eq_true (by kernel_rfl)) fun a w2 ha hb2 hc _ => ?_
  refine wpl_end ?_
  refine hK0 _ _ ?_
  have hB : Box w2 g (cRd ⟨s.o, v, s.p, s.out, s.had⟩ gm) := hb2.cast (by kernel_rfl)
  exact rt0 ha rfl ⟨rfl, ⟨hne, hB, hm.chg hc (by simp [Ne.symm hne])⟩, hc⟩
def setf.f (s : RdS) (kind v : Int) : Option RdS := if kind = 1 then some ⟨v, s.m, s.p, s.out, s.had⟩ else if kind = 4 then some ⟨s.o, v, s.p, s.out, s.had⟩ else none
theorem set_walk (w : World) (g gm : Nat) (s : RdS) (h : RdAt w g gm s) (kind v : Int) (r : RdS) (H : setf.f s kind v = some r) :
    To Tryd.prog 101 [.pointer (some ⟨g, 0, none⟩), .int .i64 kind, .iface 3 (.int .i64 v)] w fun u w' => u = .tuple #[] ∧ RdAt w' g gm r ∧ Chg [g] w w' := by
  unfold setf.f at H
  by_cases h1 : kind = 1
  · subst h1
    obtain rfl := Option.some.inj H
    exact set1_walk w g gm s h v
  · rw [if_neg h1] at H
    by_cases h4 : kind = 4
    · subst h4
      obtain rfl := Option.some.inj H
      exact set4_walk w g gm s h v
    · rw [if_neg h4] at H; cases H
theorem mlk1_run {α β : Type} [BEq α] {P : Program} {kv : α → Value} {vv : β → Value} {n : Nat} {w : World} {a : Act} {env : Env} {dd : Option Tmp} {ty : TypeId} {pos : String} {af : Array Edge} {gd : Option (Nat × Bool)} {t kt e : TypeId} {x y : Operand} {g : Nat} {l : List (α × β)} {k : α} {z : β} (ha : Has a n env) (ht : P.underlying t = some (.map kt e)) (K : MKey P kt kv) (hx : ev env x = some (.map (some g))) (hy : ev env y = some (kv k))
    (hz : ∀ w, (zeroValue e).run P w = .ok (vv z) w) (h : MapR kv vv w g l) :
    (execOp a.eval ⟨dd, .lookup t x y false, ty, pos, af, gd⟩).run P w = .ok (.value (vv ((mget l k).getD z))) w := by
  obtain ⟨es, c, hb, he, _⟩ := h
  have e1 : execOp a.eval ⟨dd, .lookup t x y false, ty, pos, af, gd⟩ = (Instr.lookup t (.map (some g)) (kv k) false >>= fun v => pure (Next.value v)) := by
    simp [execOp, ha.ev hx, ha.ev hy]
  refine execOp_val' e1 ?_
  rcases findKey_run K he k w with ⟨a1, a2, _⟩ | ⟨v, j, a1, a2, _⟩
  · simp [Instr.lookup, run_underlying ht, getObj, Sem.run, hb, K.check w _ k, a1, a2, hz w]
  · simp [Instr.lookup, run_underlying ht, getObj, Sem.run, hb, K.check w _ k, a1, a2]
def hadv (s : RdS) (k : Int) : Bool := (mget s.had k).getD false
def taken (s : RdS) (k : Int) : RdS := ⟨s.o, s.m, s.p, s.out, mset s.had k true⟩
def take.f (k : Nat) (s : RdS) (x : S_api_Raw) : Option RdS :=
  (attr_flagsOf.f x.Kind).bind fun t =>
  if (!t.2) = true then (if (IntKind.i64.wrap (BitVec.ofInt IntKind.i64.bits x.Flags &&& BitVec.ofInt IntKind.i64.bits (128 : Int)).toNat == (0 : Int)) = true then some (mxo s 3) else none) else
  if hadv s x.Kind = false then
    (attr_table.f x.Kind).bind fun tb => if tb = true then none else
    (said.f k x.Kind x.Value).bind fun r => (attr_fits.f x.Flags t.1).bind fun ft =>
    if (if (!r.2) = true then true else (!ft)) = true then some (mxo (taken s x.Kind) 2) else setf.f (taken s x.Kind) x.Kind r.1
  else none
structure Tk (w0 w : World) (M : List Nat) (g gm gN : Nat) (s : RdS) (x : S_api_Raw) (ao : Option Addr) (cap : Nat) : Prop where
  rd : RdAt w g gm s
  bx : Box w gN (cS_api_Raw x ao cap)
  sl : RSl (rInt .u8) 5 w M ao cap x.Value
  ms : MS M w
  ch : Chg [g, gm] w0 w
theorem Tk.nil {w0 w w' : World} {M : List Nat} {g gm gN : Nat} {s : RdS} {x : S_api_Raw} {ao : Option Addr} {cap : Nat} (h : Tk w0 w M g gm gN s x ao cap) (hc : Chg [] w w') : Tk w0 w' M g gm gN s x ao cap :=
  ⟨h.rd.nil hc, h.bx.chg hc (fun h => nomatch h), h.sl.chg hc (Ok.nil _ _) (Ok.refl _ _), h.ms.chg hc, h.ch.trans hc (Ok.nil _ _)⟩
theorem take_walk (w : World) (M : List Nat) (hM : MS M w) (g gm : Nat) (s : RdS) (h : RdAt w g gm s) (hgM : g ∈ M) (hmM : gm ∈ M) (x : S_api_Raw) (ao : Option Addr) (cap : Nat) (f1 : RSl (rInt .u8) 5 w M ao cap x.Value) (k : Nat) (r : RdS) (H : take.f k s x = some r) :
    To Tryd.prog 77 [.pointer (some ⟨g, 0, none⟩), .agg (cS_api_Raw x ao cap).toArray] w fun v w' => v = .tuple #[] ∧ RdAt w' g gm r ∧ Chg [g, gm] w w' := by
  unfold take.f at H
  obtain ⟨t, Ht, H⟩ := bind_some H
  refine ent Tryd.func77 rfl [(0, .pointer (some ⟨g, 0, none⟩)), (1, .agg (cS_api_Raw x ao cap).toArray)] rfl (by rfl) fun a ha => ?_
  refine wp_top_k fun K0 hK0 => ?_
  refine wp_seq_k fun K hK => ?_
  refine wp_region_lit ?_
  refine bx (cs := cS_api_Raw x ao cap) ha rfl rfl rfl rfl rfl fun a w1 gN hN ha => ?_
  have hgN : g ≠ gN := fun e => by have := hM g hgM; have := hN.ge; omega
  have hmN : gm ≠ gN := fun e => by have := hM gm hmM; have := hN.ge; omega
  have T : Tk w w1 M g gm gN s x ao cap := ⟨h.nil hN.chg, hN.box, f1.chg hN.chg (Ok.nil _ _) (Ok.refl _ _), hM.chg hN.chg, hN.chg.mono (Ok.nil _ _)⟩
  have hne := h.1
  refine seg ha 0 [(0, .pointer (some ⟨g, 0, none⟩)), (3, .pointer (some ⟨gN, 0, none⟩))] (by kernel_rfl) fun a ha => ?_
  refine hK _ _ ?_; clear hK K
  refine wp_seq_k fun K hK => ?_
  refine wp_region_lit ?_
  refine seg ha 1 [(0, .pointer (some ⟨g, 0, none⟩)), (3, .pointer (some ⟨gN, 0, none⟩)), (9, .pointer (some ⟨gN, 1, none⟩))] (by kernel_rfl) fun a ha => ?_
  refine ld (v := .int .i64 x.Kind) ha rfl (by kernel_rfl) rfl rfl rfl (T.bx.cell' (o := 1) rfl (by kernel_rfl)) fun a ha => ?_
  refine cl ha (by rfl) (by kernel_rfl) (by rfl) (by rfl) (by rfl) (attr_flagsOf.walk w1 [] (MS.nil _) x.Kind _ Ht) ?_
  rintro _ w2 ⟨rfl, c2, _⟩ a ha
  have T := T.nil c2
  refine seg ha 5 [(0, .pointer (some ⟨g, 0, none⟩)), (3, .pointer (some ⟨gN, 0, none⟩)), (4, .int .i64 t.1), (5, .bool t.2)] (by kernel_rfl) fun a ha => ?_
  refine hK _ _ ?_; clear hK K
  refine wp_seq_k fun K hK => ?_
  refine wp_block ?_
  refine wp_seq_k fun K2 hK2 => ?_
  refine wp_region_lit ?_
  refine seg ha 3 [(0, .pointer (some ⟨g, 0, none⟩)), (3, .pointer (some ⟨gN, 0, none⟩)), (4, .int .i64 t.1), (14, .bool (!t.2))] (by kernel_rfl) fun a ha => ?_
  refine hK2 _ _ ?_; clear hK2 K2
  refine cnd ha rfl (fun hc => ?_) (fun hc => ?_)
  · obtain ⟨hq, H⟩ := ite_some (ite_t hc H)
    have H := Option.some.inj H
    refine wp_seq_k fun K2 hK2 => ?_
    refine wp_region_lit ?_
    refine seg ha 1 [(3, .pointer (some ⟨gN, 0, none⟩)), (17, .pointer (some ⟨g, 0, none⟩))] (by kernel_rfl) fun a ha => ?_
    refine ldA (cs := cS_api_Raw x ao cap) ha rfl (by kernel_rfl) rfl rfl rfl (cells_sub (Box.cells T.bx) (all := cS_api_Raw x ao cap) [] [] (by kernel_rfl)) fun a ha => ?_
    refine cl ha (by rfl) (by kernel_rfl) (by rfl) (by rfl) (by rfl) (strange_walk w2 g gm s T.rd x ao cap hq) ?_
    rintro _ w3 ⟨rfl, h3, c3⟩ a ha
    refine wpl_end ?_
    refine hK2 _ _ ?_; clear hK2 K2
    refine wp_ret ?_
    simp only [Exit.then, Exit.inBlock, topQ]
    subst H
    exact rtr ha (results_none rfl _ _ _) ⟨rfl, h3, T.ch.trans c3 (Ok.one (.inl (by simp)))⟩
  have H := ite_f hc H
  obtain ⟨hh, H⟩ := ite_some H
  have hlk : ∀ (w' : World), Chg [] w2 w' → MapR (kI .i64) kB w' gm s.had := fun w' hs => T.rd.2.2.chg hs (fun h => nomatch h)
  refine wp_seq_k fun K2 hK2 => ?_
  refine drq0 (fun w' => Chg [] w2 w') (by kernel_rfl) (by kernel_rfl) (fun _ h => h) ?_
  refine qp 0 (.pointer (some ⟨g, 0, none⟩)) ha rfl rfl rfl (by kernel_rfl) fun a ha => ?_
  refine qp 0 (.pointer (some ⟨g, 0, none⟩)) ha rfl rfl rfl (by kernel_rfl) fun a ha => ?_
  refine qp 0 (.pointer (some ⟨g, 26, none⟩)) ha rfl rfl rfl (by kernel_rfl) fun a ha => ?_
  refine qv (v := .map (some gm)) ha rfl rfl rfl (fun w' hs => ld_run ha rfl (by kernel_rfl) ((T.rd.2.1.chg hs (fun h => nomatch h)).cell' (o := 26) rfl (by kernel_rfl))) fun a ha => ?_
  refine qp 0 (.pointer (some ⟨gN, 1, none⟩)) ha rfl rfl rfl (by kernel_rfl) fun a ha => ?_
  refine qv (v := .int .i64 x.Kind) ha rfl rfl rfl (fun w' hs => ld_run ha rfl (by kernel_rfl) ((T.bx.chg hs (fun h => nomatch h)).cell' (o := 1) rfl (by kernel_rfl))) fun a ha => ?_
  refine qv (v := .bool (hadv s x.Kind)) ha rfl rfl rfl (fun w' hs => mlk1_run (k := x.Kind) (z := false) ha u104 K3i rfl rfl (fun w => by kernel_rfl) (hlk w' hs)) fun a ha => ?_
  have ha := ha.lit hh
  refine qp 0 (.bool false) ha rfl rfl rfl (by kernel_rfl) fun a ha => ?_
  refine qo ha rfl rfl rfl fun a ha => ?_
  refine qo ha rfl rfl rfl fun a ha => ?_
  refine qo ha rfl rfl rfl fun a ha => ?_
  refine qp 4 (.bool false) ha rfl rfl rfl (by kernel_rfl) fun a ha => ?_
  refine qp 0 (.bool false) ha rfl rfl rfl (by kernel_rfl) fun a ha => ?_
  have ha := ha.sel (env' := [(20, .bool false), (0, .pointer (some ⟨g, 0, none⟩)), (3, .pointer (some ⟨gN, 0, none⟩)), (4, .int .i64 t.1)]) (by kernel_rfl)
  intro w3 hs3
  refine wpl_end ?_
  have T := T.nil hs3
  refine hK2 _ _ ?_; clear hK2 K2
  refine cnd ha rfl (fun h => nomatch h) (fun _ => ?_)
  have hlk : ∀ (w' : World), Chg [] w3 w' → MapR (kI .i64) kB w' gm s.had := fun w' hs => T.rd.2.2.chg hs (fun h => nomatch h)
  refine wp_seq_k fun K2 hK2 => ?_
  refine drq0 (fun w' => Chg [] w3 w') (by kernel_rfl) (by kernel_rfl) (fun _ h => h) ?_
  refine qp 0 (.pointer (some ⟨g, 0, none⟩)) ha rfl rfl rfl (by kernel_rfl) fun a ha => ?_
  refine qp 0 (.pointer (some ⟨g, 0, none⟩)) ha rfl rfl rfl (by kernel_rfl) fun a ha => ?_
  refine qp 0 (.pointer (some ⟨g, 26, none⟩)) ha rfl rfl rfl (by kernel_rfl) fun a ha => ?_
  refine qv (v := .map (some gm)) ha rfl rfl rfl (fun w' hs => ld_run ha rfl (by kernel_rfl) ((T.rd.2.1.chg hs (fun h => nomatch h)).cell' (o := 26) rfl (by kernel_rfl))) fun a ha => ?_
  refine qp 0 (.pointer (some ⟨gN, 1, none⟩)) ha rfl rfl rfl (by kernel_rfl) fun a ha => ?_
  refine qv (v := .int .i64 x.Kind) ha rfl rfl rfl (fun w' hs => ld_run ha rfl (by kernel_rfl) ((T.bx.chg hs (fun h => nomatch h)).cell' (o := 1) rfl (by kernel_rfl))) fun a ha => ?_
  refine qv (v := .bool (hadv s x.Kind)) ha rfl rfl rfl (fun w' hs => mlk1_run (k := x.Kind) (z := false) ha u104 K3i rfl rfl (fun w => by kernel_rfl) (hlk w' hs)) fun a ha => ?_
  have ha := ha.lit hh
  refine qp 0 (.bool false) ha rfl rfl rfl (by kernel_rfl) fun a ha => ?_
  have ha := ha.sel (env' := [(35, .bool false), (0, .pointer (some ⟨g, 0, none⟩)), (3, .pointer (some ⟨gN, 0, none⟩)), (4, .int .i64 t.1)]) (by kernel_rfl)
  intro w4 hs4
  refine wpl_end ?_
  have T := T.nil hs4
  refine hK2 _ _ ?_; clear hK2 K2
  refine cnd ha rfl (fun h => nomatch h) (fun _ => ?_)
  refine wp_skip ?_
  refine hK _ _ ?_; clear hK K
  refine wp_seq_k fun K hK => ?_
  refine drq 6 (fun w' => Chg [] w4 w') (by kernel_rfl) (by kernel_rfl) (fun _ h => h) ?_
  refine qp 0 (.pointer (some ⟨g, 0, none⟩)) ha rfl rfl rfl (by kernel_rfl) fun a ha => ?_
  refine qp 0 (.pointer (some ⟨g, 0, none⟩)) ha rfl rfl rfl (by kernel_rfl) fun a ha => ?_
  refine qp 0 (.pointer (some ⟨g, 26, none⟩)) ha rfl rfl rfl (by kernel_rfl) fun a ha => ?_
  refine qv (v := .map (some gm)) ha rfl rfl rfl (fun w' hs => ld_run ha rfl (by kernel_rfl) ((T.rd.2.1.chg hs (fun h => nomatch h)).cell' (o := 26) rfl (by kernel_rfl))) fun a ha => ?_
  refine qp 0 (.pointer (some ⟨gN, 1, none⟩)) ha rfl rfl rfl (by kernel_rfl) fun a ha => ?_
  refine qv (v := .int .i64 x.Kind) ha rfl rfl rfl (fun w' hs => ld_run ha rfl (by kernel_rfl) ((T.bx.chg hs (fun h => nomatch h)).cell' (o := 1) rfl (by kernel_rfl))) fun a ha => ?_
  have ha := ha.sel (env' := [(48, .map (some gm)), (50, .int .i64 x.Kind), (0, .pointer (some ⟨g, 0, none⟩)), (3, .pointer (some ⟨gN, 0, none⟩)), (4, .int .i64 t.1)]) (by kernel_rfl)
  intro w5 hs5
  have T := T.nil hs5
  refine mup (k := x.Kind) (u := true) ha u104 K3i rfl rfl rfl rfl T.rd.2.2 fun a w6 ha hm6 c6 => ?_
  have T : Tk w w6 M g gm gN (taken s x.Kind) x ao cap := ⟨⟨hne, T.rd.2.1.chg c6 (by simp [hne]), hm6⟩, T.bx.chg c6 (by simp [Ne.symm hmN]), T.sl.chg c6 (Ok.one (.inl hmM)) (Ok.refl _ _), T.ms.chg c6, T.ch.trans c6 (Ok.one (.inl (by simp)))⟩
  refine wpl_end ?_
  have ha := ha.sel (env' := [(0, .pointer (some ⟨g, 0, none⟩)), (3, .pointer (some ⟨gN, 0, none⟩)), (4, .int .i64 t.1)]) (by kernel_rfl)
  refine hK _ _ ?_; clear hK K
  obtain ⟨tb, Htb, H⟩ := bind_some H
  refine wp_seq_k fun K hK => ?_
  refine wp_seq_k fun K2 hK2 => ?_
  refine wp_region_lit ?_
  refine seg ha 1 [(0, .pointer (some ⟨g, 0, none⟩)), (3, .pointer (some ⟨gN, 0, none⟩)), (4, .int .i64 t.1), (51, .pointer (some ⟨gN, 1, none⟩))] (by kernel_rfl) fun a ha => ?_
  refine ld (v := .int .i64 x.Kind) ha rfl (by kernel_rfl) rfl rfl rfl (T.bx.cell' (o := 1) rfl (by kernel_rfl)) fun a ha => ?_
  refine cl ha (by rfl) (by kernel_rfl) (by rfl) (by rfl) (by rfl) (attr_table.walk w6 [] (MS.nil _) x.Kind _ Htb) ?_
  rintro _ w7 ⟨rfl, c7, _⟩ a ha
  have T := T.nil c7
  refine wpl_end ?_
  have ha := ha.sel (env' := [(0, .pointer (some ⟨g, 0, none⟩)), (3, .pointer (some ⟨gN, 0, none⟩)), (4, .int .i64 t.1), (53, .bool tb)]) (by kernel_rfl)
  refine hK2 _ _ ?_; clear hK2 K2
  refine cnd ha rfl (fun hc => ?_) (fun hc => ?_)
  · have H := ite_t hc H
    cases H
  have H := ite_f hc H
  obtain ⟨q, Hq, H⟩ := bind_some H
  obtain ⟨ft, Hft, H⟩ := bind_some H
  refine wp_skip ?_
  refine hK _ _ ?_; clear hK K
  refine wp_seq_k fun K hK => ?_
  refine wp_region_lit ?_
  refine seg ha 1 [(0, .pointer (some ⟨g, 0, none⟩)), (3, .pointer (some ⟨gN, 0, none⟩)), (4, .int .i64 t.1), (73, .pointer (some ⟨gN, 1, none⟩))] (by kernel_rfl) fun a ha => ?_
  refine ld (v := .int .i64 x.Kind) ha rfl (by kernel_rfl) rfl rfl rfl (T.bx.cell' (o := 1) rfl (by kernel_rfl)) fun a ha => ?_
  refine seg ha 1 [(0, .pointer (some ⟨g, 0, none⟩)), (3, .pointer (some ⟨gN, 0, none⟩)), (4, .int .i64 t.1), (74, .int .i64 x.Kind), (75, .pointer (some ⟨gN, 2, none⟩))] (by kernel_rfl) fun a ha => ?_
  refine ld (v := .slice ao x.Value.length cap) ha rfl (by kernel_rfl) rfl rfl rfl (T.bx.cell' (o := 2) rfl (by kernel_rfl)) fun a ha => ?_
  refine cl ha (by rfl) (by kernel_rfl) (by rfl) (by rfl) (by rfl) (said_walk w7 M T.ms x.Kind x.Value ao cap T.sl k q Hq) ?_
  rintro _ w8 ⟨rfl, c8⟩ a ha
  have T := T.nil c8
  refine seg ha 5 [(0, .pointer (some ⟨g, 0, none⟩)), (3, .pointer (some ⟨gN, 0, none⟩)), (4, .int .i64 t.1), (6, .iface 3 (.int .i64 q.1)), (7, .bool q.2)] (by kernel_rfl) fun a ha => ?_
  refine hK _ _ ?_; clear hK K
  refine wp_seq_k fun K hK => ?_
  refine wp_seq_k fun K2 hK2 => ?_
  refine wp_region_lit ?_
  have J : ∀ (a : Act) (w9 : World), Has a Tryd.f77.ntmps [(0, .pointer (some ⟨g, 0, none⟩)), (3, .pointer (some ⟨gN, 0, none⟩)), (6, .iface 3 (.int .i64 q.1)), (88, .bool (if (!q.2) = true then true else (!ft)))] → Tk w w9 M g gm gN (taken s x.Kind) x ao cap → K2 a w9 := by
    intro a w9 ha T
    refine hK2 _ _ ?_; clear hK2 K2
    refine cnd ha rfl (fun hc => ?_) (fun hc => ?_)
    · have H := Option.some.inj (ite_t hc H)
      refine wp_seq_k fun K2 hK2 => ?_
      refine wp_region_lit ?_
      refine seg ha 1 [(89, .pointer (some ⟨g, 0, none⟩))] (by kernel_rfl) fun a ha => ?_
      refine cl ha (by rfl) (by kernel_rfl) (by rfl) (by rfl) (by rfl) (came_walk w9 g gm _ T.rd 2) ?_
      rintro _ w10 ⟨rfl, h10, c10⟩ a ha
      refine wpl_end ?_
      refine hK2 _ _ ?_; clear hK2 K2
      refine wp_ret ?_
      simp only [Exit.then, Exit.inBlock, topQ]
      subst H
      exact rtr ha (results_none rfl _ _ _) ⟨rfl, h10, T.ch.trans c10 (Ok.one (.inl (by simp)))⟩
    · have H := ite_f hc H
      refine wp_skip ?_
      refine hK _ _ ?_; clear hK K
      refine drq 6 (fun w' => Chg [] w9 w') (by kernel_rfl) (by kernel_rfl) (fun _ h => h) ?_
      refine qp 0 (.pointer (some ⟨g, 0, none⟩)) ha rfl rfl rfl (by kernel_rfl) fun a ha => ?_
      refine qp 0 (.pointer (some ⟨g, 0, none⟩)) ha rfl rfl rfl (by kernel_rfl) fun a ha => ?_
      refine qp 0 (.pointer (some ⟨g, 0, none⟩)) ha rfl rfl rfl (by kernel_rfl) fun a ha => ?_
      refine qp 0 (.pointer (some ⟨gN, 1, none⟩)) ha rfl rfl rfl (by kernel_rfl) fun a ha => ?_
      refine qv (v := .int .i64 x.Kind) ha rfl rfl rfl (fun w' hs => ld_run ha rfl (by kernel_rfl) ((T.bx.chg hs (fun h => nomatch h)).cell' (o := 1) rfl (by kernel_rfl))) fun a ha => ?_
      refine qp 0 (.iface 3 (.int .i64 q.1)) ha rfl rfl rfl (by kernel_rfl) fun a ha => ?_
      intro w10 hs10
      have T := T.nil hs10
      refine cl ha (by rfl) (by kernel_rfl) (by rfl) (by rfl) (by rfl) (set_walk w10 g gm _ T.rd x.Kind q.1 r H) ?_
      rintro _ w11 ⟨rfl, h11, c11⟩ a ha
      refine wpl_end ?_
      refine hK0 _ _ ?_
      exact rt0 ha rfl ⟨rfl, h11, T.ch.trans c11 (Ok.one (.inl (by simp)))⟩
  refine seg ha 3 [(82, .bool (!q.2)), (0, .pointer (some ⟨g, 0, none⟩)), (3, .pointer (some ⟨gN, 0, none⟩)), (4, .int .i64 t.1), (6, .iface 3 (.int .i64 q.1))] (by kernel_rfl) fun a ha => ?_
  rcases Bool.eq_false_or_eq_true (!q.2) with hb | hb
  · have ha := ha.lit hb
    refine sgh ha 6 [1, 1, 1, 1, 1, 3] [(88, .bool true), (0, .pointer (some ⟨g, 0, none⟩)), (3, .pointer (some ⟨gN, 0, none⟩)), (6, .iface 3 (.int .i64 q.1))] (by kernel_rfl) fun a ha => ?_
    refine J _ _ (by rw [hb]; exact ha.sel (by kernel_rfl)) T
  · have ha := ha.lit hb
    refine sgh ha 1 [2] [(82, .bool false), (0, .pointer (some ⟨g, 0, none⟩)), (3, .pointer (some ⟨gN, 0, none⟩)), (4, .int .i64 t.1), (6, .iface 3 (.int .i64 q.1)), (83, .pointer (some ⟨gN, 0, none⟩))] (by kernel_rfl) fun a ha => ?_
    refine ld (v := .int .i64 x.Flags) ha rfl (by kernel_rfl) rfl rfl rfl (T.bx.cell' (o := 0) rfl (by kernel_rfl)) fun a ha => ?_
    refine sgh ha 1 [2] [(82, .bool false), (0, .pointer (some ⟨g, 0, none⟩)), (3, .pointer (some ⟨gN, 0, none⟩)), (6, .iface 3 (.int .i64 q.1)), (84, .int .i64 x.Flags), (85, .int .i64 t.1)] (by kernel_rfl) fun a ha => ?_
    refine cl ha (by rfl) (by kernel_rfl) (by rfl) (by rfl) (by rfl) (attr_fits.walk w8 [] (MS.nil _) x.Flags t.1 _ Hft) ?_
    rintro _ w9 ⟨rfl, c9, _⟩ a ha
    have T := T.nil c9
    refine sgh ha 2 [2, 4] [(88, .bool (!ft)), (0, .pointer (some ⟨g, 0, none⟩)), (3, .pointer (some ⟨gN, 0, none⟩)), (6, .iface 3 (.int .i64 q.1))] (by kernel_rfl) fun a ha => ?_
    refine J _ _ (by rw [hb]; exact ha.sel (by kernel_rfl)) T
def Read.l0 (k : Nat) (l : List S_api_Raw) : Nat → RdS → Int → Option RdS
  | 0, _, _ => none
  | kk + 1, s, i => if decide (i < (l.length : Int)) = true then (if 0 ≤ i ∧ i < (l.length : Int) then (take.f k s (rd l i)).bind fun s' => Read.l0 k l kk s' (IntKind.i64.wrap (i + (1 : Int))) else none) else some s
def attr_Read.f (k : Nat) (l : List S_api_Raw) : Option (S_api_Attrs × List S_api_Raw × Int) :=
  (Read.l0 k l k ⟨0, -1, -1, 0, []⟩ 0).bind fun s => if hadv s 14 = false then some (av3 s.o s.m s.p, [], s.out) else none
theorem attr_Read.walk (w : World) (M : List Nat) (hM : MS M w) (l : List S_api_Raw) (ao : Option Addr) (cap : Nat) (f1 : RSl rS_api_Raw 61 w M ao cap l) (k : Nat) (r : S_api_Attrs × List S_api_Raw × Int) (H : attr_Read.f k l = some r) :
    To Tryd.prog 37 [.slice ao l.length cap] w fun v w' => ∃ (ao1 : Option Addr) (cap1 : Nat) (ao2 : Option Addr) (cap2 : Nat) (ao3 : Option Addr) (cap3 : Nat) (ao4 : Option Addr) (cap4 : Nat) (ao5 : Option Addr) (cap5 : Nat), v = .tuple #[.agg (cS_api_Attrs r.1 ao1 cap1 ao2 cap2 ao3 cap3 ao4 cap4).toArray, .slice ao5 r.2.1.length cap5, .int .i64 r.2.2] ∧ (RSl rS_api_Segment 93 w' M ao1 cap1 r.1.Path) ∧ (RSl rS_api_Addr 24 w' M ao2 cap2 r.1.Clusters) ∧ (RSl (rArr .u8 8) 114 w' M ao3 cap3 r.1.Exts) ∧ (RSl rS_api_Tunnel 27 w' M ao4 cap4 r.1.Tunnels) ∧ (RSl rS_api_Raw 61 w' M ao5 cap5 r.2.1) ∧ Chg [] w w' ∧ MS M w' := by
  unfold attr_Read.f at H
  obtain ⟨sF, HF, H⟩ := bind_some H
  obtain ⟨hh, H⟩ := ite_some H
  have H := Option.some.inj H
  refine ent Tryd.func37 rfl [(0, .slice ao l.length cap)] rfl (by rfl) fun a ha => ?_
  refine wp_seq_k fun K hK => ?_
  refine wp_region_lit ?_
  refine al (cs := cAt 0 0 0) (z := .agg (cAt 0 0 0).toArray) ha (fun w => by kernel_rfl) rfl rfl rfl rfl fun a w1 gR hR ha => ?_
  refine seg ha 2 [(0, .slice ao l.length cap), (2, .pointer (some ⟨gR, 0, none⟩))] (by kernel_rfl) fun a ha => ?_
  refine hK _ _ ?_; clear hK K
  refine wp_seq_k fun K hK => ?_
  refine wp_region_lit ?_
  refine cl ha (by rfl) (by kernel_rfl) (by rfl) (by rfl) (by rfl) (rd_none w1) ?_
  rintro _ w2 ⟨rfl, c2⟩ a ha
  refine mmk ha rfl rfl rfl fun a w3 gm hm ha => ?_
  refine opk (v := .agg (cRd ⟨0, -1, -1, 0, []⟩ gm).toArray) ha rfl rfl rfl rfl rfl (fun w => by kernel_rfl) fun a ha => ?_
  refine bx (cs := cRd ⟨0, -1, -1, 0, []⟩ gm) ha rfl rfl rfl rfl rfl fun a w4 g hg ha => ?_
  refine seg ha 1 [(0, .slice ao l.length cap), (2, .pointer (some ⟨gR, 0, none⟩)), (5, .pointer (some ⟨g, 0, none⟩))] (by kernel_rfl) fun a ha => ?_
  refine hK _ _ ?_; clear hK K
  have z1 := hR.ge
  have z2 := c2.size
  have z3 := hm.ge
  have z4 := hg.ge
  have y1 := hR.size
  have y3 := hm.size
  have y4 := hg.size
  have hRg : gR ≠ g := by omega
  have hRm : gR ≠ gm := by omega
  have hgm : g ≠ gm := by omega
  have hC : Chg [] w w4 := ((hR.chg.trans c2 (Ok.nil _ _)).trans hm.chg (Ok.nil _ _)).trans hg.chg (Ok.nil _ _)
  have hB : Box w4 gR (cAt 0 0 0) := ((hR.box.chg c2 (fun h => nomatch h)).chg hm.chg (fun h => nomatch h)).chg hg.chg (fun h => nomatch h)
  have hA : RdAt w4 g gm ⟨0, -1, -1, 0, []⟩ := ⟨hgm, hg.box, hm.mapR.chg hg.chg (fun h => nomatch h)⟩
  have hM4 : MS ([g, gm] ++ M) w4 := MS.app (fun y hy => by simp at hy; omega) (hM.chg hC)
  have f1 : RSl rS_api_Raw 61 w4 ([g, gm] ++ M) ao cap l := f1.chg hC (Ok.nil _ _) (Ok.app (fun y hy => .inr (by simp at hy; omega)) (Ok.refl _ _))
  have hRM : gR ∉ M := fun e => by have := hM gR e; omega
  refine wp_seq_k fun K hK => ?_
  refine wp_seq_k fun K2 hK2 => ?_
  refine wp_region_lit ?_
  refine seg ha 3 [(2, .pointer (some ⟨gR, 0, none⟩)), (5, .pointer (some ⟨g, 0, none⟩)), (12, .slice ao l.length cap), (13, .int .i64 (l.length : Int)), (14, .int .i64 (0 : Int))] (by kernel_rfl) fun a ha => ?_
  refine hK2 _ _ ?_; clear hK2 K2
  refine wp_block ?_
  have J : ∀ (a : Act) (w5 : World), Has a Tryd.f37.ntmps [(2, .pointer (some ⟨gR, 0, none⟩)), (5, .pointer (some ⟨g, 0, none⟩))] → RdAt w5 g gm sF → Box w5 gR (cAt 0 0 0) → Chg [] w w5 → MS M w5 → K a w5 := by
    intro a w5 ha hA hB hC hM
    refine hK _ _ ?_; clear hK K
    refine wp_seq_k fun K hK => ?_
    refine wp_seq_k fun K2 hK2 => ?_
    refine wp_region_lit ?_
    refine seg ha 3 [(2, .pointer (some ⟨gR, 0, none⟩)), (5, .pointer (some ⟨g, 0, none⟩)), (24, .pointer (some ⟨g, 26, none⟩))] (by kernel_rfl) fun a ha => ?_
    refine ld (v := .map (some gm)) ha rfl (by kernel_rfl) rfl rfl rfl (hA.2.1.cell' (o := 26) rfl (by kernel_rfl)) fun a ha => ?_
    refine hop (v := .bool (hadv sF 14)) (w' := w5) ha rfl rfl rfl (mlk1_run (k := (14 : Int)) (z := false) ha u104 K3i rfl rfl (fun w => by kernel_rfl) hA.2.2) fun a ha => ?_
    have ha := ha.lit hh
    refine sgh ha 15 [0, 1, 1, 1, 1, 1, 1, 1, 1, 1, 1, 1, 1, 1, 4] [(41, .bool false), (2, .pointer (some ⟨gR, 0, none⟩)), (5, .pointer (some ⟨g, 0, none⟩))] (by kernel_rfl) fun a ha => ?_
    refine hK2 _ _ ?_; clear hK2 K2
    refine cnd ha rfl (fun h => nomatch h) (fun _ => ?_)
    refine wp_skip ?_
    refine hK _ _ ?_; clear hK K
    refine wp_seq_k fun K hK => ?_
    refine drw (fun w' => Chg [gR] w5 w') (by kernel_rfl) fun w6 hs6 _ => ?_
    have hS : Chg [gR] w5 w6 := hs6.mono (Ok.nil _ _)
    refine tkpz 0 0 (.pointer (some ⟨g, 0, none⟩)) ha (s := hS) (q := fun a ha => ?_)
    refine tkpz 1 0 (.pointer (some ⟨g, 0, none⟩)) ha (s := hS) (q := fun a ha => ?_)
    refine tkpz 2 0 (.pointer (some ⟨g, 0, none⟩)) ha (s := hS) (q := fun a ha => ?_)
    refine tkz 3 ha (v := .agg (cAt sF.o sF.m sF.p).toArray) (y := fun w' hs => ldA_run (cs := cAt sF.o sF.m sF.p) ha rfl (by kernel_rfl) (cells_sub (Box.cells (hA.2.1.chg hs (by simp [Ne.symm hRg]))) (all := cRd sF gm) [] [.slice none 0 0, .int .i64 sF.out, .map (some gm)] (by kernel_rfl))) (s := hS) (q := fun a ha => ?_)
    refine tkpz 4 0 (.pointer (some ⟨g, 0, none⟩)) ha (s := hS) (q := fun a ha => ?_)
    refine tkpz 5 0 (.pointer (some ⟨g, 0, none⟩)) ha (s := hS) (q := fun a ha => ?_)
    refine tkpz 6 0 (.pointer (some ⟨g, 24, none⟩)) ha (s := hS) (q := fun a ha => ?_)
    refine tkz 7 ha (v := .slice none 0 0) (y := fun w' hs => ld_run ha rfl (by kernel_rfl) ((hA.2.1.chg hs (by simp [Ne.symm hRg])).cell' (o := 24) rfl (by kernel_rfl))) (s := hS) (q := fun a ha => ?_)
    refine tkpz 8 0 (.pointer (some ⟨g, 0, none⟩)) ha (s := hS) (q := fun a ha => ?_)
    refine tkpz 9 0 (.pointer (some ⟨g, 0, none⟩)) ha (s := hS) (q := fun a ha => ?_)
    refine tkpz 10 0 (.pointer (some ⟨g, 25, none⟩)) ha (s := hS) (q := fun a ha => ?_)
    refine tkz 11 ha (v := .int .i64 sF.out) (y := fun w' hs => ld_run ha rfl (by kernel_rfl) ((hA.2.1.chg hs (by simp [Ne.symm hRg])).cell' (o := 25) rfl (by kernel_rfl))) (s := hS) (q := fun a ha => ?_)
    have ha := ha.sel (env' := [(2, .pointer (some ⟨gR, 0, none⟩)), (47, .agg (cAt sF.o sF.m sF.p).toArray), (51, .slice none 0 0), (55, .int .i64 sF.out)]) (by kernel_rfl)
    have hs := hs6
    have hB := hB.chg hs (fun h => nomatch h)
    refine ac 12 (by kernel_rfl) rfl fun K2 hK2 => ?_
    refine stA (l := cAt sF.o sF.m sF.p) ha rfl rfl rfl (by kernel_rfl) rfl rfl hB rfl fun a w7 ha hb2 hc7 _ => ?_
    have hB : Box w7 gR (cAt sF.o sF.m sF.p) := hb2.cast (by kernel_rfl)
    have hS := hS.trans hc7 (Ok.one (.inl (by simp)))
    refine ae hK2 hS ?_
    clear hK2 K2
    refine tkpz 13 0 (.slice none 0 0) ha (s := hS) (q := fun a ha => ?_)
    refine tkpz 14 0 (.int .i64 sF.out) ha (s := hS) (q := fun a ha => ?_)
    refine dn (by kernel_rfl) ?_
    have ha := ha.sel (env' := [(2, .pointer (some ⟨gR, 0, none⟩)), (3, .slice none 0 0), (4, .int .i64 sF.out)]) (by kernel_rfl)
    refine hK _ _ ?_; clear hK K
    refine wp_ret ?_
    subst H
    refine rtr ha (res3 rfl (roA ha rfl hB (by kernel_rfl)) (roT ha rfl) (roT ha rfl)) ?_
    exact ⟨none, 0, none, 0, none, 0, none, 0, none, 0, rfl, RSl.nil (Nat.zero_le _), RSl.nil (Nat.zero_le _), RSl.nil (Nat.zero_le _), RSl.nil (Nat.zero_le _), RSl.nil (Nat.zero_le _), (hC.trans hs (Ok.nil _ _)).trans hc7 (Ok.one (.inr hR.ge)), (hM.chg hs).chg hc7⟩
  refine wp_loop_ghost (fun kk a w5 => ∃ (s : RdS) (i : Int), Read.l0 k l kk s i = some sF ∧ Has a Tryd.f37.ntmps [(2, .pointer (some ⟨gR, 0, none⟩)), (5, .pointer (some ⟨g, 0, none⟩)), (12, .slice ao l.length cap), (13, .int .i64 (l.length : Int)), (14, .int .i64 i)] ∧ RdAt w5 g gm s ∧ Box w5 gR (cAt 0 0 0) ∧ RSl rS_api_Raw 61 w5 ([g, gm] ++ M) ao cap l ∧ Chg [] w w5 ∧ MS ([g, gm] ++ M) w5) k ?_ ?_
  · exact ⟨_, _, HF, ha.sel (by kernel_rfl), hA, hB, f1, hC, hM4⟩
  · rintro kk a w5 ⟨s, i, Hn, ha, hA, hB, f1, hC, hM5⟩
    obtain _ | kk := kk
    · exact nomatch (show none = some _ from Hn)
    rw [Read.l0] at Hn
    refine wp_seq_k fun K2 hK2 => ?_
    refine wp_region_lit ?_
    refine seg ha 1 [(2, .pointer (some ⟨gR, 0, none⟩)), (5, .pointer (some ⟨g, 0, none⟩)), (12, .slice ao l.length cap), (13, .int .i64 (l.length : Int)), (14, .int .i64 i), (15, .bool (decide (i < (l.length : Int))))] (by kernel_rfl) fun a ha => ?_
    refine hK2 _ _ ?_; clear hK2 K2
    refine wp_seq_k fun K2 hK2 => ?_
    refine cnd ha rfl (fun hc => ?_) (fun hc => ?_)
    · have Hn := ite_t hc Hn
      obtain ⟨⟨hx, hx'⟩, Hn⟩ := ite_some Hn
      obtain ⟨s', Hs, Hn⟩ := bind_some Hn
      refine wp_skip ?_
      refine hK2 _ _ ?_; clear hK2 K2
      refine wp_seq_k fun K2 hK2 => ?_
      refine wp_block ?_
      refine wp_seq_k fun K3 hK3 => ?_
      refine wp_region_lit ?_
      refine ix (r := rS_api_Raw) ha (by kernel_rfl) (by kernel_rfl) rfl rfl rfl rfl rfl f1 hx hx' fun a ge oe cs hn hR' hE ha => ?_
      rw [rd_get] at hR'
      obtain ⟨ao3, cap3, rfl, f3⟩ := rS_api_Raw.open hR'
      refine ldA (cs := cS_api_Raw (rd l i) ao3 cap3) ha rfl (by kernel_rfl) rfl rfl rfl (cells_sub hE (all := cS_api_Raw (rd l i) ao3 cap3) [] [] (by kernel_rfl)) fun a ha => ?_
      refine al (cs := cS_api_Raw (⟨(0 : Int), (0 : Int), ([] : List Int)⟩ : S_api_Raw) none 0) (z := .agg (cS_api_Raw (⟨(0 : Int), (0 : Int), ([] : List Int)⟩ : S_api_Raw) none 0).toArray) ha (fun w => by kernel_rfl) rfl rfl rfl rfl fun a w6 g7 hN ha => ?_
      refine stA (l := cS_api_Raw (rd l i) ao3 cap3) ha rfl rfl rfl (by kernel_rfl) rfl rfl hN.box rfl fun a w7 ha hb2 hc7 _ => ?_
      have hB7 : Box w7 g7 (cS_api_Raw (rd l i) ao3 cap3) := hb2.cast (by kernel_rfl)
      have n7 := hN.ge
      have sz5 := hC.size
      have q1 : Chg [] w5 w7 := hN.chg.trans hc7 (Ok.one (.inr hN.ge))
      have hA7 : RdAt w7 g gm s := hA.nil q1
      have hB := hB.chg q1 (fun h => nomatch h)
      have f1 := f1.chg q1 (Ok.nil _ _) (Ok.refl _ _)
      have f3 := f3.chg q1 (Ok.nil _ _) (Ok.refl _ _)
      have hM7 := hM5.chg q1
      refine wpl_end ?_
      have ha := ha.sel (env' := [(2, .pointer (some ⟨gR, 0, none⟩)), (5, .pointer (some ⟨g, 0, none⟩)), (7, .pointer (some ⟨g7, 0, none⟩)), (12, .slice ao l.length cap), (13, .int .i64 (l.length : Int)), (14, .int .i64 i)]) (by kernel_rfl)
      refine hK3 _ _ ?_; clear hK3 K3
      refine wp_region_lit ?_
      refine seg ha 1 [(2, .pointer (some ⟨gR, 0, none⟩)), (5, .pointer (some ⟨g, 0, none⟩)), (7, .pointer (some ⟨g7, 0, none⟩)), (12, .slice ao l.length cap), (13, .int .i64 (l.length : Int)), (14, .int .i64 i), (18, .pointer (some ⟨g, 0, none⟩))] (by kernel_rfl) fun a ha => ?_
      refine ldA (cs := cS_api_Raw (rd l i) ao3 cap3) ha rfl (by kernel_rfl) rfl rfl rfl (cells_sub (Box.cells hB7) (all := cS_api_Raw (rd l i) ao3 cap3) [] [] (by kernel_rfl)) fun a ha => ?_
      refine cl ha (by rfl) (by kernel_rfl) (by rfl) (by rfl) (by rfl) (take_walk w7 _ hM7 g gm s hA7 (by simp) (by simp) (rd l i) ao3 cap3 f3 k s' Hs) ?_
      rintro _ w8 ⟨rfl, hA8, c8⟩ a ha
      have q8 : Chg [] w w8 := (hC.trans q1 (Ok.nil _ _)).trans c8 (fun y hy => .inr (by simp at hy; omega))
      have hB := hB.chg c8 (by simp [hRg, hRm])
      have f1 := f1.chg c8 (fun y hy => .inl (ml hy)) (Ok.refl _ _)
      have hM8 := hM7.chg c8
      refine wpl_end ?_
      have ha := ha.sel (env' := [(2, .pointer (some ⟨gR, 0, none⟩)), (5, .pointer (some ⟨g, 0, none⟩)), (12, .slice ao l.length cap), (13, .int .i64 (l.length : Int)), (14, .int .i64 i)]) (by kernel_rfl)
      refine hK2 _ _ ?_; clear hK2 K2
      refine wp_region_lit ?_
      refine seg ha 2 [(2, .pointer (some ⟨gR, 0, none⟩)), (5, .pointer (some ⟨g, 0, none⟩)), (12, .slice ao l.length cap), (13, .int .i64 (l.length : Int)), (14, .int .i64 (IntKind.i64.wrap (i + (1 : Int))))] (by kernel_rfl) fun a ha => ?_
      exact ⟨kk, Nat.lt_succ_self _, ⟨s', _, Hn, ha.sel (by kernel_rfl), hA8, hB, f1, q8, hM8⟩⟩
    · have Hn := ite_f hc Hn
      refine wp_exit ?_
      simp only [Exit.then, Exit.inBlock, ↓reduceIte, Nat.reduceEqDiff]
      obtain rfl := Option.some.inj Hn
      exact J _ _ (ha.sel (by kernel_rfl)) hA hB hC (fun y hy => hM5 y (mr hy))

def vinerylaw09_small.f (k : Nat) : Option (Bool) := (attr_Split.f k ([(64 : Int), (1 : Int), (1 : Int), (0 : Int), (128 : Int), (4 : Int), (4 : Int), (0 : Int), (0 : Int), (0 : Int), (9 : Int)] : List Int)).bind fun t8 => (attr_Read.f k t8.1).bind fun t11 => (attr_Read.f k ([(⟨(64 : Int), (1 : Int), ([(3 : Int)] : List Int)⟩ : S_api_Raw)] : List S_api_Raw)).bind fun t34 => (attr_Read.f k ([(⟨(64 : Int), (77 : Int), ([] : List Int)⟩ : S_api_Raw)] : List S_api_Raw)).bind fun t52 => ((if (t8.2 == (0 : Int)) = true then (if ((t8.1.length : Int) == (2 : Int)) = true then (if 0 ≤ (1 : Int) ∧ (1 : Int) < (t8.1.length : Int) then (if (((rd t8.1 (1 : Int)).Kind) == (4 : Int)) = true then (if (t11.1.Origin == (0 : Int)) = true then (if (t11.1.Med == (9 : Int)) = true then (if (t11.1.Pref == (-1 : Int)) = true then (if ((t11.2.1.length : Int) == (0 : Int)) = true then (if (t11.2.2 == (0 : Int)) = true then (if (t34.2.2 == (2 : Int)) = true then some (t52.2.2 == (3 : Int) : Bool) else some (false : Bool)) else some (false : Bool)) else some (false : Bool)) else some (false : Bool)) else some (false : Bool)) else some (false : Bool)) else some (false : Bool)) else none) else some (false : Bool)) else some (false : Bool))).bind fun s65 => some ((s65 : Bool))
set_option maxRecDepth 100000 in
theorem vinerylaw09_small.walk (w : World) (M : List Nat) (hM : MS M w)  (k : Nat) (r : Bool) (H : vinerylaw09_small.f k = some r) :
    To Tryd.prog 25 [] w fun v w' => v = .bool r ∧ Chg [] w w' ∧ MS (M) w' := by
 unfold vinerylaw09_small.f at H
 refine ent Tryd.func25 rfl [] rfl (by rfl) fun a ha => ?_
 have hC : Chg [] w w := Chg.refl _ _
 refine wp_seq_k fun K1 hK1 => ?_
 refine wp_region_lit ?_
 refine seg ha 1 [] (by kernel_rfl) fun a ha => ?_
 refine hK1 _ _ ?_; try clear hK1 K1
 refine wp_seq_k fun K2 hK2 => ?_
 refine wp_region_lit ?_
 refine bsl (vals := ([.int .u8 (64 : Int), .int .u8 (1 : Int), .int .u8 (1 : Int), .int .u8 (0 : Int), .int .u8 (128 : Int), .int .u8 (4 : Int), .int .u8 (4 : Int), .int .u8 (0 : Int), .int .u8 (0 : Int), .int .u8 (0 : Int), .int .u8 (9 : Int)] : List Value)) (T := 5) ha rfl (([.int .u8 (64 : Int)] : List Value) ++ (([.int .u8 (1 : Int)] : List Value) ++ (([.int .u8 (1 : Int)] : List Value) ++ (([.int .u8 (0 : Int)] : List Value) ++ (([.int .u8 (128 : Int)] : List Value) ++ (([.int .u8 (4 : Int)] : List Value) ++ (([.int .u8 (4 : Int)] : List Value) ++ (([.int .u8 (0 : Int)] : List Value) ++ (([.int .u8 (0 : Int)] : List Value) ++ (([.int .u8 (0 : Int)] : List Value) ++ (([.int .u8 (9 : Int)] : List Value) ++ ([] : List Value)))))))))))) (fun w => by kernel_rfl) rfl rfl rfl fun a w3 g4 hN5 ha => ?_
 have p_i6_M : ∀ x ∈ [g4], x ∉ M := fun x hx hy => absurd (hM x (hy)) (Nat.not_lt.2 ((hN5.ge1) x hx))
 have e_i6 : ∀ x ∈ [g4], w.heap.size ≤ x := fun x hx => Nat.le_trans hC.size ((hN5.ge1) x hx)
 have hM : MS ([g4] ++ (M)) w3 := (MS.app hN5.ms (hM.chg hN5.chg))
 have hC := hC.trans hN5.chg (Ok.nil _ _)
 have f7 : Own (rInt .u8) 5 w3 ([g4] ++ (M)) (some ⟨g4, 0, none⟩) 11 ([(64 : Int), (1 : Int), (1 : Int), (0 : Int), (128 : Int), (4 : Int), (4 : Int), (0 : Int), (0 : Int), (0 : Int), (9 : Int)] : List Int) := hN5.own ⟨([.int .u8 (64 : Int)] : List Value), _, rfl, rfl, ⟨([.int .u8 (1 : Int)] : List Value), _, rfl, rfl, ⟨([.int .u8 (1 : Int)] : List Value), _, rfl, rfl, ⟨([.int .u8 (0 : Int)] : List Value), _, rfl, rfl, ⟨([.int .u8 (128 : Int)] : List Value), _, rfl, rfl, ⟨([.int .u8 (4 : Int)] : List Value), _, rfl, rfl, ⟨([.int .u8 (4 : Int)] : List Value), _, rfl, rfl, ⟨([.int .u8 (0 : Int)] : List Value), _, rfl, rfl, ⟨([.int .u8 (0 : Int)] : List Value), _, rfl, rfl, ⟨([.int .u8 (0 : Int)] : List Value), _, rfl, rfl, ⟨([.int .u8 (9 : Int)] : List Value), _, rfl, rfl, rfl⟩⟩⟩⟩⟩⟩⟩⟩⟩⟩⟩ (Nat.le_of_ble_eq_true rfl)
 have hML : MS (M) w3 := MS.rest hM (fun _ h => mr (h))
 have oL : Ok (M) ([g4] ++ (M)) w3.heap.size := (fun _ h => .inl (mr (h)))
 obtain ⟨t8, H8, H⟩ := bind_some H
 have hMo := hM
 refine cl ha (by rfl) (by kernel_rfl) (by rfl) (by rfl) (by rfl) (attr_Split.walk w3 _ hML ([(64 : Int), (1 : Int), (1 : Int), (0 : Int), (128 : Int), (4 : Int), (4 : Int), (0 : Int), (0 : Int), (0 : Int), (9 : Int)] : List Int) (some ⟨g4, 0, none⟩) 11 (Own.toRSl (M' := M) f7 oL (fun x hx hm => p_i6_M x hx hm)) k _ H8) ?_
 rintro _ w8 ⟨ao9, cap9, rfl, f9, ne_i9, hc8, hMn⟩ a ha
 have o1 : Ok [] ([g4] ++ (M)) w3.heap.size := Ok.nil _ _
 have o2 : Ok (blkL ao9 ++ ([g4] ++ (M))) ([g4] ++ (M)) w3.heap.size := (Ok.app (fun x h => .inr (ne_i9 x h)) (Ok.refl _ _))
 have f7 := f7.chg hc8 o1 o2 (fun _ _ h => nomatch h) (fun _ h => mr (ml h))
 have p_i9_i6 : ∀ x ∈ blkL ao9, x ∉ ([g4]) := fun x hx hy => absurd (hM x (ml hy)) (Nat.not_lt.2 (ne_i9 x hx))
 have p_i9_M : ∀ x ∈ blkL ao9, x ∉ M := fun x hx hy => absurd (hM x (mr (hy))) (Nat.not_lt.2 (ne_i9 x hx))
 have e_i9 : ∀ x ∈ blkL ao9, w.heap.size ≤ x := fun x hx => Nat.le_trans hC.size (ne_i9 x hx)
 have hM : MS (blkL ao9 ++ ([g4] ++ (M))) w8 := (MS.app (fun x h => hMn x (ml h)) (hM.chg hc8))
 have hC := hC.trans hc8 (Ok.nil _ _)
 have f9 := own_up (M2 := blkL ao9 ++ ([g4] ++ (M))) f9 (fun y hy => (List.mem_append.1 hy).elim (fun h => .inl (ml h)) (fun h => .inr (hMo y h))) (fun _ h => ml h)
 refine seg ha 5 [(1, .slice ao9 t8.1.length cap9), (2, .int .i64 t8.2)] (by kernel_rfl) fun a ha => ?_
 refine hK2 _ _ ?_; try clear hK2 K2
 refine wp_seq_k fun K10 hK10 => ?_
 refine wp_region_lit ?_
 refine seg ha 1 [(1, .slice ao9 t8.1.length cap9), (2, .int .i64 t8.2), (18, .slice ao9 t8.1.length cap9)] (by kernel_rfl) fun a ha => ?_
 have fz := f9.toRSl (M' := [g4] ++ (M)) (fun _ h => .inl (mr (h))) (fun x hx hm => (List.mem_append.1 hm).elim (fun h => p_i9_i6 x hx h) (fun h => p_i9_M x hx h))
 have hM : MS ([g4] ++ (M)) w8 := (fun x h => hM.chg (Chg.refl [] _) x (mr (h)))
 have f9 := fz
 obtain ⟨t11, H11, H⟩ := bind_some H
 refine cl ha (by rfl) (by kernel_rfl) (by rfl) (by rfl) (by rfl) (attr_Read.walk w8 _ hM t8.1 ao9 cap9 f9 k _ H11) ?_
 rintro _ w11 ⟨ao12, cap12, ao13, cap13, ao14, cap14, ao15, cap15, ao16, cap16, rfl, f12, f13, f14, f15, f16, hc11, hMn⟩ a ha
 have o1 : Ok [] ([g4] ++ (M)) w8.heap.size := Ok.nil _ _
 have o2 : Ok ([g4] ++ (M)) ([g4] ++ (M)) w8.heap.size := (Ok.refl _ _)
 have f9 := f9.chg hc11 o1 o2
 have hM : MS ([g4] ++ (M)) w11 := (hM.chg hc11)
 have hC := hC.trans hc11 (Ok.nil _ _)
 refine seg ha 4 [(1, .slice ao9 t8.1.length cap9), (2, .int .i64 t8.2), (20, .agg (cS_api_Attrs t11.1 ao12 cap12 ao13 cap13 ao14 cap14 ao15 cap15).toArray), (21, .slice ao16 t11.2.1.length cap16), (22, .int .i64 t11.2.2)] (by kernel_rfl) fun a ha => ?_
 refine al (cs := (cS_api_Attrs (⟨(0 : Int), ([] : List S_api_Segment), (0 : Int), (0 : Int), (⟨(0 : Int), (List.replicate 16 (0 : Int))⟩ : S_api_Addr), ([] : List S_api_Addr), ([] : List (List Int)), ([] : List S_api_Tunnel)⟩ : S_api_Attrs) none 0 none 0 none 0 none 0)) (z := .agg (cS_api_Attrs (⟨(0 : Int), ([] : List S_api_Segment), (0 : Int), (0 : Int), (⟨(0 : Int), (List.replicate 16 (0 : Int))⟩ : S_api_Addr), ([] : List S_api_Addr), ([] : List (List Int)), ([] : List S_api_Tunnel)⟩ : S_api_Attrs) none 0 none 0 none 0 none 0).toArray) ha (fun w => by kernel_rfl) rfl rfl rfl rfl fun a w17 g18 hN19 ha => ?_
 have o1 : Ok [] ([g4] ++ (M)) w11.heap.size := Ok.nil _ _
 have o2 : Ok ([g18] ++ ([g4] ++ (M))) ([g4] ++ (M)) w11.heap.size := (Ok.app (hN19.ok _) (Ok.refl _ _))
 have f9 := f9.chg hN19.chg o1 o2
 have f12 := f12.chg hN19.chg o1 o2
 have f13 := f13.chg hN19.chg o1 o2
 have f14 := f14.chg hN19.chg o1 o2
 have f15 := f15.chg hN19.chg o1 o2
 have f16 := f16.chg hN19.chg o1 o2
 have p_i20_i6 : ∀ x ∈ [g18], x ∉ ([g4]) := fun x hx hy => absurd (hM x (ml hy)) (Nat.not_lt.2 ((hN19.ge1) x hx))
 have p_i20_M : ∀ x ∈ [g18], x ∉ M := fun x hx hy => absurd (hM x (mr (hy))) (Nat.not_lt.2 ((hN19.ge1) x hx))
 have e_i20 : ∀ x ∈ [g18], w.heap.size ≤ x := fun x hx => Nat.le_trans hC.size ((hN19.ge1) x hx)
 have hM : MS ([g18] ++ ([g4] ++ (M))) w17 := (MS.app hN19.ms (hM.chg hN19.chg))
 have hC := hC.trans hN19.chg (Ok.nil _ _)
 have hBg18 : Box w17 g18 (cS_api_Attrs (⟨(0 : Int), ([] : List S_api_Segment), (0 : Int), (0 : Int), (⟨(0 : Int), (List.replicate 16 (0 : Int))⟩ : S_api_Addr), ([] : List S_api_Addr), ([] : List (List Int)), ([] : List S_api_Tunnel)⟩ : S_api_Attrs) none 0 none 0 none 0 none 0) := hN19.box
 refine stA (l := (cS_api_Attrs t11.1 ao12 cap12 ao13 cap13 ao14 cap14 ao15 cap15)) ha rfl rfl rfl (by kernel_rfl) rfl rfl hBg18 rfl fun a w21 ha hb2 hc22 _ => ?_
 have o1 : Ok [g18] ([g18] ++ ([g4] ++ (M))) w17.heap.size := (fun _ h => .inl (ml h))
 have o2 : Ok ([g18] ++ ([g4] ++ (M))) ([g18] ++ ([g4] ++ (M))) w17.heap.size := (Ok.refl _ _)
 have f9 := f9.chg hc22 o1 o2
 have f12 := f12.chg hc22 o1 o2
 have f13 := f13.chg hc22 o1 o2
 have f14 := f14.chg hc22 o1 o2
 have f15 := f15.chg hc22 o1 o2
 have f16 := f16.chg hc22 o1 o2
 have hM : MS ([g18] ++ ([g4] ++ (M))) w21 := (hM.chg hc22)
 have hC := hC.trans hc22 (fun x h => .inr (e_i20 x h))
 have hBg18 : Box w21 g18 (cS_api_Attrs t11.1 ao12 cap12 ao13 cap13 ao14 cap14 ao15 cap15) := hb2
 refine seg ha 2 [(1, .slice ao9 t8.1.length cap9), (2, .int .i64 t8.2), (3, .pointer (some ⟨g18, 0, none⟩)), (4, .slice ao16 t11.2.1.length cap16), (5, .int .i64 t11.2.2)] (by kernel_rfl) fun a ha => ?_
 refine hK10 _ _ ?_; try clear hK10 K10
 refine wp_seq_k fun K23 hK23 => ?_
 refine wp_region_lit ?_
 refine bsl (vals := ([.int .u8 (3 : Int)] : List Value)) (T := 5) ha rfl (([.int .u8 (3 : Int)] : List Value) ++ ([] : List Value)) (fun w => by kernel_rfl) rfl rfl rfl fun a w24 g25 hN26 ha => ?_
 have o1 : Ok [] ([g18] ++ ([g4] ++ (M))) w21.heap.size := Ok.nil _ _
 have o2 : Ok ([g25] ++ ([g18] ++ ([g4] ++ (M)))) ([g18] ++ ([g4] ++ (M))) w21.heap.size := (Ok.app (hN26.ok _) (Ok.refl _ _))
 have f9 := f9.chg hN26.chg o1 o2
 have f16 := f16.chg hN26.chg o1 o2
 have f12 := f12.chg hN26.chg o1 o2
 have f13 := f13.chg hN26.chg o1 o2
 have f14 := f14.chg hN26.chg o1 o2
 have f15 := f15.chg hN26.chg o1 o2
 have hBg18 := hBg18.chg hN26.chg (fun h => nomatch h)
 have p_i27_i20 : ∀ x ∈ [g25], x ∉ ([g18]) := fun x hx hy => absurd (hM x (ml hy)) (Nat.not_lt.2 ((hN26.ge1) x hx))
 have p_i27_i6 : ∀ x ∈ [g25], x ∉ ([g4]) := fun x hx hy => absurd (hM x (mr (ml hy))) (Nat.not_lt.2 ((hN26.ge1) x hx))
 have p_i27_M : ∀ x ∈ [g25], x ∉ M := fun x hx hy => absurd (hM x (mr (mr (hy)))) (Nat.not_lt.2 ((hN26.ge1) x hx))
 have e_i27 : ∀ x ∈ [g25], w.heap.size ≤ x := fun x hx => Nat.le_trans hC.size ((hN26.ge1) x hx)
 have hM : MS ([g25] ++ ([g18] ++ ([g4] ++ (M)))) w24 := (MS.app hN26.ms (hM.chg hN26.chg))
 have hC := hC.trans hN26.chg (Ok.nil _ _)
 have f28 : Own (rInt .u8) 5 w24 ([g25] ++ ([g18] ++ ([g4] ++ (M)))) (some ⟨g25, 0, none⟩) 1 ([(3 : Int)] : List Int) := hN26.own ⟨([.int .u8 (3 : Int)] : List Value), _, rfl, rfl, rfl⟩ (Nat.le_of_ble_eq_true rfl)
 refine opk (v := .agg (cS_api_Raw (⟨(64 : Int), (1 : Int), ([(3 : Int)] : List Int)⟩ : S_api_Raw) (some ⟨g25, 0, none⟩) 1).toArray) ha rfl rfl rfl rfl rfl (fun w => by kernel_rfl) fun a ha => ?_
 have fz := f28.toRSl (M' := [g18] ++ ([g4] ++ (M))) (fun _ h => .inl (mr (h))) (fun x hx hm => (List.mem_append.1 hm).elim (fun h => p_i27_i20 x hx h) (fun h => (List.mem_append.1 h).elim (fun h => p_i27_i6 x hx h) (fun h => p_i27_M x hx h)))
 have o1 : Ok [] ([g25] ++ ([g18] ++ ([g4] ++ (M)))) w24.heap.size := Ok.nil _ _
 have o2 : Ok ([g18] ++ ([g4] ++ (M))) ([g25] ++ ([g18] ++ ([g4] ++ (M)))) w24.heap.size := (fun _ h => .inl (mr (h)))
 have f9 := f9.chg (Chg.refl [] _) o1 o2
 have f16 := f16.chg (Chg.refl [] _) o1 o2
 have f12 := f12.chg (Chg.refl [] _) o1 o2
 have f13 := f13.chg (Chg.refl [] _) o1 o2
 have f14 := f14.chg (Chg.refl [] _) o1 o2
 have f15 := f15.chg (Chg.refl [] _) o1 o2
 have hM : MS ([g18] ++ ([g4] ++ (M))) w24 := (fun x h => hM.chg (Chg.refl [] _) x (mr (h)))
 have f28 := fz
 refine bslA (vals := ([.agg (cS_api_Raw (⟨(64 : Int), (1 : Int), ([(3 : Int)] : List Int)⟩ : S_api_Raw) (some ⟨g25, 0, none⟩) 1).toArray] : List Value)) (T := 61) (z := .agg (cS_api_Raw (⟨(0 : Int), (0 : Int), ([] : List Int)⟩ : S_api_Raw) none 0).toArray) ha rfl (by kernel_rfl) rfl (by kernel_rfl) (s := 3) (by kernel_rfl) rfl rfl (fun w => by kernel_rfl) (by kernel_rfl) rfl rfl rfl fun a w29 g30 hN31 ha => ?_
 have hN31 := (show New _ _ _ (.cells (((cS_api_Raw (⟨(64 : Int), (1 : Int), ([(3 : Int)] : List Int)⟩ : S_api_Raw) (some ⟨g25, 0, none⟩) 1) ++ ([] : List Value))).toArray 61 (0, 0)) from hN31)
 have o1 : Ok [] ([g18] ++ ([g4] ++ (M))) w24.heap.size := Ok.nil _ _
 have o2 : Ok ([g30] ++ ([g18] ++ ([g4] ++ (M)))) ([g18] ++ ([g4] ++ (M))) w24.heap.size := (Ok.app (hN31.ok _) (Ok.refl _ _))
 have f9 := f9.chg hN31.chg o1 o2
 have f16 := f16.chg hN31.chg o1 o2
 have f28 := f28.chg hN31.chg o1 o2
 have f12 := f12.chg hN31.chg o1 o2
 have f13 := f13.chg hN31.chg o1 o2
 have f14 := f14.chg hN31.chg o1 o2
 have f15 := f15.chg hN31.chg o1 o2
 have hBg18 := hBg18.chg hN31.chg (fun h => nomatch h)
 have p_i32_i20 : ∀ x ∈ [g30], x ∉ ([g18]) := fun x hx hy => absurd (hM x (ml hy)) (Nat.not_lt.2 ((hN31.ge1) x hx))
 have p_i32_i6 : ∀ x ∈ [g30], x ∉ ([g4]) := fun x hx hy => absurd (hM x (mr (ml hy))) (Nat.not_lt.2 ((hN31.ge1) x hx))
 have p_i32_M : ∀ x ∈ [g30], x ∉ M := fun x hx hy => absurd (hM x (mr (mr (hy)))) (Nat.not_lt.2 ((hN31.ge1) x hx))
 have e_i32 : ∀ x ∈ [g30], w.heap.size ≤ x := fun x hx => Nat.le_trans hC.size ((hN31.ge1) x hx)
 have hM : MS ([g30] ++ ([g18] ++ ([g4] ++ (M)))) w29 := (MS.app hN31.ms (hM.chg hN31.chg))
 have hC := hC.trans hN31.chg (Ok.nil _ _)
 have f33 : Own rS_api_Raw 61 w29 ([g30] ++ ([g18] ++ ([g4] ++ (M)))) (some ⟨g30, 0, none⟩) 1 ([(⟨(64 : Int), (1 : Int), ([(3 : Int)] : List Int)⟩ : S_api_Raw)] : List S_api_Raw) := hN31.own ⟨(cS_api_Raw (⟨(64 : Int), (1 : Int), ([(3 : Int)] : List Int)⟩ : S_api_Raw) (some ⟨g25, 0, none⟩) 1), _, rfl, (rS_api_Raw.mk (⟨(64 : Int), (1 : Int), ([(3 : Int)] : List Int)⟩ : S_api_Raw) f28), rfl⟩ (Nat.le_of_ble_eq_true rfl)
 have fz := f33.toRSl (M' := [g18] ++ ([g4] ++ (M))) (fun _ h => .inl (mr (h))) (fun x hx hm => (List.mem_append.1 hm).elim (fun h => p_i32_i20 x hx h) (fun h => (List.mem_append.1 h).elim (fun h => p_i32_i6 x hx h) (fun h => p_i32_M x hx h)))
 have o1 : Ok [] ([g30] ++ ([g18] ++ ([g4] ++ (M)))) w29.heap.size := Ok.nil _ _
 have o2 : Ok ([g18] ++ ([g4] ++ (M))) ([g30] ++ ([g18] ++ ([g4] ++ (M)))) w29.heap.size := (fun _ h => .inl (mr (h)))
 have f9 := f9.chg (Chg.refl [] _) o1 o2
 have f16 := f16.chg (Chg.refl [] _) o1 o2
 have f12 := f12.chg (Chg.refl [] _) o1 o2
 have f13 := f13.chg (Chg.refl [] _) o1 o2
 have f14 := f14.chg (Chg.refl [] _) o1 o2
 have f15 := f15.chg (Chg.refl [] _) o1 o2
 have hM : MS ([g18] ++ ([g4] ++ (M))) w29 := (fun x h => hM.chg (Chg.refl [] _) x (mr (h)))
 have f33 := fz
 obtain ⟨t34, H34, H⟩ := bind_some H
 refine cl ha (by rfl) (by kernel_rfl) (by rfl) (by rfl) (by rfl) (attr_Read.walk w29 _ hM ([(⟨(64 : Int), (1 : Int), ([(3 : Int)] : List Int)⟩ : S_api_Raw)] : List S_api_Raw) (some ⟨g30, 0, none⟩) 1 f33 k _ H34) ?_
 rintro _ w34 ⟨ao35, cap35, ao36, cap36, ao37, cap37, ao38, cap38, ao39, cap39, rfl, f35, f36, f37, f38, f39, hc34, hMn⟩ a ha
 have o1 : Ok [] ([g18] ++ ([g4] ++ (M))) w29.heap.size := Ok.nil _ _
 have o2 : Ok ([g18] ++ ([g4] ++ (M))) ([g18] ++ ([g4] ++ (M))) w29.heap.size := (Ok.refl _ _)
 have f9 := f9.chg hc34 o1 o2
 have f16 := f16.chg hc34 o1 o2
 have f33 := f33.chg hc34 o1 o2
 have f12 := f12.chg hc34 o1 o2
 have f13 := f13.chg hc34 o1 o2
 have f14 := f14.chg hc34 o1 o2
 have f15 := f15.chg hc34 o1 o2
 have hBg18 := hBg18.chg hc34 (fun h => nomatch h)
 have hM : MS ([g18] ++ ([g4] ++ (M))) w34 := (hM.chg hc34)
 have hC := hC.trans hc34 (Ok.nil _ _)
 refine seg ha 4 [(1, .slice ao9 t8.1.length cap9), (2, .int .i64 t8.2), (3, .pointer (some ⟨g18, 0, none⟩)), (4, .slice ao16 t11.2.1.length cap16), (5, .int .i64 t11.2.2), (28, .agg (cS_api_Attrs t34.1 ao35 cap35 ao36 cap36 ao37 cap37 ao38 cap38).toArray), (29, .slice ao39 t34.2.1.length cap39), (30, .int .i64 t34.2.2)] (by kernel_rfl) fun a ha => ?_
 refine al (cs := (cS_api_Attrs (⟨(0 : Int), ([] : List S_api_Segment), (0 : Int), (0 : Int), (⟨(0 : Int), (List.replicate 16 (0 : Int))⟩ : S_api_Addr), ([] : List S_api_Addr), ([] : List (List Int)), ([] : List S_api_Tunnel)⟩ : S_api_Attrs) none 0 none 0 none 0 none 0)) (z := .agg (cS_api_Attrs (⟨(0 : Int), ([] : List S_api_Segment), (0 : Int), (0 : Int), (⟨(0 : Int), (List.replicate 16 (0 : Int))⟩ : S_api_Addr), ([] : List S_api_Addr), ([] : List (List Int)), ([] : List S_api_Tunnel)⟩ : S_api_Attrs) none 0 none 0 none 0 none 0).toArray) ha (fun w => by kernel_rfl) rfl rfl rfl rfl fun a w40 g41 hN42 ha => ?_
 have o1 : Ok [] ([g18] ++ ([g4] ++ (M))) w34.heap.size := Ok.nil _ _
 have o2 : Ok ([g41] ++ ([g18] ++ ([g4] ++ (M)))) ([g18] ++ ([g4] ++ (M))) w34.heap.size := (Ok.app (hN42.ok _) (Ok.refl _ _))
 have f9 := f9.chg hN42.chg o1 o2
 have f16 := f16.chg hN42.chg o1 o2
 have f35 := f35.chg hN42.chg o1 o2
 have f36 := f36.chg hN42.chg o1 o2
 have f37 := f37.chg hN42.chg o1 o2
 have f38 := f38.chg hN42.chg o1 o2
 have f39 := f39.chg hN42.chg o1 o2
 have f12 := f12.chg hN42.chg o1 o2
 have f13 := f13.chg hN42.chg o1 o2
 have f14 := f14.chg hN42.chg o1 o2
 have f15 := f15.chg hN42.chg o1 o2
 have hBg18 := hBg18.chg hN42.chg (fun h => nomatch h)
 have p_i43_i20 : ∀ x ∈ [g41], x ∉ ([g18]) := fun x hx hy => absurd (hM x (ml hy)) (Nat.not_lt.2 ((hN42.ge1) x hx))
 have p_i43_i6 : ∀ x ∈ [g41], x ∉ ([g4]) := fun x hx hy => absurd (hM x (mr (ml hy))) (Nat.not_lt.2 ((hN42.ge1) x hx))
 have p_i43_M : ∀ x ∈ [g41], x ∉ M := fun x hx hy => absurd (hM x (mr (mr (hy)))) (Nat.not_lt.2 ((hN42.ge1) x hx))
 have e_i43 : ∀ x ∈ [g41], w.heap.size ≤ x := fun x hx => Nat.le_trans hC.size ((hN42.ge1) x hx)
 have hM : MS ([g41] ++ ([g18] ++ ([g4] ++ (M)))) w40 := (MS.app hN42.ms (hM.chg hN42.chg))
 have hC := hC.trans hN42.chg (Ok.nil _ _)
 have hBg41 : Box w40 g41 (cS_api_Attrs (⟨(0 : Int), ([] : List S_api_Segment), (0 : Int), (0 : Int), (⟨(0 : Int), (List.replicate 16 (0 : Int))⟩ : S_api_Addr), ([] : List S_api_Addr), ([] : List (List Int)), ([] : List S_api_Tunnel)⟩ : S_api_Attrs) none 0 none 0 none 0 none 0) := hN42.box
 refine stA (l := (cS_api_Attrs t34.1 ao35 cap35 ao36 cap36 ao37 cap37 ao38 cap38)) ha rfl rfl rfl (by kernel_rfl) rfl rfl hBg41 rfl fun a w44 ha hb2 hc45 _ => ?_
 have o1 : Ok [g41] ([g41] ++ ([g18] ++ ([g4] ++ (M)))) w40.heap.size := (fun _ h => .inl (ml h))
 have o2 : Ok ([g41] ++ ([g18] ++ ([g4] ++ (M)))) ([g41] ++ ([g18] ++ ([g4] ++ (M)))) w40.heap.size := (Ok.refl _ _)
 have f9 := f9.chg hc45 o1 o2
 have f16 := f16.chg hc45 o1 o2
 have f35 := f35.chg hc45 o1 o2
 have f36 := f36.chg hc45 o1 o2
 have f37 := f37.chg hc45 o1 o2
 have f38 := f38.chg hc45 o1 o2
 have f39 := f39.chg hc45 o1 o2
 have f12 := f12.chg hc45 o1 o2
 have f13 := f13.chg hc45 o1 o2
 have f14 := f14.chg hc45 o1 o2
 have f15 := f15.chg hc45 o1 o2
 have hBg18 := hBg18.chg hc45 ((fun x (hx : x ∈ [g18]) (hy : x ∈ [g41]) => p_i43_i20 x hy hx) g18 (by simp))
 have hM : MS ([g41] ++ ([g18] ++ ([g4] ++ (M)))) w44 := (hM.chg hc45)
 have hC := hC.trans hc45 (fun x h => .inr (e_i43 x h))
 have hBg41 : Box w44 g41 (cS_api_Attrs t34.1 ao35 cap35 ao36 cap36 ao37 cap37 ao38 cap38) := hb2
 refine seg ha 2 [(1, .slice ao9 t8.1.length cap9), (2, .int .i64 t8.2), (3, .pointer (some ⟨g18, 0, none⟩)), (4, .slice ao16 t11.2.1.length cap16), (5, .int .i64 t11.2.2), (8, .int .i64 t34.2.2)] (by kernel_rfl) fun a ha => ?_
 refine hK23 _ _ ?_; try clear hK23 K23
 refine wp_seq_k fun K46 hK46 => ?_
 refine wp_region_lit ?_
 refine opk (v := .agg (cS_api_Raw (⟨(64 : Int), (77 : Int), ([] : List Int)⟩ : S_api_Raw) none 0).toArray) ha rfl rfl rfl rfl rfl (fun w => by kernel_rfl) fun a ha => ?_
 refine bslA (vals := ([.agg (cS_api_Raw (⟨(64 : Int), (77 : Int), ([] : List Int)⟩ : S_api_Raw) none 0).toArray] : List Value)) (T := 61) (z := .agg (cS_api_Raw (⟨(0 : Int), (0 : Int), ([] : List Int)⟩ : S_api_Raw) none 0).toArray) ha rfl (by kernel_rfl) rfl (by kernel_rfl) (s := 3) (by kernel_rfl) rfl rfl (fun w => by kernel_rfl) (by kernel_rfl) rfl rfl rfl fun a w47 g48 hN49 ha => ?_
 have hN49 := (show New _ _ _ (.cells (((cS_api_Raw (⟨(64 : Int), (77 : Int), ([] : List Int)⟩ : S_api_Raw) none 0) ++ ([] : List Value))).toArray 61 (0, 0)) from hN49)
 have o1 : Ok [] ([g41] ++ ([g18] ++ ([g4] ++ (M)))) w44.heap.size := Ok.nil _ _
 have o2 : Ok ([g48] ++ ([g41] ++ ([g18] ++ ([g4] ++ (M))))) ([g41] ++ ([g18] ++ ([g4] ++ (M)))) w44.heap.size := (Ok.app (hN49.ok _) (Ok.refl _ _))
 have f9 := f9.chg hN49.chg o1 o2
 have f16 := f16.chg hN49.chg o1 o2
 have f12 := f12.chg hN49.chg o1 o2
 have f13 := f13.chg hN49.chg o1 o2
 have f14 := f14.chg hN49.chg o1 o2
 have f15 := f15.chg hN49.chg o1 o2
 have f35 := f35.chg hN49.chg o1 o2
 have f36 := f36.chg hN49.chg o1 o2
 have f37 := f37.chg hN49.chg o1 o2
 have f38 := f38.chg hN49.chg o1 o2
 have hBg18 := hBg18.chg hN49.chg (fun h => nomatch h)
 have hBg41 := hBg41.chg hN49.chg (fun h => nomatch h)
 have p_i50_i43 : ∀ x ∈ [g48], x ∉ ([g41]) := fun x hx hy => absurd (hM x (ml hy)) (Nat.not_lt.2 ((hN49.ge1) x hx))
 have p_i50_i20 : ∀ x ∈ [g48], x ∉ ([g18]) := fun x hx hy => absurd (hM x (mr (ml hy))) (Nat.not_lt.2 ((hN49.ge1) x hx))
 have p_i50_i6 : ∀ x ∈ [g48], x ∉ ([g4]) := fun x hx hy => absurd (hM x (mr (mr (ml hy)))) (Nat.not_lt.2 ((hN49.ge1) x hx))
 have p_i50_M : ∀ x ∈ [g48], x ∉ M := fun x hx hy => absurd (hM x (mr (mr (mr (hy))))) (Nat.not_lt.2 ((hN49.ge1) x hx))
 have e_i50 : ∀ x ∈ [g48], w.heap.size ≤ x := fun x hx => Nat.le_trans hC.size ((hN49.ge1) x hx)
 have hM : MS ([g48] ++ ([g41] ++ ([g18] ++ ([g4] ++ (M))))) w47 := (MS.app hN49.ms (hM.chg hN49.chg))
 have hC := hC.trans hN49.chg (Ok.nil _ _)
 have f51 : Own rS_api_Raw 61 w47 ([g48] ++ ([g41] ++ ([g18] ++ ([g4] ++ (M))))) (some ⟨g48, 0, none⟩) 1 ([(⟨(64 : Int), (77 : Int), ([] : List Int)⟩ : S_api_Raw)] : List S_api_Raw) := hN49.own ⟨(cS_api_Raw (⟨(64 : Int), (77 : Int), ([] : List Int)⟩ : S_api_Raw) none 0), _, rfl, (rS_api_Raw.mk (⟨(64 : Int), (77 : Int), ([] : List Int)⟩ : S_api_Raw) (RSl.nil (ao := none) (cap := 0) (Nat.zero_le _))), rfl⟩ (Nat.le_of_ble_eq_true rfl)
 have fz := f51.toRSl (M' := [g41] ++ ([g18] ++ ([g4] ++ (M)))) (fun _ h => .inl (mr (h))) (fun x hx hm => (List.mem_append.1 hm).elim (fun h => p_i50_i43 x hx h) (fun h => (List.mem_append.1 h).elim (fun h => p_i50_i20 x hx h) (fun h => (List.mem_append.1 h).elim (fun h => p_i50_i6 x hx h) (fun h => p_i50_M x hx h))))
 have o1 : Ok [] ([g48] ++ ([g41] ++ ([g18] ++ ([g4] ++ (M))))) w47.heap.size := Ok.nil _ _
 have o2 : Ok ([g41] ++ ([g18] ++ ([g4] ++ (M)))) ([g48] ++ ([g41] ++ ([g18] ++ ([g4] ++ (M))))) w47.heap.size := (fun _ h => .inl (mr (h)))
 have f9 := f9.chg (Chg.refl [] _) o1 o2
 have f16 := f16.chg (Chg.refl [] _) o1 o2
 have f12 := f12.chg (Chg.refl [] _) o1 o2
 have f13 := f13.chg (Chg.refl [] _) o1 o2
 have f14 := f14.chg (Chg.refl [] _) o1 o2
 have f15 := f15.chg (Chg.refl [] _) o1 o2
 have f35 := f35.chg (Chg.refl [] _) o1 o2
 have f36 := f36.chg (Chg.refl [] _) o1 o2
 have f37 := f37.chg (Chg.refl [] _) o1 o2
 have f38 := f38.chg (Chg.refl [] _) o1 o2
 have hM : MS ([g41] ++ ([g18] ++ ([g4] ++ (M)))) w47 := (fun x h => hM.chg (Chg.refl [] _) x (mr (h)))
 have f51 := fz
 obtain ⟨t52, H52, H⟩ := bind_some H
 refine cl ha (by rfl) (by kernel_rfl) (by rfl) (by rfl) (by rfl) (attr_Read.walk w47 _ hM ([(⟨(64 : Int), (77 : Int), ([] : List Int)⟩ : S_api_Raw)] : List S_api_Raw) (some ⟨g48, 0, none⟩) 1 f51 k _ H52) ?_
 rintro _ w52 ⟨ao53, cap53, ao54, cap54, ao55, cap55, ao56, cap56, ao57, cap57, rfl, f53, f54, f55, f56, f57, hc52, hMn⟩ a ha
 have o1 : Ok [] ([g41] ++ ([g18] ++ ([g4] ++ (M)))) w47.heap.size := Ok.nil _ _
 have o2 : Ok ([g41] ++ ([g18] ++ ([g4] ++ (M)))) ([g41] ++ ([g18] ++ ([g4] ++ (M)))) w47.heap.size := (Ok.refl _ _)
 have f9 := f9.chg hc52 o1 o2
 have f16 := f16.chg hc52 o1 o2
 have f51 := f51.chg hc52 o1 o2
 have f12 := f12.chg hc52 o1 o2
 have f13 := f13.chg hc52 o1 o2
 have f14 := f14.chg hc52 o1 o2
 have f15 := f15.chg hc52 o1 o2
 have f35 := f35.chg hc52 o1 o2
 have f36 := f36.chg hc52 o1 o2
 have f37 := f37.chg hc52 o1 o2
 have f38 := f38.chg hc52 o1 o2
 have hBg18 := hBg18.chg hc52 (fun h => nomatch h)
 have hBg41 := hBg41.chg hc52 (fun h => nomatch h)
 have hM : MS ([g41] ++ ([g18] ++ ([g4] ++ (M)))) w52 := (hM.chg hc52)
 have hC := hC.trans hc52 (Ok.nil _ _)
 refine seg ha 4 [(1, .slice ao9 t8.1.length cap9), (2, .int .i64 t8.2), (3, .pointer (some ⟨g18, 0, none⟩)), (4, .slice ao16 t11.2.1.length cap16), (5, .int .i64 t11.2.2), (8, .int .i64 t34.2.2), (35, .agg (cS_api_Attrs t52.1 ao53 cap53 ao54 cap54 ao55 cap55 ao56 cap56).toArray), (36, .slice ao57 t52.2.1.length cap57), (37, .int .i64 t52.2.2)] (by kernel_rfl) fun a ha => ?_
 refine al (cs := (cS_api_Attrs (⟨(0 : Int), ([] : List S_api_Segment), (0 : Int), (0 : Int), (⟨(0 : Int), (List.replicate 16 (0 : Int))⟩ : S_api_Addr), ([] : List S_api_Addr), ([] : List (List Int)), ([] : List S_api_Tunnel)⟩ : S_api_Attrs) none 0 none 0 none 0 none 0)) (z := .agg (cS_api_Attrs (⟨(0 : Int), ([] : List S_api_Segment), (0 : Int), (0 : Int), (⟨(0 : Int), (List.replicate 16 (0 : Int))⟩ : S_api_Addr), ([] : List S_api_Addr), ([] : List (List Int)), ([] : List S_api_Tunnel)⟩ : S_api_Attrs) none 0 none 0 none 0 none 0).toArray) ha (fun w => by kernel_rfl) rfl rfl rfl rfl fun a w58 g59 hN60 ha => ?_
 have o1 : Ok [] ([g41] ++ ([g18] ++ ([g4] ++ (M)))) w52.heap.size := Ok.nil _ _
 have o2 : Ok ([g59] ++ ([g41] ++ ([g18] ++ ([g4] ++ (M))))) ([g41] ++ ([g18] ++ ([g4] ++ (M)))) w52.heap.size := (Ok.app (hN60.ok _) (Ok.refl _ _))
 have f9 := f9.chg hN60.chg o1 o2
 have f16 := f16.chg hN60.chg o1 o2
 have f53 := f53.chg hN60.chg o1 o2
 have f54 := f54.chg hN60.chg o1 o2
 have f55 := f55.chg hN60.chg o1 o2
 have f56 := f56.chg hN60.chg o1 o2
 have f57 := f57.chg hN60.chg o1 o2
 have f12 := f12.chg hN60.chg o1 o2
 have f13 := f13.chg hN60.chg o1 o2
 have f14 := f14.chg hN60.chg o1 o2
 have f15 := f15.chg hN60.chg o1 o2
 have f35 := f35.chg hN60.chg o1 o2
 have f36 := f36.chg hN60.chg o1 o2
 have f37 := f37.chg hN60.chg o1 o2
 have f38 := f38.chg hN60.chg o1 o2
 have hBg18 := hBg18.chg hN60.chg (fun h => nomatch h)
 have hBg41 := hBg41.chg hN60.chg (fun h => nomatch h)
 have p_i61_i43 : ∀ x ∈ [g59], x ∉ ([g41]) := fun x hx hy => absurd (hM x (ml hy)) (Nat.not_lt.2 ((hN60.ge1) x hx))
 have p_i61_i20 : ∀ x ∈ [g59], x ∉ ([g18]) := fun x hx hy => absurd (hM x (mr (ml hy))) (Nat.not_lt.2 ((hN60.ge1) x hx))
 have p_i61_i6 : ∀ x ∈ [g59], x ∉ ([g4]) := fun x hx hy => absurd (hM x (mr (mr (ml hy)))) (Nat.not_lt.2 ((hN60.ge1) x hx))
 have p_i61_M : ∀ x ∈ [g59], x ∉ M := fun x hx hy => absurd (hM x (mr (mr (mr (hy))))) (Nat.not_lt.2 ((hN60.ge1) x hx))
 have e_i61 : ∀ x ∈ [g59], w.heap.size ≤ x := fun x hx => Nat.le_trans hC.size ((hN60.ge1) x hx)
 have hM : MS ([g59] ++ ([g41] ++ ([g18] ++ ([g4] ++ (M))))) w58 := (MS.app hN60.ms (hM.chg hN60.chg))
 have hC := hC.trans hN60.chg (Ok.nil _ _)
 have hBg59 : Box w58 g59 (cS_api_Attrs (⟨(0 : Int), ([] : List S_api_Segment), (0 : Int), (0 : Int), (⟨(0 : Int), (List.replicate 16 (0 : Int))⟩ : S_api_Addr), ([] : List S_api_Addr), ([] : List (List Int)), ([] : List S_api_Tunnel)⟩ : S_api_Attrs) none 0 none 0 none 0 none 0) := hN60.box
 refine stA (l := (cS_api_Attrs t52.1 ao53 cap53 ao54 cap54 ao55 cap55 ao56 cap56)) ha rfl rfl rfl (by kernel_rfl) rfl rfl hBg59 rfl fun a w62 ha hb2 hc63 _ => ?_
 have o1 : Ok [g59] ([g59] ++ ([g41] ++ ([g18] ++ ([g4] ++ (M))))) w58.heap.size := (fun _ h => .inl (ml h))
 have o2 : Ok ([g59] ++ ([g41] ++ ([g18] ++ ([g4] ++ (M))))) ([g59] ++ ([g41] ++ ([g18] ++ ([g4] ++ (M))))) w58.heap.size := (Ok.refl _ _)
 have f9 := f9.chg hc63 o1 o2
 have f16 := f16.chg hc63 o1 o2
 have f53 := f53.chg hc63 o1 o2
 have f54 := f54.chg hc63 o1 o2
 have f55 := f55.chg hc63 o1 o2
 have f56 := f56.chg hc63 o1 o2
 have f57 := f57.chg hc63 o1 o2
 have f12 := f12.chg hc63 o1 o2
 have f13 := f13.chg hc63 o1 o2
 have f14 := f14.chg hc63 o1 o2
 have f15 := f15.chg hc63 o1 o2
 have f35 := f35.chg hc63 o1 o2
 have f36 := f36.chg hc63 o1 o2
 have f37 := f37.chg hc63 o1 o2
 have f38 := f38.chg hc63 o1 o2
 have hBg18 := hBg18.chg hc63 ((fun x (hx : x ∈ [g18]) (hy : x ∈ [g59]) => p_i61_i20 x hy hx) g18 (by simp))
 have hBg41 := hBg41.chg hc63 ((fun x (hx : x ∈ [g41]) (hy : x ∈ [g59]) => p_i61_i43 x hy hx) g41 (by simp))
 have hM : MS ([g59] ++ ([g41] ++ ([g18] ++ ([g4] ++ (M))))) w62 := (hM.chg hc63)
 have hC := hC.trans hc63 (fun x h => .inr (e_i61 x h))
 have hBg59 : Box w62 g59 (cS_api_Attrs t52.1 ao53 cap53 ao54 cap54 ao55 cap55 ao56 cap56) := hb2
 refine seg ha 2 [(1, .slice ao9 t8.1.length cap9), (2, .int .i64 t8.2), (3, .pointer (some ⟨g18, 0, none⟩)), (4, .slice ao16 t11.2.1.length cap16), (5, .int .i64 t11.2.2), (8, .int .i64 t34.2.2), (11, .int .i64 t52.2.2)] (by kernel_rfl) fun a ha => ?_
 refine hK46 _ _ ?_; try clear hK46 K46
 refine wp_seq_k fun K64 hK64 => ?_
 refine wp_region_lit ?_
 obtain ⟨s65, H65, H⟩ := bind_some H
 have J65 : ∀ (a : Act) (w65 : World), Has a Tryd.f25.ntmps [(0, .bool s65)] → (RSl rS_api_Segment 93 w65 ([g59] ++ ([g41] ++ ([g18] ++ (M)))) ao12 cap12 t11.1.Path) → (RSl rS_api_Addr 24 w65 ([g59] ++ ([g41] ++ ([g18] ++ (M)))) ao13 cap13 t11.1.Clusters) → (RSl (rArr .u8 8) 114 w65 ([g59] ++ ([g41] ++ ([g18] ++ (M)))) ao14 cap14 t11.1.Exts) → (RSl rS_api_Tunnel 27 w65 ([g59] ++ ([g41] ++ ([g18] ++ (M)))) ao15 cap15 t11.1.Tunnels) → (RSl rS_api_Segment 93 w65 ([g59] ++ ([g41] ++ ([g18] ++ (M)))) ao35 cap35 t34.1.Path) → (RSl rS_api_Addr 24 w65 ([g59] ++ ([g41] ++ ([g18] ++ (M)))) ao36 cap36 t34.1.Clusters) → (RSl (rArr .u8 8) 114 w65 ([g59] ++ ([g41] ++ ([g18] ++ (M)))) ao37 cap37 t34.1.Exts) → (RSl rS_api_Tunnel 27 w65 ([g59] ++ ([g41] ++ ([g18] ++ (M)))) ao38 cap38 t34.1.Tunnels) → (RSl rS_api_Segment 93 w65 ([g59] ++ ([g41] ++ ([g18] ++ (M)))) ao53 cap53 t52.1.Path) → (RSl rS_api_Addr 24 w65 ([g59] ++ ([g41] ++ ([g18] ++ (M)))) ao54 cap54 t52.1.Clusters) → (RSl (rArr .u8 8) 114 w65 ([g59] ++ ([g41] ++ ([g18] ++ (M)))) ao55 cap55 t52.1.Exts) → (RSl rS_api_Tunnel 27 w65 ([g59] ++ ([g41] ++ ([g18] ++ (M)))) ao56 cap56 t52.1.Tunnels) → (Box w65 g18 (cS_api_Attrs t11.1 ao12 cap12 ao13 cap13 ao14 cap14 ao15 cap15)) → (Box w65 g41 (cS_api_Attrs t34.1 ao35 cap35 ao36 cap36 ao37 cap37 ao38 cap38)) → (Box w65 g59 (cS_api_Attrs t52.1 ao53 cap53 ao54 cap54 ao55 cap55 ao56 cap56)) → (Chg [] w w65) → (MS ([g59] ++ ([g41] ++ ([g18] ++ (M)))) w65) → K64 a w65 := by
  intro a w65 ha f12 f13 f14 f15 f35 f36 f37 f38 f53 f54 f55 f56 hBg18 hBg41 hBg59 hC hM
  refine hK64 _ _ ?_; try clear hK64 K64
  refine wp_ret ?_
  try simp only [Exit.then, Exit.inBlock]
  have o1 : Ok [] ([g59] ++ ([g41] ++ ([g18] ++ (M)))) w65.heap.size := Ok.nil _ _
  have o2 : Ok (M) ([g59] ++ ([g41] ++ ([g18] ++ (M)))) w65.heap.size := (fun _ h => .inl (mr (mr (mr (h)))))
  have f12 := f12.chg (Chg.refl [] _) o1 o2
  have f13 := f13.chg (Chg.refl [] _) o1 o2
  have f14 := f14.chg (Chg.refl [] _) o1 o2
  have f15 := f15.chg (Chg.refl [] _) o1 o2
  have f35 := f35.chg (Chg.refl [] _) o1 o2
  have f36 := f36.chg (Chg.refl [] _) o1 o2
  have f37 := f37.chg (Chg.refl [] _) o1 o2
  have f38 := f38.chg (Chg.refl [] _) o1 o2
  have f53 := f53.chg (Chg.refl [] _) o1 o2
  have f54 := f54.chg (Chg.refl [] _) o1 o2
  have f55 := f55.chg (Chg.refl [] _) o1 o2
  have f56 := f56.chg (Chg.refl [] _) o1 o2
  have hM : MS (M) w65 := (fun x h => hM.chg (Chg.refl [] _) x (mr (mr (mr (h)))))
  obtain rfl := Option.some.inj H
  refine rt1 ha rfl rfl ?_
  exact ⟨rfl, hC, hM⟩
 have H := H65
 refine seg ha 3 [(40, .bool (t8.2 == (0 : Int))), (1, .slice ao9 t8.1.length cap9), (3, .pointer (some ⟨g18, 0, none⟩)), (4, .slice ao16 t11.2.1.length cap16), (5, .int .i64 t11.2.2), (8, .int .i64 t34.2.2), (11, .int .i64 t52.2.2)] (by kernel_rfl) fun a ha => ?_
 rcases Bool.eq_false_or_eq_true (t8.2 == (0 : Int)) with hb66 | hb66
 ·have ha := ha.lit hb66
  have H := ite_t hb66 H
  refine sgh ha 5 [2, 2, 2, 3, 0] [(45, .bool ((t8.1.length : Int) == (2 : Int))), (1, .slice ao9 t8.1.length cap9), (3, .pointer (some ⟨g18, 0, none⟩)), (4, .slice ao16 t11.2.1.length cap16), (5, .int .i64 t11.2.2), (8, .int .i64 t34.2.2), (11, .int .i64 t52.2.2)] (by kernel_rfl) fun a ha => ?_
  rcases Bool.eq_false_or_eq_true ((t8.1.length : Int) == (2 : Int)) with hb67 | hb67
  ·have ha := ha.lit hb67
   have H := ite_t hb67 H
   refine sgh ha 1 [2] [(3, .pointer (some ⟨g18, 0, none⟩)), (4, .slice ao16 t11.2.1.length cap16), (5, .int .i64 t11.2.2), (8, .int .i64 t34.2.2), (11, .int .i64 t52.2.2), (45, .bool true), (46, .slice ao9 t8.1.length cap9)] (by kernel_rfl) fun a ha => ?_
   obtain ⟨⟨hx68, hx68'⟩, H⟩ := ite_some H
   refine ix (r := rS_api_Raw) ha (by kernel_rfl) (by kernel_rfl) rfl rfl rfl rfl rfl f9 hx68 hx68' fun a ge69 oe70 cs71 hn74 hR72 hE73 ha => ?_
   rw [rd_get] at hR72
   obtain ⟨ao75, cap75, rfl, f75⟩ := rS_api_Raw.open hR72
   refine sgh ha 1 [2] [(3, .pointer (some ⟨g18, 0, none⟩)), (4, .slice ao16 t11.2.1.length cap16), (5, .int .i64 t11.2.2), (8, .int .i64 t34.2.2), (11, .int .i64 t52.2.2), (45, .bool true), (48, .pointer (some ⟨ge69, oe70 + 1, none⟩))] (by kernel_rfl) fun a ha => ?_
   refine ld ha rfl (by kernel_rfl) rfl rfl rfl (hE73 1 (.int .i64 ((rd t8.1 (1 : Int)).Kind)) (by kernel_rfl)) fun a ha => ?_
   refine sgh ha 3 [2, 3, 0] [(52, .bool (((rd t8.1 (1 : Int)).Kind) == (4 : Int))), (3, .pointer (some ⟨g18, 0, none⟩)), (4, .slice ao16 t11.2.1.length cap16), (5, .int .i64 t11.2.2), (8, .int .i64 t34.2.2), (11, .int .i64 t52.2.2)] (by kernel_rfl) fun a ha => ?_
   rcases Bool.eq_false_or_eq_true (((rd t8.1 (1 : Int)).Kind) == (4 : Int)) with hb76 | hb76
   ·have ha := ha.lit hb76
    have H := ite_t hb76 H
    refine sgh ha 1 [2] [(3, .pointer (some ⟨g18, 0, none⟩)), (4, .slice ao16 t11.2.1.length cap16), (5, .int .i64 t11.2.2), (8, .int .i64 t34.2.2), (11, .int .i64 t52.2.2), (52, .bool true), (53, .pointer (some ⟨g18, 0, none⟩))] (by kernel_rfl) fun a ha => ?_
    refine ld (v := .int .i64 t11.1.Origin) ha rfl (by kernel_rfl) rfl rfl rfl (hBg18.cell' (o := 0) rfl (by kernel_rfl)) fun a ha => ?_
    refine sgh ha 3 [2, 3, 0] [(57, .bool (t11.1.Origin == (0 : Int))), (3, .pointer (some ⟨g18, 0, none⟩)), (4, .slice ao16 t11.2.1.length cap16), (5, .int .i64 t11.2.2), (8, .int .i64 t34.2.2), (11, .int .i64 t52.2.2)] (by kernel_rfl) fun a ha => ?_
    rcases Bool.eq_false_or_eq_true (t11.1.Origin == (0 : Int)) with hb77 | hb77
    ·have ha := ha.lit hb77
     have H := ite_t hb77 H
     refine sgh ha 1 [2] [(3, .pointer (some ⟨g18, 0, none⟩)), (4, .slice ao16 t11.2.1.length cap16), (5, .int .i64 t11.2.2), (8, .int .i64 t34.2.2), (11, .int .i64 t52.2.2), (57, .bool true), (58, .pointer (some ⟨g18, 2, none⟩))] (by kernel_rfl) fun a ha => ?_
     refine ld (v := .int .i64 t11.1.Med) ha rfl (by kernel_rfl) rfl rfl rfl (hBg18.cell' (o := 2) rfl (by kernel_rfl)) fun a ha => ?_
     refine sgh ha 3 [2, 3, 0] [(62, .bool (t11.1.Med == (9 : Int))), (3, .pointer (some ⟨g18, 0, none⟩)), (4, .slice ao16 t11.2.1.length cap16), (5, .int .i64 t11.2.2), (8, .int .i64 t34.2.2), (11, .int .i64 t52.2.2)] (by kernel_rfl) fun a ha => ?_
     rcases Bool.eq_false_or_eq_true (t11.1.Med == (9 : Int)) with hb78 | hb78
     ·have ha := ha.lit hb78
      have H := ite_t hb78 H
      refine sgh ha 1 [2] [(4, .slice ao16 t11.2.1.length cap16), (5, .int .i64 t11.2.2), (8, .int .i64 t34.2.2), (11, .int .i64 t52.2.2), (62, .bool true), (63, .pointer (some ⟨g18, 3, none⟩))] (by kernel_rfl) fun a ha => ?_
      refine ld (v := .int .i64 t11.1.Pref) ha rfl (by kernel_rfl) rfl rfl rfl (hBg18.cell' (o := 3) rfl (by kernel_rfl)) fun a ha => ?_
      refine sgh ha 3 [2, 3, 0] [(67, .bool (t11.1.Pref == (-1 : Int))), (4, .slice ao16 t11.2.1.length cap16), (5, .int .i64 t11.2.2), (8, .int .i64 t34.2.2), (11, .int .i64 t52.2.2)] (by kernel_rfl) fun a ha => ?_
      rcases Bool.eq_false_or_eq_true (t11.1.Pref == (-1 : Int)) with hb79 | hb79
      ·have ha := ha.lit hb79
       have H := ite_t hb79 H
       refine sgh ha 5 [2, 2, 2, 3, 0] [(72, .bool ((t11.2.1.length : Int) == (0 : Int))), (5, .int .i64 t11.2.2), (8, .int .i64 t34.2.2), (11, .int .i64 t52.2.2)] (by kernel_rfl) fun a ha => ?_
       rcases Bool.eq_false_or_eq_true ((t11.2.1.length : Int) == (0 : Int)) with hb80 | hb80
       ·have ha := ha.lit hb80
        have H := ite_t hb80 H
        refine sgh ha 4 [2, 2, 3, 0] [(76, .bool (t11.2.2 == (0 : Int))), (8, .int .i64 t34.2.2), (11, .int .i64 t52.2.2)] (by kernel_rfl) fun a ha => ?_
        rcases Bool.eq_false_or_eq_true (t11.2.2 == (0 : Int)) with hb81 | hb81
        ·have ha := ha.lit hb81
         have H := ite_t hb81 H
         refine sgh ha 4 [2, 2, 3, 0] [(80, .bool (t34.2.2 == (2 : Int))), (11, .int .i64 t52.2.2)] (by kernel_rfl) fun a ha => ?_
         rcases Bool.eq_false_or_eq_true (t34.2.2 == (2 : Int)) with hb82 | hb82
         ·have ha := ha.lit hb82
          have H := ite_t hb82 H
          refine sgh ha 4 [2, 2, 3, 0] [(0, .bool (t52.2.2 == (3 : Int)))] (by kernel_rfl) fun a ha => ?_
          obtain rfl := Option.some.inj H
          have o1 : Ok [] ([g59] ++ ([g41] ++ ([g18] ++ ([g4] ++ (M))))) w62.heap.size := Ok.nil _ _
          have o2 : Ok ([g59] ++ ([g41] ++ ([g18] ++ (M)))) ([g59] ++ ([g41] ++ ([g18] ++ ([g4] ++ (M))))) w62.heap.size := (Ok.app (fun _ h => .inl (ml h)) (Ok.app (fun _ h => .inl (mr (ml h))) (Ok.app (fun _ h => .inl (mr (mr (ml h)))) (fun _ h => .inl (mr (mr (mr (mr (h)))))))))
          have f12 := f12.chg (Chg.refl [] _) o1 o2
          have f13 := f13.chg (Chg.refl [] _) o1 o2
          have f14 := f14.chg (Chg.refl [] _) o1 o2
          have f15 := f15.chg (Chg.refl [] _) o1 o2
          have f35 := f35.chg (Chg.refl [] _) o1 o2
          have f36 := f36.chg (Chg.refl [] _) o1 o2
          have f37 := f37.chg (Chg.refl [] _) o1 o2
          have f38 := f38.chg (Chg.refl [] _) o1 o2
          have f53 := f53.chg (Chg.refl [] _) o1 o2
          have f54 := f54.chg (Chg.refl [] _) o1 o2
          have f55 := f55.chg (Chg.refl [] _) o1 o2
          have f56 := f56.chg (Chg.refl [] _) o1 o2
          have hM : MS ([g59] ++ ([g41] ++ ([g18] ++ (M)))) w62 := (MS.app (fun x h => hM.chg (Chg.refl [] _) x (ml h)) (MS.app (fun x h => hM.chg (Chg.refl [] _) x (mr (ml h))) (MS.app (fun x h => hM.chg (Chg.refl [] _) x (mr (mr (ml h)))) (fun x h => hM.chg (Chg.refl [] _) x (mr (mr (mr (mr (h)))))))))
          exact J65 _ _ (ha.sel (by kernel_rfl)) f12 f13 f14 f15 f35 f36 f37 f38 f53 f54 f55 f56 hBg18 hBg41 hBg59 hC hM
         ·have ha := ha.lit hb82
          have H := ite_f hb82 H
          refine sgh ha 4 [1, 1, 4, 0] [(0, .bool false)] (by kernel_rfl) fun a ha => ?_
          obtain rfl := Option.some.inj H
          have o1 : Ok [] ([g59] ++ ([g41] ++ ([g18] ++ ([g4] ++ (M))))) w62.heap.size := Ok.nil _ _
          have o2 : Ok ([g59] ++ ([g41] ++ ([g18] ++ (M)))) ([g59] ++ ([g41] ++ ([g18] ++ ([g4] ++ (M))))) w62.heap.size := (Ok.app (fun _ h => .inl (ml h)) (Ok.app (fun _ h => .inl (mr (ml h))) (Ok.app (fun _ h => .inl (mr (mr (ml h)))) (fun _ h => .inl (mr (mr (mr (mr (h)))))))))
          have f12 := f12.chg (Chg.refl [] _) o1 o2
          have f13 := f13.chg (Chg.refl [] _) o1 o2
          have f14 := f14.chg (Chg.refl [] _) o1 o2
          have f15 := f15.chg (Chg.refl [] _) o1 o2
          have f35 := f35.chg (Chg.refl [] _) o1 o2
          have f36 := f36.chg (Chg.refl [] _) o1 o2
          have f37 := f37.chg (Chg.refl [] _) o1 o2
          have f38 := f38.chg (Chg.refl [] _) o1 o2
          have f53 := f53.chg (Chg.refl [] _) o1 o2
          have f54 := f54.chg (Chg.refl [] _) o1 o2
          have f55 := f55.chg (Chg.refl [] _) o1 o2
          have f56 := f56.chg (Chg.refl [] _) o1 o2
          have hM : MS ([g59] ++ ([g41] ++ ([g18] ++ (M)))) w62 := (MS.app (fun x h => hM.chg (Chg.refl [] _) x (ml h)) (MS.app (fun x h => hM.chg (Chg.refl [] _) x (mr (ml h))) (MS.app (fun x h => hM.chg (Chg.refl [] _) x (mr (mr (ml h)))) (fun x h => hM.chg (Chg.refl [] _) x (mr (mr (mr (mr (h)))))))))
          exact J65 _ _ (ha.sel (by kernel_rfl)) f12 f13 f14 f15 f35 f36 f37 f38 f53 f54 f55 f56 hBg18 hBg41 hBg59 hC hM
        ·have ha := ha.lit hb81
         have H := ite_f hb81 H
         refine sgh ha 8 [1, 1, 4, 0, 1, 1, 4, 0] [(0, .bool false)] (by kernel_rfl) fun a ha => ?_
         obtain rfl := Option.some.inj H
         have o1 : Ok [] ([g59] ++ ([g41] ++ ([g18] ++ ([g4] ++ (M))))) w62.heap.size := Ok.nil _ _
         have o2 : Ok ([g59] ++ ([g41] ++ ([g18] ++ (M)))) ([g59] ++ ([g41] ++ ([g18] ++ ([g4] ++ (M))))) w62.heap.size := (Ok.app (fun _ h => .inl (ml h)) (Ok.app (fun _ h => .inl (mr (ml h))) (Ok.app (fun _ h => .inl (mr (mr (ml h)))) (fun _ h => .inl (mr (mr (mr (mr (h)))))))))
         have f12 := f12.chg (Chg.refl [] _) o1 o2
         have f13 := f13.chg (Chg.refl [] _) o1 o2
         have f14 := f14.chg (Chg.refl [] _) o1 o2
         have f15 := f15.chg (Chg.refl [] _) o1 o2
         have f35 := f35.chg (Chg.refl [] _) o1 o2
         have f36 := f36.chg (Chg.refl [] _) o1 o2
         have f37 := f37.chg (Chg.refl [] _) o1 o2
         have f38 := f38.chg (Chg.refl [] _) o1 o2
         have f53 := f53.chg (Chg.refl [] _) o1 o2
         have f54 := f54.chg (Chg.refl [] _) o1 o2
         have f55 := f55.chg (Chg.refl [] _) o1 o2
         have f56 := f56.chg (Chg.refl [] _) o1 o2
         have hM : MS ([g59] ++ ([g41] ++ ([g18] ++ (M)))) w62 := (MS.app (fun x h => hM.chg (Chg.refl [] _) x (ml h)) (MS.app (fun x h => hM.chg (Chg.refl [] _) x (mr (ml h))) (MS.app (fun x h => hM.chg (Chg.refl [] _) x (mr (mr (ml h)))) (fun x h => hM.chg (Chg.refl [] _) x (mr (mr (mr (mr (h)))))))))
         exact J65 _ _ (ha.sel (by kernel_rfl)) f12 f13 f14 f15 f35 f36 f37 f38 f53 f54 f55 f56 hBg18 hBg41 hBg59 hC hM
       ·have ha := ha.lit hb80
        have H := ite_f hb80 H
        refine sgh ha 12 [1, 1, 4, 0, 1, 1, 4, 0, 1, 1, 4, 0] [(0, .bool false)] (by kernel_rfl) fun a ha => ?_
        obtain rfl := Option.some.inj H
        have o1 : Ok [] ([g59] ++ ([g41] ++ ([g18] ++ ([g4] ++ (M))))) w62.heap.size := Ok.nil _ _
        have o2 : Ok ([g59] ++ ([g41] ++ ([g18] ++ (M)))) ([g59] ++ ([g41] ++ ([g18] ++ ([g4] ++ (M))))) w62.heap.size := (Ok.app (fun _ h => .inl (ml h)) (Ok.app (fun _ h => .inl (mr (ml h))) (Ok.app (fun _ h => .inl (mr (mr (ml h)))) (fun _ h => .inl (mr (mr (mr (mr (h)))))))))
        have f12 := f12.chg (Chg.refl [] _) o1 o2
        have f13 := f13.chg (Chg.refl [] _) o1 o2
        have f14 := f14.chg (Chg.refl [] _) o1 o2
        have f15 := f15.chg (Chg.refl [] _) o1 o2
        have f35 := f35.chg (Chg.refl [] _) o1 o2
        have f36 := f36.chg (Chg.refl [] _) o1 o2
        have f37 := f37.chg (Chg.refl [] _) o1 o2
        have f38 := f38.chg (Chg.refl [] _) o1 o2
        have f53 := f53.chg (Chg.refl [] _) o1 o2
        have f54 := f54.chg (Chg.refl [] _) o1 o2
        have f55 := f55.chg (Chg.refl [] _) o1 o2
        have f56 := f56.chg (Chg.refl [] _) o1 o2
        have hM : MS ([g59] ++ ([g41] ++ ([g18] ++ (M)))) w62 := (MS.app (fun x h => hM.chg (Chg.refl [] _) x (ml h)) (MS.app (fun x h => hM.chg (Chg.refl [] _) x (mr (ml h))) (MS.app (fun x h => hM.chg (Chg.refl [] _) x (mr (mr (ml h)))) (fun x h => hM.chg (Chg.refl [] _) x (mr (mr (mr (mr (h)))))))))
        exact J65 _ _ (ha.sel (by kernel_rfl)) f12 f13 f14 f15 f35 f36 f37 f38 f53 f54 f55 f56 hBg18 hBg41 hBg59 hC hM
      ·have ha := ha.lit hb79
       have H := ite_f hb79 H
       refine sgh ha 17 [1, 1, 1, 4, 0, 1, 1, 4, 0, 1, 1, 4, 0, 1, 1, 4, 0] [(0, .bool false)] (by kernel_rfl) fun a ha => ?_
       obtain rfl := Option.some.inj H
       have o1 : Ok [] ([g59] ++ ([g41] ++ ([g18] ++ ([g4] ++ (M))))) w62.heap.size := Ok.nil _ _
       have o2 : Ok ([g59] ++ ([g41] ++ ([g18] ++ (M)))) ([g59] ++ ([g41] ++ ([g18] ++ ([g4] ++ (M))))) w62.heap.size := (Ok.app (fun _ h => .inl (ml h)) (Ok.app (fun _ h => .inl (mr (ml h))) (Ok.app (fun _ h => .inl (mr (mr (ml h)))) (fun _ h => .inl (mr (mr (mr (mr (h)))))))))
       have f12 := f12.chg (Chg.refl [] _) o1 o2
       have f13 := f13.chg (Chg.refl [] _) o1 o2
       have f14 := f14.chg (Chg.refl [] _) o1 o2
       have f15 := f15.chg (Chg.refl [] _) o1 o2
       have f35 := f35.chg (Chg.refl [] _) o1 o2
       have f36 := f36.chg (Chg.refl [] _) o1 o2
       have f37 := f37.chg (Chg.refl [] _) o1 o2
       have f38 := f38.chg (Chg.refl [] _) o1 o2
       have f53 := f53.chg (Chg.refl [] _) o1 o2
       have f54 := f54.chg (Chg.refl [] _) o1 o2
       have f55 := f55.chg (Chg.refl [] _) o1 o2
       have f56 := f56.chg (Chg.refl [] _) o1 o2
       have hM : MS ([g59] ++ ([g41] ++ ([g18] ++ (M)))) w62 := (MS.app (fun x h => hM.chg (Chg.refl [] _) x (ml h)) (MS.app (fun x h => hM.chg (Chg.refl [] _) x (mr (ml h))) (MS.app (fun x h => hM.chg (Chg.refl [] _) x (mr (mr (ml h)))) (fun x h => hM.chg (Chg.refl [] _) x (mr (mr (mr (mr (h)))))))))
       exact J65 _ _ (ha.sel (by kernel_rfl)) f12 f13 f14 f15 f35 f36 f37 f38 f53 f54 f55 f56 hBg18 hBg41 hBg59 hC hM
     ·have ha := ha.lit hb78
      have H := ite_f hb78 H
      refine sgh ha 22 [1, 1, 1, 4, 0, 1, 1, 1, 4, 0, 1, 1, 4, 0, 1, 1, 4, 0, 1, 1, 4, 0] [(0, .bool false)] (by kernel_rfl) fun a ha => ?_
      obtain rfl := Option.some.inj H
      have o1 : Ok [] ([g59] ++ ([g41] ++ ([g18] ++ ([g4] ++ (M))))) w62.heap.size := Ok.nil _ _
      have o2 : Ok ([g59] ++ ([g41] ++ ([g18] ++ (M)))) ([g59] ++ ([g41] ++ ([g18] ++ ([g4] ++ (M))))) w62.heap.size := (Ok.app (fun _ h => .inl (ml h)) (Ok.app (fun _ h => .inl (mr (ml h))) (Ok.app (fun _ h => .inl (mr (mr (ml h)))) (fun _ h => .inl (mr (mr (mr (mr (h)))))))))
      have f12 := f12.chg (Chg.refl [] _) o1 o2
      have f13 := f13.chg (Chg.refl [] _) o1 o2
      have f14 := f14.chg (Chg.refl [] _) o1 o2
      have f15 := f15.chg (Chg.refl [] _) o1 o2
      have f35 := f35.chg (Chg.refl [] _) o1 o2
      have f36 := f36.chg (Chg.refl [] _) o1 o2
      have f37 := f37.chg (Chg.refl [] _) o1 o2
      have f38 := f38.chg (Chg.refl [] _) o1 o2
      have f53 := f53.chg (Chg.refl [] _) o1 o2
      have f54 := f54.chg (Chg.refl [] _) o1 o2
      have f55 := f55.chg (Chg.refl [] _) o1 o2
      have f56 := f56.chg (Chg.refl [] _) o1 o2
      have hM : MS ([g59] ++ ([g41] ++ ([g18] ++ (M)))) w62 := (MS.app (fun x h => hM.chg (Chg.refl [] _) x (ml h)) (MS.app (fun x h => hM.chg (Chg.refl [] _) x (mr (ml h))) (MS.app (fun x h => hM.chg (Chg.refl [] _) x (mr (mr (ml h)))) (fun x h => hM.chg (Chg.refl [] _) x (mr (mr (mr (mr (h)))))))))
      exact J65 _ _ (ha.sel (by kernel_rfl)) f12 f13 f14 f15 f35 f36 f37 f38 f53 f54 f55 f56 hBg18 hBg41 hBg59 hC hM
    ·have ha := ha.lit hb77
     have H := ite_f hb77 H
     refine sgh ha 27 [1, 1, 1, 4, 0, 1, 1, 1, 4, 0, 1, 1, 1, 4, 0, 1, 1, 4, 0, 1, 1, 4, 0, 1, 1, 4, 0] [(0, .bool false)] (by kernel_rfl) fun a ha => ?_
     obtain rfl := Option.some.inj H
     have o1 : Ok [] ([g59] ++ ([g41] ++ ([g18] ++ ([g4] ++ (M))))) w62.heap.size := Ok.nil _ _
     have o2 : Ok ([g59] ++ ([g41] ++ ([g18] ++ (M)))) ([g59] ++ ([g41] ++ ([g18] ++ ([g4] ++ (M))))) w62.heap.size := (Ok.app (fun _ h => .inl (ml h)) (Ok.app (fun _ h => .inl (mr (ml h))) (Ok.app (fun _ h => .inl (mr (mr (ml h)))) (fun _ h => .inl (mr (mr (mr (mr (h)))))))))
     have f12 := f12.chg (Chg.refl [] _) o1 o2
     have f13 := f13.chg (Chg.refl [] _) o1 o2
     have f14 := f14.chg (Chg.refl [] _) o1 o2
     have f15 := f15.chg (Chg.refl [] _) o1 o2
     have f35 := f35.chg (Chg.refl [] _) o1 o2
     have f36 := f36.chg (Chg.refl [] _) o1 o2
     have f37 := f37.chg (Chg.refl [] _) o1 o2
     have f38 := f38.chg (Chg.refl [] _) o1 o2
     have f53 := f53.chg (Chg.refl [] _) o1 o2
     have f54 := f54.chg (Chg.refl [] _) o1 o2
     have f55 := f55.chg (Chg.refl [] _) o1 o2
     have f56 := f56.chg (Chg.refl [] _) o1 o2
     have hM : MS ([g59] ++ ([g41] ++ ([g18] ++ (M)))) w62 := (MS.app (fun x h => hM.chg (Chg.refl [] _) x (ml h)) (MS.app (fun x h => hM.chg (Chg.refl [] _) x (mr (ml h))) (MS.app (fun x h => hM.chg (Chg.refl [] _) x (mr (mr (ml h)))) (fun x h => hM.chg (Chg.refl [] _) x (mr (mr (mr (mr (h)))))))))
     exact J65 _ _ (ha.sel (by kernel_rfl)) f12 f13 f14 f15 f35 f36 f37 f38 f53 f54 f55 f56 hBg18 hBg41 hBg59 hC hM
   ·have ha := ha.lit hb76
    have H := ite_f hb76 H
    refine sgh ha 32 [1, 1, 1, 4, 0, 1, 1, 1, 4, 0, 1, 1, 1, 4, 0, 1, 1, 1, 4, 0, 1, 1, 4, 0, 1, 1, 4, 0, 1, 1, 4, 0] [(0, .bool false)] (by kernel_rfl) fun a ha => ?_
    obtain rfl := Option.some.inj H
    have o1 : Ok [] ([g59] ++ ([g41] ++ ([g18] ++ ([g4] ++ (M))))) w62.heap.size := Ok.nil _ _
    have o2 : Ok ([g59] ++ ([g41] ++ ([g18] ++ (M)))) ([g59] ++ ([g41] ++ ([g18] ++ ([g4] ++ (M))))) w62.heap.size := (Ok.app (fun _ h => .inl (ml h)) (Ok.app (fun _ h => .inl (mr (ml h))) (Ok.app (fun _ h => .inl (mr (mr (ml h)))) (fun _ h => .inl (mr (mr (mr (mr (h)))))))))
    have f12 := f12.chg (Chg.refl [] _) o1 o2
    have f13 := f13.chg (Chg.refl [] _) o1 o2
    have f14 := f14.chg (Chg.refl [] _) o1 o2
    have f15 := f15.chg (Chg.refl [] _) o1 o2
    have f35 := f35.chg (Chg.refl [] _) o1 o2
    have f36 := f36.chg (Chg.refl [] _) o1 o2
    have f37 := f37.chg (Chg.refl [] _) o1 o2
    have f38 := f38.chg (Chg.refl [] _) o1 o2
    have f53 := f53.chg (Chg.refl [] _) o1 o2
    have f54 := f54.chg (Chg.refl [] _) o1 o2
    have f55 := f55.chg (Chg.refl [] _) o1 o2
    have f56 := f56.chg (Chg.refl [] _) o1 o2
    have hM : MS ([g59] ++ ([g41] ++ ([g18] ++ (M)))) w62 := (MS.app (fun x h => hM.chg (Chg.refl [] _) x (ml h)) (MS.app (fun x h => hM.chg (Chg.refl [] _) x (mr (ml h))) (MS.app (fun x h => hM.chg (Chg.refl [] _) x (mr (mr (ml h)))) (fun x h => hM.chg (Chg.refl [] _) x (mr (mr (mr (mr (h)))))))))
    exact J65 _ _ (ha.sel (by kernel_rfl)) f12 f13 f14 f15 f35 f36 f37 f38 f53 f54 f55 f56 hBg18 hBg41 hBg59 hC hM
  ·have ha := ha.lit hb67
   have H := ite_f hb67 H
   refine sgh ha 39 [1, 1, 1, 1, 1, 4, 0, 1, 1, 1, 4, 0, 1, 1, 1, 4, 0, 1, 1, 1, 4, 0, 1, 1, 1, 4, 0, 1, 1, 4, 0, 1, 1, 4, 0, 1, 1, 4, 0] [(0, .bool false)] (by kernel_rfl) fun a ha => ?_
   obtain rfl := Option.some.inj H
   have o1 : Ok [] ([g59] ++ ([g41] ++ ([g18] ++ ([g4] ++ (M))))) w62.heap.size := Ok.nil _ _
   have o2 : Ok ([g59] ++ ([g41] ++ ([g18] ++ (M)))) ([g59] ++ ([g41] ++ ([g18] ++ ([g4] ++ (M))))) w62.heap.size := (Ok.app (fun _ h => .inl (ml h)) (Ok.app (fun _ h => .inl (mr (ml h))) (Ok.app (fun _ h => .inl (mr (mr (ml h)))) (fun _ h => .inl (mr (mr (mr (mr (h)))))))))
   have f12 := f12.chg (Chg.refl [] _) o1 o2
   have f13 := f13.chg (Chg.refl [] _) o1 o2
   have f14 := f14.chg (Chg.refl [] _) o1 o2
   have f15 := f15.chg (Chg.refl [] _) o1 o2
   have f35 := f35.chg (Chg.refl [] _) o1 o2
   have f36 := f36.chg (Chg.refl [] _) o1 o2
   have f37 := f37.chg (Chg.refl [] _) o1 o2
   have f38 := f38.chg (Chg.refl [] _) o1 o2
   have f53 := f53.chg (Chg.refl [] _) o1 o2
   have f54 := f54.chg (Chg.refl [] _) o1 o2
   have f55 := f55.chg (Chg.refl [] _) o1 o2
   have f56 := f56.chg (Chg.refl [] _) o1 o2
   have hM : MS ([g59] ++ ([g41] ++ ([g18] ++ (M)))) w62 := (MS.app (fun x h => hM.chg (Chg.refl [] _) x (ml h)) (MS.app (fun x h => hM.chg (Chg.refl [] _) x (mr (ml h))) (MS.app (fun x h => hM.chg (Chg.refl [] _) x (mr (mr (ml h)))) (fun x h => hM.chg (Chg.refl [] _) x (mr (mr (mr (mr (h)))))))))
   exact J65 _ _ (ha.sel (by kernel_rfl)) f12 f13 f14 f15 f35 f36 f37 f38 f53 f54 f55 f56 hBg18 hBg41 hBg59 hC hM
 ·have ha := ha.lit hb66
  have H := ite_f hb66 H
  refine sgh ha 44 [1, 1, 1, 4, 0, 1, 1, 1, 1, 1, 4, 0, 1, 1, 1, 4, 0, 1, 1, 1, 4, 0, 1, 1, 1, 4, 0, 1, 1, 1, 4, 0, 1, 1, 4, 0, 1, 1, 4, 0, 1, 1, 4, 0] [(0, .bool false)] (by kernel_rfl) fun a ha => ?_
  obtain rfl := Option.some.inj H
  have o1 : Ok [] ([g59] ++ ([g41] ++ ([g18] ++ ([g4] ++ (M))))) w62.heap.size := Ok.nil _ _
  have o2 : Ok ([g59] ++ ([g41] ++ ([g18] ++ (M)))) ([g59] ++ ([g41] ++ ([g18] ++ ([g4] ++ (M))))) w62.heap.size := (Ok.app (fun _ h => .inl (ml h)) (Ok.app (fun _ h => .inl (mr (ml h))) (Ok.app (fun _ h => .inl (mr (mr (ml h)))) (fun _ h => .inl (mr (mr (mr (mr (h)))))))))
  have f12 := f12.chg (Chg.refl [] _) o1 o2
  have f13 := f13.chg (Chg.refl [] _) o1 o2
  have f14 := f14.chg (Chg.refl [] _) o1 o2
  have f15 := f15.chg (Chg.refl [] _) o1 o2
  have f35 := f35.chg (Chg.refl [] _) o1 o2
  have f36 := f36.chg (Chg.refl [] _) o1 o2
  have f37 := f37.chg (Chg.refl [] _) o1 o2
  have f38 := f38.chg (Chg.refl [] _) o1 o2
  have f53 := f53.chg (Chg.refl [] _) o1 o2
  have f54 := f54.chg (Chg.refl [] _) o1 o2
  have f55 := f55.chg (Chg.refl [] _) o1 o2
  have f56 := f56.chg (Chg.refl [] _) o1 o2
  have hM : MS ([g59] ++ ([g41] ++ ([g18] ++ (M)))) w62 := (MS.app (fun x h => hM.chg (Chg.refl [] _) x (ml h)) (MS.app (fun x h => hM.chg (Chg.refl [] _) x (mr (ml h))) (MS.app (fun x h => hM.chg (Chg.refl [] _) x (mr (mr (ml h)))) (fun x h => hM.chg (Chg.refl [] _) x (mr (mr (mr (mr (h)))))))))
  exact J65 _ _ (ha.sel (by kernel_rfl)) f12 f13 f14 f15 f35 f36 f37 f38 f53 f54 f55 f56 hBg18 hBg41 hBg59 hC hM
def vinerylaw09_fewRaws.l0 (a0 : List S_api_Raw) : Nat → Int → Option ((Bool) ⊕ (Unit))
  | 0, _ => none
  | kk + 1, x6 => (if (decide (x6 < (a0.length : Int))) = true then (if 0 ≤ x6 ∧ x6 < (a0.length : Int) then (if (decide ((((rd a0 x6).Value).length : Int) > (8192 : Int))) = true then some (.inl ((false : Bool))) else vinerylaw09_fewRaws.l0 a0 kk (IntKind.i64.wrap (x6 + (1 : Int)))) else none) else some (.inr (() : Unit)))
def vinerylaw09_fewRaws.f (k : Nat) (a0 : List S_api_Raw) : Option (Bool) := (vinerylaw09_fewRaws.l0 a0 k (0 : Int)).bind fun s5 => match s5 with | .inl r => some r | .inr s5' => some ((decide ((a0.length : Int) < (100 : Int)) : Bool))
set_option maxRecDepth 100000 in
theorem vinerylaw09_fewRaws.walk (w : World) (M : List Nat) (hM : MS M w) (a0 : List S_api_Raw) (ao1 : Option Addr) (cap1 : Nat) (f1 : RSl rS_api_Raw 61 w M ao1 cap1 a0) (k : Nat) (r : Bool) (H : vinerylaw09_fewRaws.f k a0 = some r) :
    To Tryd.prog 26 [.slice ao1 a0.length cap1] w fun v w' => v = .bool r ∧ Chg [] w w' ∧ MS (M) w' := by
 unfold vinerylaw09_fewRaws.f at H
 refine ent Tryd.func26 rfl [(0, .slice ao1 a0.length cap1)] rfl (by rfl) fun a ha => ?_
 have hC : Chg [] w w := Chg.refl _ _
 refine wp_seq_k fun K2 hK2 => ?_
 refine wp_region_lit ?_
 refine seg ha 1 [(0, .slice ao1 a0.length cap1)] (by kernel_rfl) fun a ha => ?_
 refine hK2 _ _ ?_; try clear hK2 K2
 refine wp_seq_k fun K3 hK3 => ?_
 refine wp_seq_k fun K4 hK4 => ?_
 refine wp_region_lit ?_
 refine seg ha 1 [(0, .slice ao1 a0.length cap1), (3, .int .i64 (0 : Int))] (by kernel_rfl) fun a ha => ?_
 refine hK4 _ _ ?_; try clear hK4 K4
 refine wp_block ?_
 obtain ⟨s5, H5, H⟩ := bind_some H
 have J5 : ∀ s5' (a : Act) (wx5 : World), s5 = .inr s5' → Has a Tryd.f26.ntmps [(0, .slice ao1 a0.length cap1)] → (RSl rS_api_Raw 61 wx5 (M) ao1 cap1 a0) → (Chg [] w wx5) → (MS (M) wx5) → K3 a wx5 := by
  intro s5' a wx5 hs ha f1 hC hM
  subst hs
  refine hK3 _ _ ?_; try clear hK3 K3
  refine wp_seq_k fun K7 hK7 => ?_
  refine wp_region_lit ?_
  refine seg ha 4 [(2, .bool (decide ((a0.length : Int) < (100 : Int))))] (by kernel_rfl) fun a ha => ?_
  refine hK7 _ _ ?_; try clear hK7 K7
  refine wp_ret ?_
  try simp only [Exit.then, Exit.inBlock]
  obtain rfl := Option.some.inj H
  refine rt1 ha rfl rfl ?_
  exact ⟨rfl, hC, hM⟩
 have Hc5 := H
 have H := H5
 refine wp_loop_ghost (fun kk a w5 => ∃ (x6 : Int), vinerylaw09_fewRaws.l0 a0 kk x6 = some s5 ∧ Has a Tryd.f26.ntmps [(0, .slice ao1 a0.length cap1), (3, .int .i64 x6)] ∧ (RSl rS_api_Raw 61 w5 (M) ao1 cap1 a0) ∧ (Chg [] w w5) ∧ (MS (M) w5)) k ?_ ?_
 ·skip
  exact ⟨(0 : Int), H, (ha.sel (by kernel_rfl)), f1, hC, hM⟩
 ·rintro kk a w5 ⟨x6, H, ha, f1, hC, hM⟩
  obtain _ | kk := kk
  ·exact nomatch (show none = some _ from H)
  rw [vinerylaw09_fewRaws.l0] at H
  refine wp_seq_k fun K8 hK8 => ?_
  refine wp_seq_k fun K9 hK9 => ?_
  refine wp_region_lit ?_
  refine seg ha 4 [(0, .slice ao1 a0.length cap1), (3, .int .i64 x6), (7, .bool (decide (x6 < (a0.length : Int))))] (by kernel_rfl) fun a ha => ?_
  refine hK9 _ _ ?_; try clear hK9 K9
  refine cnd ha rfl (fun hc10 => ?_) (fun hc10 => ?_)
  ·have H := ite_t hc10 H
   refine wp_skip ?_
   refine hK8 _ _ ?_; try clear hK8 K8
   refine wp_seq_k fun K11 hK11 => ?_
   refine wp_block ?_
   refine wp_seq_k fun K12 hK12 => ?_
   refine wp_region_lit ?_
   refine seg ha 2 [(0, .slice ao1 a0.length cap1), (3, .int .i64 x6), (10, .slice ao1 a0.length cap1), (11, .int .i64 x6)] (by kernel_rfl) fun a ha => ?_
   obtain ⟨⟨hx13, hx13'⟩, H⟩ := ite_some H
   refine ix (r := rS_api_Raw) ha (by kernel_rfl) (by kernel_rfl) rfl rfl rfl rfl rfl f1 hx13 hx13' fun a ge14 oe15 cs16 hn19 hR17 hE18 ha => ?_
   rw [rd_get] at hR17
   obtain ⟨ao20, cap20, rfl, f20⟩ := rS_api_Raw.open hR17
   refine seg ha 1 [(0, .slice ao1 a0.length cap1), (3, .int .i64 x6), (13, .pointer (some ⟨ge14, oe15 + 2, none⟩))] (by kernel_rfl) fun a ha => ?_
   refine ld ha rfl (by kernel_rfl) rfl rfl rfl (hE18 2 (.slice ao20 ((rd a0 x6).Value).length cap20) (by kernel_rfl)) fun a ha => ?_
   refine seg ha 2 [(0, .slice ao1 a0.length cap1), (3, .int .i64 x6), (16, .bool (decide ((((rd a0 x6).Value).length : Int) > (8192 : Int))))] (by kernel_rfl) fun a ha => ?_
   refine hK12 _ _ ?_; try clear hK12 K12
   refine cnd ha rfl (fun hc21 => ?_) (fun hc21 => ?_)
   ·have H := ite_t hc21 H
    refine wp_seq_k fun K22 hK22 => ?_
    refine wp_region_lit ?_
    refine seg ha 1 [(2, .bool false)] (by kernel_rfl) fun a ha => ?_
    refine hK22 _ _ ?_; try clear hK22 K22
    refine wp_ret ?_
    try simp only [Exit.then, Exit.inBlock]
    obtain rfl := Option.some.inj H
    have H := (show some _ = some _ from Hc5)
    obtain rfl := Option.some.inj H
    refine rt1 ha rfl rfl ?_
    exact ⟨rfl, hC, hM⟩
   ·have H := ite_f hc21 H
    refine wp_skip ?_
    refine hK11 _ _ ?_; try clear hK11 K11
    refine wp_region_lit ?_
    refine seg ha 3 [(0, .slice ao1 a0.length cap1), (3, .int .i64 (IntKind.i64.wrap (x6 + (1 : Int))))] (by kernel_rfl) fun a ha => ?_
    exact ⟨kk, Nat.lt_succ_self _, ⟨IntKind.i64.wrap (x6 + (1 : Int)), H, (ha.sel (by kernel_rfl)), f1, hC, hM⟩⟩
  ·have H := ite_f hc10 H
   refine wp_exit ?_
   simp only [Exit.then, Exit.inBlock, ↓reduceIte, Nat.reduceEqDiff]
   obtain rfl := Option.some.inj H
   exact J5 _ _ _ rfl (ha.sel (by kernel_rfl)) f1 hC hM

theorem Lent.go (w : World) (M : List Nat) (hM : MS M w) (a0 : List Int) (ao1 : Option Addr) (cap1 : Nat) (f1 : RSl (rInt .u8) 5 w M ao1 cap1 a0) (hb : a0.length ≤ 281474976710655) :
    To Tryd.prog 13 [.slice ao1 a0.length cap1] w fun v w' => ∃ (g : Nat), v = .slice (some ⟨g, 0, none⟩) a0.length (a0.length + 1) ∧ Box w' g (a0.map (.int .u8) ++ [.int .u8 77]) ∧ (w.heap.size ≤ g) ∧ Chg [] w w' ∧ MS ([g] ++ M) w' := by
  have hmax : maxLen = 9223372036854775807 := rfl
  refine ent Tryd.func13 rfl [(0, .slice ao1 a0.length cap1)] rfl rfl fun a ha => ?_
  refine wp_seq_k fun K hK => ?_
  refine wp_region_lit ?_
  refine seg ha 1 [(0, .slice ao1 a0.length cap1)] (by kernel_rfl) fun a ha => ?_
  refine hK _ _ ?_; clear hK K
  refine wp_seq_k fun K hK => ?_
  refine wp_region_lit ?_
  refine seg ha 5 [(0, .slice ao1 a0.length cap1), (5, .int .i64 a0.length), (8, .int .i64 (IntKind.i64.wrap ((a0.length : Int) + 1)))] (by kernel_rfl) fun a ha => ?_
  have e8 : IntKind.i64.wrap ((a0.length : Int) + 1) = ((a0.length + 1 : Nat) : Int) := by rw [IntKind.wrap_i64]; omega
  rw [e8] at ha
  refine mks (e := 5) (z := .int .u8 0) (nb := 1) ha (by kernel_rfl) (by kernel_rfl) (by kernel_rfl) rfl rfl rfl (Nat.le_succ _) (by omega) (by omega) rfl rfl rfl fun a w1 g hN ha => ?_
  refine seg ha 1 [(0, .slice ao1 a0.length cap1), (3, .slice (some ⟨g, 0, none⟩) a0.length (a0.length + 1))] (by kernel_rfl) fun a ha => ?_
  refine hK _ _ ?_; clear hK K
  have h1 : RSl (rInt .u8) 5 w1 ([g] ++ M) ao1 cap1 a0 := f1.chg hN.chg (Ok.nil _ _) (Ok.app (hN.ok _) (Ok.refl _ _))
  refine wp_seq_k fun K hK => ?_
  refine wp_region_lit ?_
  refine seg ha 2 [(0, .slice ao1 a0.length cap1), (3, .slice (some ⟨g, 0, none⟩) a0.length (a0.length + 1)), (10, .slice (some ⟨g, 0, none⟩) a0.length (a0.length + 1)), (11, .slice ao1 a0.length cap1)] (by kernel_rfl) fun a ha => ?_
  refine cpy ha (by kernel_rfl) (by kernel_rfl) rfl rfl rfl rfl rfl hN.box h1 (Nat.le_refl _) (by simp) fun a w2 hB hc2 ha => ?_
  refine wpl_end ?_
  have ha := ha.sel (env' := [(0, .slice ao1 a0.length cap1), (3, .slice (some ⟨g, 0, none⟩) a0.length (a0.length + 1))]) (by kernel_rfl)
  refine hK _ _ ?_; clear hK K
  refine wp_seq_k fun K hK => ?_
  refine wp_region_lit ?_
  refine seg ha 4 [(0, .slice ao1 a0.length cap1), (3, .slice (some ⟨g, 0, none⟩) a0.length (a0.length + 1)), (13, .slice (some ⟨g, 0, none⟩) a0.length (a0.length + 1)), (16, .int .i64 (IntKind.i64.wrap ((a0.length : Int) + 1)))] (by kernel_rfl) fun a ha => ?_
  rw [e8] at ha
  refine slx (T := 5) (s := 1) ha (by kernel_rfl) (by kernel_rfl) rfl rfl (Nat.le_refl _) rfl rfl rfl fun a ha => ?_
  refine seg ha 2 [(3, .slice (some ⟨g, 0, none⟩) a0.length (a0.length + 1)), (17, .slice (some ⟨g, 0, none⟩) (a0.length + 1) (a0.length + 1)), (19, .int .i64 a0.length)] (by kernel_rfl) fun a ha => ?_
  have hl : (List.replicate (a0.length + 1) (0 : Int)).length = a0.length + 1 := by simp
  refine hop (v := .pointer (some ⟨g, 0 + Int.toNat (a0.length : Int) * (rInt .u8).sz, none⟩)) (w' := w2) ha rfl rfl rfl (ix_run (r := rInt .u8) (T := 5) (xs := List.replicate (a0.length + 1) (0 : Int)) (k := .i64) (i := (a0.length : Int)) ha (by kernel_rfl) (by kernel_rfl) (by rw [hl]; rfl) rfl rfl (by omega) (by rw [hl]; omega)) fun a ha => ?_
  refine st (cs := a0.map (.int .u8) ++ (List.replicate (a0.length + 1) (Value.int .u8 0)).drop a0.length) (g := g) (o' := a0.length) ha rfl rfl (by simp [rInt]) (by kernel_rfl) rfl rfl hB (by simp) fun a w3 ha hB3 hc3 _ => ?_
  refine wpl_end ?_
  have ha := ha.sel (env' := [(3, .slice (some ⟨g, 0, none⟩) a0.length (a0.length + 1))]) (by kernel_rfl)
  refine hK _ _ ?_; clear hK K
  refine wp_seq_k fun K hK => ?_
  refine wp_region_lit ?_
  refine seg ha 2 [(2, .slice (some ⟨g, 0, none⟩) a0.length (a0.length + 1))] (by kernel_rfl) fun a ha => ?_
  refine hK _ _ ?_; clear hK K
  refine wp_ret ?_
  refine rt1 ha rfl rfl ⟨g, rfl, ?_, hN.ge, ?_, ?_⟩
  · have e : (a0.map (Value.int .u8) ++ (List.replicate (a0.length + 1) (Value.int .u8 0)).drop a0.length).set a0.length (.int .u8 77) = a0.map (Value.int .u8) ++ [Value.int .u8 77] := by
      have : (List.replicate (a0.length + 1) (Value.int .u8 0)).drop a0.length = [Value.int .u8 0] := by simp [List.drop_replicate]
      rw [this, List.set_append_right _ _ (by simp)]
      simp
    rw [e] at hB3
    exact hB3
  · exact (hN.chg.trans hc2 (Ok.one (.inr hN.ge))).trans hc3 (Ok.one (.inr hN.ge))
  · exact MS.app (fun x hx => by simp at hx; subst hx; exact hB3.lt) (((hM.chg hN.chg).chg hc2).chg hc3)
def Lent.f (a0 : List Int) : Option (List Int) := if a0.length ≤ 281474976710655 then some a0 else none
theorem Lent.walk (w : World) (M : List Nat) (hM : MS M w) (a0 : List Int) (ao1 : Option Addr) (cap1 : Nat) (f1 : RSl (rInt .u8) 5 w M ao1 cap1 a0) (r : List Int) (H : Lent.f a0 = some r) :
    To Tryd.prog 13 [.slice ao1 a0.length cap1] w fun v w' => ∃ (ao2 : Option Addr) (cap2 : Nat), v = .slice ao2 r.length cap2 ∧ (Len w' (blkL ao2 ++ M) ao2 cap2 r) ∧ (∀ x ∈ blkL ao2, w.heap.size ≤ x) ∧ Chg [] w w' ∧ MS (blkL ao2 ++ M) w' := by
  unfold Lent.f at H
  obtain ⟨hb, H⟩ := ite_some H
  obtain rfl := Option.some.inj H
  refine (Lent.go w M hM a0 ao1 cap1 f1 hb).mono ?_
  rintro v w' ⟨g, rfl, hB, hge, hc, hm⟩
  exact ⟨some ⟨g, 0, none⟩, a0.length + 1, rfl, ⟨g, rfl, List.mem_append_left _ (List.mem_singleton.2 rfl), rfl, hb, hB⟩, fun x hx => by simp [blkL] at hx; subst hx; exact hge, hc, hm⟩


theorem Owned.go (w : World) (M : List Nat) (hM : MS M w) (gr : Nat) (rows : List Row) (hR : Rows w gr rows) (hl : rows.length ≤ 1000) (h0 : Cells w rows fun _ _ => True) :
    To Tryd.prog 20 [.slice (some ⟨gr, 0, none⟩) rows.length rows.length] w fun v w' => v = .bool true ∧ Chg (gsOf rows) w w' ∧ MS M w' ∧ Cells w' rows (fun i cur => ∃ c, cur = List.replicate c (.int .u8 (IntKind.u8.wrap ((i : Int) + 1)))) := by
  refine ent Tryd.func20 rfl [(0, .slice (some ⟨gr, 0, none⟩) rows.length rows.length)] rfl rfl fun a ha => ?_
  refine wp_seq_k fun K hK => ?_
  refine wp_region_lit ?_
  refine seg ha 1 [(0, .slice (some ⟨gr, 0, none⟩) rows.length rows.length)] (by kernel_rfl) fun a ha => ?_
  refine hK _ _ ?_; clear hK K
  refine wp_seq_k fun KA hKA => ?_
  refine wp_seq_k fun K hK => ?_
  refine wp_region_lit ?_
  refine seg ha 1 [(0, .slice (some ⟨gr, 0, none⟩) rows.length rows.length), (3, .int .i64 0)] (by kernel_rfl) fun a ha => ?_
  refine hK _ _ ?_; clear hK K
  have J1 : ∀ (a : Act) (w1 : World), Has a Tryd.f20.ntmps [(0, .slice (some ⟨gr, 0, none⟩) rows.length rows.length)] → Chg (gsOf rows) w w1 → Cells w1 rows (fun i cur => cur = List.replicate cur.length (.int .u8 (IntKind.u8.wrap ((i : Int) + 1)))) → KA a w1 := by
    intro a w1 ha hC hS
    refine hKA _ _ ?_
    have ewb : ∀ (j : Nat), j < rows.length → IntKind.u8.wrap (IntKind.i64.wrap ((j : Int) + 1)) = IntKind.u8.wrap ((j : Int) + 1) := fun j hj => by
      have : IntKind.i64.wrap ((j : Int) + 1) = (j : Int) + 1 := by rw [IntKind.wrap_i64]; omega
      rw [this]
    have hm : maxLen = 9223372036854775807 := rfl
    refine wp_seq_k fun KB hKB => ?_
    refine wp_seq_k fun K hK => ?_
    refine wp_region_lit ?_
    refine seg ha 1 [(0, .slice (some ⟨gr, 0, none⟩) rows.length rows.length), (6, .int .i64 0)] (by kernel_rfl) fun a ha => ?_
    refine hK _ _ ?_; clear hK K
    refine wp_block ?_
    refine wp_loop_ghost (fun kk a w1 => ∃ (i : Nat), kk + i = rows.length + 1 ∧ i ≤ rows.length ∧ Has a Tryd.f20.ntmps [(0, .slice (some ⟨gr, 0, none⟩) rows.length rows.length), (6, .int .i64 (i : Int))] ∧ Chg (gsOf rows) w w1 ∧ Cells w1 rows (fun j cur => cur = List.replicate cur.length (.int .u8 (IntKind.u8.wrap ((j : Int) + 1))))) (rows.length + 1) ?_ ?_
    · exact ⟨0, by omega, by omega, ha, hC, hS⟩
    · rintro kk a w1 ⟨i, hk, hi, ha, hC, hS⟩
      have hR1 := hR.keep hC
      refine wp_seq_k fun K1 hK1 => ?_
      refine wp_seq_k fun K2 hK2 => ?_
      refine wp_region_lit ?_
      refine seg ha 4 [(0, .slice (some ⟨gr, 0, none⟩) rows.length rows.length), (6, .int .i64 (i : Int)), (40, .bool (decide ((i : Int) < (rows.length : Int))))] (by kernel_rfl) fun a ha => ?_
      refine hK2 _ _ ?_; clear hK2 K2
      refine cnd ha rfl (fun hc => ?_) (fun hc => ?_)
      · refine wp_skip ?_
        refine hK1 _ _ ?_; clear hK1 K1
        have hlt : i < rows.length := by simpa using hc
        obtain ⟨r, hr⟩ : ∃ r, rows[i]? = some r := ⟨rows[i], by simp [hlt]⟩
        obtain ⟨hr1, hr2, hr3⟩ := hR.cap r (List.mem_of_getElem? hr)
        refine wp_seq_k fun K3 hK3 => ?_
        refine wp_block ?_
        refine wp_seq_k fun K4 hK4 => ?_
        refine drq0 (fun w' => Chg [] w1 w') (by kernel_rfl) (by kernel_rfl) (fun _ h => h) ?_
        have hrow : (rows.map Row.v)[i]? = some r.v := by simp [hr]
        refine qp 0 (.slice (some ⟨gr, 0, none⟩) rows.length rows.length) ha rfl rfl rfl (by kernel_rfl) fun a ha => ?_
        refine qp 0 (.int .i64 (i : Int)) ha rfl rfl rfl (by kernel_rfl) fun a ha => ?_
        refine qv ha rfl rfl rfl (fun w' _ => ixa (T := 25) ha (by kernel_rfl) (by kernel_rfl) rfl rfl (by omega) (by omega) w') fun a ha => ?_
        refine qv (v := r.v) ha rfl rfl rfl (fun w' hs => ld_run ha rfl (by kernel_rfl) ((Box.chg hR1.row hs (fun h => nomatch h)).cell' (o := i) (by simp) hrow)) fun a ha => ?_
        refine qp 0 (.slice (some ⟨gr, 0, none⟩) rows.length rows.length) ha rfl rfl rfl (by kernel_rfl) fun a ha => ?_
        refine qp 0 (.int .i64 (i : Int)) ha rfl rfl rfl (by kernel_rfl) fun a ha => ?_
        refine qv ha rfl rfl rfl (fun w' _ => ixa (T := 25) ha (by kernel_rfl) (by kernel_rfl) rfl rfl (by omega) (by omega) w') fun a ha => ?_
        refine qv (v := r.v) ha rfl rfl rfl (fun w' hs => ld_run ha rfl (by kernel_rfl) ((Box.chg hR1.row hs (fun h => nomatch h)).cell' (o := i) (by simp) hrow)) fun a ha => ?_
        refine qp 0 (.int .i64 (r.cap : Int)) ha rfl rfl rfl (by kernel_rfl) fun a ha => ?_
        refine qv (v := .slice r.ao r.cap r.cap) ha rfl rfl rfl (fun w' _ => slx_run (T := 5) (s := 1) ha (by kernel_rfl) (by kernel_rfl) rfl rfl w') fun a ha => ?_
        refine qp 0 (.slice r.ao r.cap r.cap) ha rfl rfl rfl (by kernel_rfl) fun a ha => ?_
        refine wpQuiet_nil ?_
        intro w2 hc2
        refine wpl_end ?_
        have ha := ha.sel (env' := [(0, .slice (some ⟨gr, 0, none⟩) rows.length rows.length), (6, .int .i64 (i : Int)), (7, .slice r.ao r.cap r.cap)]) (by kernel_rfl)
        refine hK4 _ _ ?_; clear hK4 K4
        have hC2 := hC.trans hc2 (Ok.nil _ _)
        have hS2 : Cells w2 rows (fun j cur => cur = List.replicate cur.length (.int .u8 (IntKind.u8.wrap ((j : Int) + 1)))) := fun j q g h1 h2 => by
          obtain ⟨cur, c1, c2, c3⟩ := hS j q g h1 h2
          exact ⟨cur, c1.chg hc2 (by simp), c2, c3⟩
        refine wp_seq_k fun K4 hK4 => ?_
        refine wp_region_lit ?_
        refine seg ha 1 [(0, .slice (some ⟨gr, 0, none⟩) rows.length rows.length), (6, .int .i64 (i : Int)), (7, .slice r.ao r.cap r.cap), (8, .int .i64 0)] (by kernel_rfl) fun a ha => ?_
        refine hK4 _ _ ?_; clear hK4 K4
        refine wp_block ?_
        refine wp_loop_ghost (fun kk a w3 => ∃ (k : Nat), kk + k = r.cap + 1 ∧ k ≤ r.cap ∧ w3 = w2 ∧ Has a Tryd.f20.ntmps [(0, .slice (some ⟨gr, 0, none⟩) rows.length rows.length), (6, .int .i64 (i : Int)), (7, .slice r.ao r.cap r.cap), (8, .int .i64 (k : Int))]) (r.cap + 1) ?_ ?_
        · exact ⟨0, by omega, by omega, rfl, ha⟩
        · rintro kk2 a w3 ⟨k, hkk, hkc, rfl, ha⟩
          refine wp_seq_k fun K5 hK5 => ?_
          refine wp_seq_k fun K6 hK6 => ?_
          refine wp_region_lit ?_
          refine seg ha 4 [(0, .slice (some ⟨gr, 0, none⟩) rows.length rows.length), (6, .int .i64 (i : Int)), (7, .slice r.ao r.cap r.cap), (8, .int .i64 (k : Int)), (56, .bool (decide ((k : Int) < (r.cap : Int))))] (by kernel_rfl) fun a ha => ?_
          refine hK6 _ _ ?_; clear hK6 K6
          refine cnd ha rfl (fun hc => ?_) (fun hc => ?_)
          · refine wp_skip ?_
            refine hK5 _ _ ?_; clear hK5 K5
            have hkl : k < r.cap := by simpa using hc
            obtain ⟨g, hg⟩ : ∃ g, r.g = some g := by
              cases hgg : r.g with
              | none => have := hr3 hgg; omega
              | some g => exact ⟨g, rfl⟩
            have hao : r.ao = some ⟨g, 0, none⟩ := by simp [Row.ao, hg]
            rw [hao] at ha
            obtain ⟨cur, c1, c2, c3⟩ := hS2 i r g hr hg
            refine wp_seq_k fun K6 hK6 => ?_
            refine wp_block ?_
            refine wp_seq_k fun K7 hK7 => ?_
            refine wp_region_lit ?_
            refine seg ha 2 [(0, .slice (some ⟨gr, 0, none⟩) rows.length rows.length), (6, .int .i64 (i : Int)), (7, .slice (some ⟨g, 0, none⟩) r.cap r.cap), (8, .int .i64 (k : Int)), (59, .slice (some ⟨g, 0, none⟩) r.cap r.cap), (60, .int .i64 (k : Int))] (by kernel_rfl) fun a ha => ?_
            refine hop ha rfl rfl rfl (ixa (T := 5) ha (by kernel_rfl) (by kernel_rfl) rfl rfl (by omega) (by omega) _) fun a ha => ?_
            refine ld (v := .int .u8 (IntKind.u8.wrap ((i : Int) + 1))) ha rfl (by kernel_rfl) rfl rfl rfl (c1.cell' (o := k) (by rw [Nat.zero_add, Int.toNat_natCast]) (by rw [c3, List.getElem?_replicate, if_pos (by omega)])) fun a ha => ?_
            refine seg ha 4 [(0, .slice (some ⟨gr, 0, none⟩) rows.length rows.length), (6, .int .i64 (i : Int)), (7, .slice (some ⟨g, 0, none⟩) r.cap r.cap), (8, .int .i64 (k : Int)), (66, .bool (IntKind.u8.wrap ((i : Int) + 1) != IntKind.u8.wrap (IntKind.i64.wrap ((i : Int) + 1))))] (by kernel_rfl) fun a ha => ?_
            refine hK7 _ _ ?_; clear hK7 K7
            refine cnd ha rfl (fun hx => ?_) (fun hx => ?_)
            · rw [ewb i hlt] at hx
              simp at hx
            · refine wp_skip ?_
              refine hK6 _ _ ?_; clear hK6 K6
              refine wp_region_lit ?_
              have e5 : IntKind.i64.wrap ((k : Int) + 1) = ((k + 1 : Nat) : Int) := by rw [IntKind.wrap_i64]; omega
              refine seg ha 3 [(0, .slice (some ⟨gr, 0, none⟩) rows.length rows.length), (6, .int .i64 (i : Int)), (7, .slice (some ⟨g, 0, none⟩) r.cap r.cap), (8, .int .i64 (IntKind.i64.wrap ((k : Int) + 1)))] (by kernel_rfl) fun a ha => ?_
              rw [e5, ← hao] at ha
              exact ⟨kk2 - 1, by omega, k + 1, by omega, by omega, rfl, ha⟩
          · refine wp_exit ?_
            simp only [Exit.then, Exit.inBlock, ↓reduceIte, Nat.reduceEqDiff]
            refine hK3 _ _ ?_
            refine wp_region_lit ?_
            have e3 : IntKind.i64.wrap ((i : Int) + 1) = ((i + 1 : Nat) : Int) := by rw [IntKind.wrap_i64]; omega
            refine seg ha 3 [(0, .slice (some ⟨gr, 0, none⟩) rows.length rows.length), (6, .int .i64 (IntKind.i64.wrap ((i : Int) + 1)))] (by kernel_rfl) fun a ha => ?_
            rw [e3] at ha
            exact ⟨kk - 1, by omega, i + 1, by omega, by omega, ha, hC2, hS2⟩
      · refine wp_exit ?_
        simp only [Exit.then, Exit.inBlock, ↓reduceIte, Nat.reduceEqDiff]
        refine hKB _ _ ?_
        refine wp_seq_k fun K hK => ?_
        refine wp_region_lit ?_
        refine seg ha 1 [(2, .bool true)] (by kernel_rfl) fun a ha => ?_
        refine hK _ _ ?_; clear hK K
        refine wp_ret ?_
        refine rt1 ha rfl rfl ⟨rfl, hC, hM.chg hC, fun j q g h1 h2 => ?_⟩
        obtain ⟨cur, c1, c2, c3⟩ := hS j q g h1 h2
        exact ⟨cur, c1, c2, _, c3⟩
  refine wp_block ?_
  refine wp_loop_ghost (fun kk a w1 => ∃ (i : Nat), kk + i = rows.length + 1 ∧ i ≤ rows.length ∧ Has a Tryd.f20.ntmps [(0, .slice (some ⟨gr, 0, none⟩) rows.length rows.length), (3, .int .i64 (i : Int))] ∧ Chg (gsOf rows) w w1 ∧ Cells w1 rows (fun j cur => j < i → cur = List.replicate cur.length (.int .u8 (IntKind.u8.wrap ((j : Int) + 1))))) (rows.length + 1) ?_ ?_
  · exact ⟨0, by omega, by omega, ha, Chg.refl _ _, fun i r g h1 h2 => by
      obtain ⟨cur, c1, c2, _⟩ := h0 i r g h1 h2
      exact ⟨cur, c1, c2, fun h => absurd h (Nat.not_lt_zero _)⟩⟩
  · rintro kk a w1 ⟨i, hk, hi, ha, hC, hS⟩
    have hR1 := hR.keep hC
    refine wp_seq_k fun K1 hK1 => ?_
    refine wp_seq_k fun K2 hK2 => ?_
    refine wp_region_lit ?_
    refine seg ha 4 [(0, .slice (some ⟨gr, 0, none⟩) rows.length rows.length), (3, .int .i64 (i : Int)), (12, .bool (decide ((i : Int) < (rows.length : Int))))] (by kernel_rfl) fun a ha => ?_
    refine hK2 _ _ ?_; clear hK2 K2
    refine cnd ha rfl (fun hc => ?_) (fun hc => ?_)
    · refine wp_skip ?_
      refine hK1 _ _ ?_; clear hK1 K1
      have hlt : i < rows.length := by simpa using hc
      obtain ⟨r, hr⟩ : ∃ r, rows[i]? = some r := ⟨rows[i], by simp [hlt]⟩
      obtain ⟨hr1, hr2, hr3⟩ := hR.cap r (List.mem_of_getElem? hr)
      refine wp_seq_k fun K3 hK3 => ?_
      refine wp_block ?_
      refine wp_seq_k fun K4 hK4 => ?_
      refine drq0 (fun w' => Chg [] w1 w') (by kernel_rfl) (by kernel_rfl) (fun _ h => h) ?_
      have hrow : (rows.map Row.v)[i]? = some r.v := by simp [hr]
      refine qp 0 (.slice (some ⟨gr, 0, none⟩) rows.length rows.length) ha rfl rfl rfl (by kernel_rfl) fun a ha => ?_
      refine qp 0 (.int .i64 (i : Int)) ha rfl rfl rfl (by kernel_rfl) fun a ha => ?_
      refine qv ha rfl rfl rfl (fun w' _ => ixa (T := 25) ha (by kernel_rfl) (by kernel_rfl) rfl rfl (by omega) (by omega) w') fun a ha => ?_
      refine qv (v := r.v) ha rfl rfl rfl (fun w' hs => ld_run ha rfl (by kernel_rfl) ((Box.chg hR1.row hs (fun h => nomatch h)).cell' (o := i) (by simp) hrow)) fun a ha => ?_
      refine qp 0 (.slice (some ⟨gr, 0, none⟩) rows.length rows.length) ha rfl rfl rfl (by kernel_rfl) fun a ha => ?_
      refine qp 0 (.int .i64 (i : Int)) ha rfl rfl rfl (by kernel_rfl) fun a ha => ?_
      refine qv ha rfl rfl rfl (fun w' _ => ixa (T := 25) ha (by kernel_rfl) (by kernel_rfl) rfl rfl (by omega) (by omega) w') fun a ha => ?_
      refine qv (v := r.v) ha rfl rfl rfl (fun w' hs => ld_run ha rfl (by kernel_rfl) ((Box.chg hR1.row hs (fun h => nomatch h)).cell' (o := i) (by simp) hrow)) fun a ha => ?_
      refine qp 0 (.int .i64 (r.cap : Int)) ha rfl rfl rfl (by kernel_rfl) fun a ha => ?_
      refine qv (v := .slice r.ao r.cap r.cap) ha rfl rfl rfl (fun w' _ => slx_run (T := 5) (s := 1) ha (by kernel_rfl) (by kernel_rfl) rfl rfl w') fun a ha => ?_
      refine qp 0 (.slice r.ao r.cap r.cap) ha rfl rfl rfl (by kernel_rfl) fun a ha => ?_
      refine wpQuiet_nil ?_
      intro w2 hc2
      refine wpl_end ?_
      have ha := ha.sel (env' := [(0, .slice (some ⟨gr, 0, none⟩) rows.length rows.length), (3, .int .i64 (i : Int)), (4, .slice r.ao r.cap r.cap)]) (by kernel_rfl)
      refine hK4 _ _ ?_; clear hK4 K4
      have hC2 := hC.trans hc2 (Ok.nil _ _)
      have hS2 : Cells w2 rows (fun j cur => j < i → cur = List.replicate cur.length (.int .u8 (IntKind.u8.wrap ((j : Int) + 1)))) := fun j q g h1 h2 => by
        obtain ⟨cur, c1, c2, c3⟩ := hS j q g h1 h2
        exact ⟨cur, c1.chg hc2 (by simp), c2, c3⟩
      refine wp_seq_k fun K4 hK4 => ?_
      refine wp_region_lit ?_
      refine seg ha 1 [(0, .slice (some ⟨gr, 0, none⟩) rows.length rows.length), (3, .int .i64 (i : Int)), (4, .slice r.ao r.cap r.cap), (5, .int .i64 0)] (by kernel_rfl) fun a ha => ?_
      refine hK4 _ _ ?_; clear hK4 K4
      have ewb : ∀ (j : Nat), j < rows.length → IntKind.u8.wrap (IntKind.i64.wrap ((j : Int) + 1)) = IntKind.u8.wrap ((j : Int) + 1) := fun j hj => by
        have : IntKind.i64.wrap ((j : Int) + 1) = (j : Int) + 1 := by rw [IntKind.wrap_i64]; omega
        rw [this]
      have hm : maxLen = 9223372036854775807 := rfl
      refine wp_block ?_
      refine wp_loop_ghost (fun kk a w3 => ∃ (k : Nat), kk + k = r.cap + 1 ∧ k ≤ r.cap ∧ Has a Tryd.f20.ntmps [(0, .slice (some ⟨gr, 0, none⟩) rows.length rows.length), (3, .int .i64 (i : Int)), (4, .slice r.ao r.cap r.cap), (5, .int .i64 (k : Int))] ∧ Chg (gsOf rows) w w3 ∧
        Cells w3 rows (fun j cur => (j < i → cur = List.replicate cur.length (.int .u8 (IntKind.u8.wrap ((j : Int) + 1)))) ∧ (j = i → cur.take k = List.replicate k (.int .u8 (IntKind.u8.wrap ((j : Int) + 1)))))) (r.cap + 1) ?_ ?_
      · exact ⟨0, by omega, by omega, ha, hC2, fun j q g h1 h2 => by
          obtain ⟨cur, c1, c2, c3⟩ := hS2 j q g h1 h2
          exact ⟨cur, c1, c2, c3, fun _ => by simp⟩⟩
      · rintro kk2 a w3 ⟨k, hkk, hkc, ha, hC3, hS3⟩
        refine wp_seq_k fun K5 hK5 => ?_
        refine wp_seq_k fun K6 hK6 => ?_
        refine wp_region_lit ?_
        refine seg ha 4 [(0, .slice (some ⟨gr, 0, none⟩) rows.length rows.length), (3, .int .i64 (i : Int)), (4, .slice r.ao r.cap r.cap), (5, .int .i64 (k : Int)), (28, .bool (decide ((k : Int) < (r.cap : Int))))] (by kernel_rfl) fun a ha => ?_
        refine hK6 _ _ ?_; clear hK6 K6
        refine cnd ha rfl (fun hc => ?_) (fun hc => ?_)
        · refine wp_skip ?_
          refine hK5 _ _ ?_; clear hK5 K5
          have hkl : k < r.cap := by simpa using hc
          obtain ⟨g, hg⟩ : ∃ g, r.g = some g := by
            cases hgg : r.g with
            | none => have := hr3 hgg; omega
            | some g => exact ⟨g, rfl⟩
          have hao : r.ao = some ⟨g, 0, none⟩ := by simp [Row.ao, hg]
          rw [hao] at ha
          obtain ⟨cur, c1, c2, c3, c4⟩ := hS3 i r g hr hg
          refine wp_seq_k fun K6 hK6 => ?_
          refine wp_block ?_
          refine wp_region_lit ?_
          refine seg ha 5 [(0, .slice (some ⟨gr, 0, none⟩) rows.length rows.length), (3, .int .i64 (i : Int)), (4, .slice (some ⟨g, 0, none⟩) r.cap r.cap), (5, .int .i64 (k : Int)), (31, .slice (some ⟨g, 0, none⟩) r.cap r.cap), (32, .int .i64 (k : Int)), (35, .int .u8 (IntKind.u8.wrap (IntKind.i64.wrap ((i : Int) + 1))))] (by kernel_rfl) fun a ha => ?_
          refine hop ha rfl rfl rfl (ixa (T := 5) ha (by kernel_rfl) (by kernel_rfl) rfl rfl (by omega) (by omega) _) fun a ha => ?_
          refine st (cs := cur) (g := g) (o' := k) ha rfl rfl (by simp) (by kernel_rfl) rfl rfl c1 (by omega) fun a w4 ha hB4 hc4 _ => ?_
          refine wpl_end ?_
          have ha := ha.sel (env' := [(0, .slice (some ⟨gr, 0, none⟩) rows.length rows.length), (3, .int .i64 (i : Int)), (4, .slice (some ⟨g, 0, none⟩) r.cap r.cap), (5, .int .i64 (k : Int))]) (by kernel_rfl)
          refine hK6 _ _ ?_; clear hK6 K6
          refine wp_region_lit ?_
          have e5 : IntKind.i64.wrap ((k : Int) + 1) = ((k + 1 : Nat) : Int) := by rw [IntKind.wrap_i64]; omega
          refine seg ha 3 [(0, .slice (some ⟨gr, 0, none⟩) rows.length rows.length), (3, .int .i64 (i : Int)), (4, .slice (some ⟨g, 0, none⟩) r.cap r.cap), (5, .int .i64 (IntKind.i64.wrap ((k : Int) + 1)))] (by kernel_rfl) fun a ha => ?_
          rw [e5, ← hao] at ha
          refine ⟨kk2 - 1, by omega, k + 1, by omega, by omega, ha, hC3.trans hc4 (Ok.one (.inl (gs_mem hr hg))), fun j q g2 h1 h2 => ?_⟩
          by_cases hji : j = i
          · subst hji
            have hq : q = r := Option.some.inj (h1.symm.trans hr)
            subst hq
            have hgg : g2 = g := Option.some.inj (h2.symm.trans hg)
            subst hgg
            refine ⟨_, hB4, by simp [c2], fun h => absurd h (Nat.lt_irrefl _), fun _ => ?_⟩
            rw [ewb j hlt, List.replicate_succ', ← c4 rfl]
            rw [List.take_add_one]
            have hklen : k < cur.length := by omega
            rw [List.take_set_of_le (Nat.le_refl _)]
            simp [hklen]
          · have hne : g2 ≠ g := fun e => hji (hR.one j i q r g h1 hr (e ▸ h2) hg)
            obtain ⟨cu, b1, b2, b3, b4⟩ := hS3 j q g2 h1 h2
            exact ⟨cu, b1.chg hc4 (by simpa using hne), b2, b3, fun e => absurd e hji⟩
        · refine wp_exit ?_
          simp only [Exit.then, Exit.inBlock, ↓reduceIte, Nat.reduceEqDiff]
          have hkc' : k = r.cap := by
            have : ¬ k < r.cap := by simpa using hc
            omega
          subst hkc'
          refine hK3 _ _ ?_
          refine wp_region_lit ?_
          have e3 : IntKind.i64.wrap ((i : Int) + 1) = ((i + 1 : Nat) : Int) := by rw [IntKind.wrap_i64]; omega
          refine seg ha 3 [(0, .slice (some ⟨gr, 0, none⟩) rows.length rows.length), (3, .int .i64 (IntKind.i64.wrap ((i : Int) + 1)))] (by kernel_rfl) fun a ha => ?_
          rw [e3] at ha
          refine ⟨kk - 1, by omega, i + 1, by omega, by omega, ha, hC3, fun j q g2 h1 h2 => ?_⟩
          obtain ⟨cu, b1, b2, b3, b4⟩ := hS3 j q g2 h1 h2
          refine ⟨cu, b1, b2, fun hj => ?_⟩
          by_cases hji : j = i
          · have hq : q = r := by subst hji; exact Option.some.inj (h1.symm.trans hr)
            subst hq
            have := b4 hji
            rw [← b2, List.take_length] at this
            exact this
          · exact b3 (by omega)
    · refine wp_exit ?_
      simp only [Exit.then, Exit.inBlock, ↓reduceIte, Nat.reduceEqDiff]
      have hge : i = rows.length := by
        have : ¬ i < rows.length := by simpa using hc
        omega
      subst hge
      exact J1 _ _ (ha.sel (by kernel_rfl)) hC (fun j q g h1 h2 => by
        obtain ⟨cur, c1, c2, c3⟩ := hS j q g h1 h2
        exact ⟨cur, c1, c2, c3 (List.getElem?_eq_some_iff.1 h1).1⟩)
theorem Owned.call (w : World) (M : List Nat) (hM : MS M w) (gr : Nat) (l : List (Option Addr × Nat × Nat)) (gs : List Nat) (h : ∀ q ∈ l, RowOk w q) (hp : l.Pairwise (fun p q => ∀ x ∈ blkL p.1, x ∉ blkL q.1)) (ho : ∀ q ∈ l, gr ∉ blkL q.1) (hB : Box w gr (l.map fun q => .slice q.1 q.2.1 q.2.2)) (hl : l.length ≤ 1000) (hgs : ∀ q ∈ l, ∀ x ∈ blkL q.1, x ∈ gs) :
    To Tryd.prog 20 [.slice (some ⟨gr, 0, none⟩) l.length l.length] w fun v w' => v = .bool true ∧ Chg gs w w' ∧ MS M w' := by
  obtain ⟨h1, h2, h3⟩ := rows_of l h hp ho hB
  have e : (l.map rowOf).length = l.length := by simp
  have := Owned.go w M hM gr (l.map rowOf) h1 (by omega) h2
  rw [e] at this
  exact this.mono fun v w' ⟨e, hc, hm, _⟩ => ⟨e, hc.mono (fun x hx => .inl (h3 gs hgs x hx)), hm⟩

end Go.E
