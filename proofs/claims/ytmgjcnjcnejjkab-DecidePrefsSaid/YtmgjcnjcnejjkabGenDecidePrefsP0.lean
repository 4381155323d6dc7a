/- What the functions that the law reaches compute, and the walks that show it. -/
import Derived.Test.YtmgjcnjcnejjkabEngR
import Derived.Test.YtmgjcnjcnejjkabProg
set_option linter.unusedVariables false
set_option linter.unusedSimpArgs false
namespace Go.E
open Go.RowKit Go.Proofs
structure S_api_Addr where
  Size : Int
  B : List Int
  deriving DecidableEq, Inhabited
def cS_api_Addr (x : S_api_Addr) : List Value := ([.int .i64 x.Size] : List Value) ++ (cA .u8 16 x.B)
def rS_api_Addr : Rep S_api_Addr := rIso (fun x : S_api_Addr => (x.Size, x.B)) (rPair (rInt .i64) (rArr .u8 16))
theorem rS_api_Addr.open {w : World} {M : List Nat} {cs : List Value} {x : S_api_Addr} (h : rS_api_Addr.R w M cs x) : cs = cS_api_Addr x := by
  obtain ⟨c0, k0, e0, h0, h1⟩ := h
  obtain rfl := h0
  obtain rfl := h1
  subst e0
  exact rfl
theorem rS_api_Addr.mk {w : World} {M : List Nat} (x : S_api_Addr) : rS_api_Addr.R w M (cS_api_Addr x) x := ⟨_, _, rfl, rfl, rfl⟩
def okS_api_Addr (x : S_api_Addr) : Prop := (okI .i64) x.Size ∧ (okA .u8 16) x.B
structure S_api_Mroute where
  Kind : Int
  RD : List Int
  AS : Int
  Source : S_api_Addr
  Group : S_api_Addr
  From : S_api_Addr
  Key : List UInt8
  deriving DecidableEq, Inhabited
def cS_api_Mroute (x : S_api_Mroute) : List Value := ([.int .i64 x.Kind] : List Value) ++ (cA .u8 8 x.RD ++ (([.int .i64 x.AS] : List Value) ++ (cS_api_Addr x.Source ++ (cS_api_Addr x.Group ++ (cS_api_Addr x.From ++ (([.string (bstr x.Key)] : List Value)))))))
def rS_api_Mroute : Rep S_api_Mroute := rIso (fun x : S_api_Mroute => (x.Kind, (x.RD, (x.AS, (x.Source, (x.Group, (x.From, x.Key))))))) (rPair (rInt .i64) (rPair (rArr .u8 8) (rPair (rInt .i64) (rPair rS_api_Addr (rPair rS_api_Addr (rPair rS_api_Addr rStr))))))
theorem rS_api_Mroute.open {w : World} {M : List Nat} {cs : List Value} {x : S_api_Mroute} (h : rS_api_Mroute.R w M cs x) : cs = cS_api_Mroute x := by
  obtain ⟨c0, k0, e0, h0, ⟨c1, k1, e1, h1, ⟨c2, k2, e2, h2, ⟨c3, k3, e3, h3, ⟨c4, k4, e4, h4, ⟨c5, k5, e5, h5, h6⟩⟩⟩⟩⟩⟩ := h
  have h3 := rS_api_Addr.open h3
  have h4 := rS_api_Addr.open h4
  have h5 := rS_api_Addr.open h5
  obtain rfl := h0
  obtain rfl := h1
  obtain rfl := h2
  obtain rfl := h3
  obtain rfl := h4
  obtain rfl := h5
  obtain rfl := h6
  subst e5
  subst e4
  subst e3
  subst e2
  subst e1
  subst e0
  exact rfl
theorem rS_api_Mroute.mk {w : World} {M : List Nat} (x : S_api_Mroute) : rS_api_Mroute.R w M (cS_api_Mroute x) x := ⟨_, _, rfl, rfl, ⟨_, _, rfl, rfl, ⟨_, _, rfl, rfl, ⟨_, _, rfl, (rS_api_Addr.mk x.Source), ⟨_, _, rfl, (rS_api_Addr.mk x.Group), ⟨_, _, rfl, (rS_api_Addr.mk x.From), rfl⟩⟩⟩⟩⟩⟩
def okS_api_Mroute (x : S_api_Mroute) : Prop := (okI .i64) x.Kind ∧ (okA .u8 8) x.RD ∧ (okI .i64) x.AS ∧ (okS_api_Addr) x.Source ∧ (okS_api_Addr) x.Group ∧ (okS_api_Addr) x.From ∧ okS x.Key
structure S_api_Prefix where
  Addr : S_api_Addr
  Bits : Int
  deriving DecidableEq, Inhabited
def cS_api_Prefix (x : S_api_Prefix) : List Value := cS_api_Addr x.Addr ++ (([.int .i64 x.Bits] : List Value))
def rS_api_Prefix : Rep S_api_Prefix := rIso (fun x : S_api_Prefix => (x.Addr, x.Bits)) (rPair rS_api_Addr (rInt .i64))
theorem rS_api_Prefix.open {w : World} {M : List Nat} {cs : List Value} {x : S_api_Prefix} (h : rS_api_Prefix.R w M cs x) : cs = cS_api_Prefix x := by
  obtain ⟨c0, k0, e0, h0, h1⟩ := h
  have h0 := rS_api_Addr.open h0
  obtain rfl := h0
  obtain rfl := h1
  subst e0
  exact rfl
theorem rS_api_Prefix.mk {w : World} {M : List Nat} (x : S_api_Prefix) : rS_api_Prefix.R w M (cS_api_Prefix x) x := ⟨_, _, rfl, (rS_api_Addr.mk x.Addr), rfl⟩
def okS_api_Prefix (x : S_api_Prefix) : Prop := (okS_api_Addr) x.Addr ∧ (okI .i64) x.Bits
structure S_api_Uroute where
  RD : List Int
  Prefix : S_api_Prefix
  Label : Int
  deriving DecidableEq, Inhabited
def cS_api_Uroute (x : S_api_Uroute) : List Value := cA .u8 8 x.RD ++ (cS_api_Prefix x.Prefix ++ (([.int .i64 x.Label] : List Value)))
def rS_api_Uroute : Rep S_api_Uroute := rIso (fun x : S_api_Uroute => (x.RD, (x.Prefix, x.Label))) (rPair (rArr .u8 8) (rPair rS_api_Prefix (rInt .i64)))
theorem rS_api_Uroute.open {w : World} {M : List Nat} {cs : List Value} {x : S_api_Uroute} (h : rS_api_Uroute.R w M cs x) : cs = cS_api_Uroute x := by
  obtain ⟨c0, k0, e0, h0, ⟨c1, k1, e1, h1, h2⟩⟩ := h
  have h1 := rS_api_Prefix.open h1
  obtain rfl := h0
  obtain rfl := h1
  obtain rfl := h2
  subst e1
  subst e0
  exact rfl
theorem rS_api_Uroute.mk {w : World} {M : List Nat} (x : S_api_Uroute) : rS_api_Uroute.R w M (cS_api_Uroute x) x := ⟨_, _, rfl, rfl, ⟨_, _, rfl, (rS_api_Prefix.mk x.Prefix), rfl⟩⟩
def okS_api_Uroute (x : S_api_Uroute) : Prop := (okA .u8 8) x.RD ∧ (okS_api_Prefix) x.Prefix ∧ (okI .i64) x.Label
structure S_api_Segment where
  Set : Bool
  AS : List Int
  deriving DecidableEq, Inhabited
def cS_api_Segment (x : S_api_Segment) (ao1 : Option Addr) (cap1 : Nat) : List Value := ([.bool x.Set] : List Value) ++ (([.slice ao1 x.AS.length cap1] : List Value))
def rS_api_Segment : Rep S_api_Segment := rIso (fun x : S_api_Segment => (x.Set, x.AS)) (rPair rBool (rSl 3 (rInt .i64)))
theorem rS_api_Segment.open {w : World} {M : List Nat} {cs : List Value} {x : S_api_Segment} (h : rS_api_Segment.R w M cs x) : ∃ (ao1 : Option Addr) (cap1 : Nat), cs = cS_api_Segment x ao1 cap1 ∧ RSl (rInt .i64) 3 w M ao1 cap1 x.AS := by
  obtain ⟨c0, k0, e0, h0, h1⟩ := h
  obtain rfl := h0
  obtain ⟨ao1, cap1, rfl, f1⟩ := h1
  subst e0
  exact ⟨ao1, cap1, rfl, f1⟩
theorem rS_api_Segment.mk {w : World} {M : List Nat} (x : S_api_Segment) {ao1 : Option Addr} {cap1 : Nat} (f1 : RSl (rInt .i64) 3 w M ao1 cap1 x.AS) : rS_api_Segment.R w M (cS_api_Segment x ao1 cap1) x := ⟨_, _, rfl, rfl, ⟨ao1, cap1, rfl, f1⟩⟩
def okS_api_Segment (x : S_api_Segment) : Prop := okB x.Set ∧ (okL 8 (okI .i64)) x.AS
structure S_api_Tunnel where
  Leaf : Bool
  Kind : Int
  Label : Int
  Root : S_api_Addr
  Id : List Int
  deriving DecidableEq, Inhabited
def cS_api_Tunnel (x : S_api_Tunnel) (ao1 : Option Addr) (cap1 : Nat) : List Value := ([.bool x.Leaf] : List Value) ++ (([.int .i64 x.Kind] : List Value) ++ (([.int .i64 x.Label] : List Value) ++ (cS_api_Addr x.Root ++ (([.slice ao1 x.Id.length cap1] : List Value)))))
def rS_api_Tunnel : Rep S_api_Tunnel := rIso (fun x : S_api_Tunnel => (x.Leaf, (x.Kind, (x.Label, (x.Root, x.Id))))) (rPair rBool (rPair (rInt .i64) (rPair (rInt .i64) (rPair rS_api_Addr (rSl 5 (rInt .u8))))))
theorem rS_api_Tunnel.open {w : World} {M : List Nat} {cs : List Value} {x : S_api_Tunnel} (h : rS_api_Tunnel.R w M cs x) : ∃ (ao1 : Option Addr) (cap1 : Nat), cs = cS_api_Tunnel x ao1 cap1 ∧ RSl (rInt .u8) 5 w M ao1 cap1 x.Id := by
  obtain ⟨c0, k0, e0, h0, ⟨c1, k1, e1, h1, ⟨c2, k2, e2, h2, ⟨c3, k3, e3, h3, h4⟩⟩⟩⟩ := h
  have h3 := rS_api_Addr.open h3
  obtain rfl := h0
  obtain rfl := h1
  obtain rfl := h2
  obtain rfl := h3
  obtain ⟨ao1, cap1, rfl, f1⟩ := h4
  subst e3
  subst e2
  subst e1
  subst e0
  exact ⟨ao1, cap1, rfl, f1⟩
theorem rS_api_Tunnel.mk {w : World} {M : List Nat} (x : S_api_Tunnel) {ao1 : Option Addr} {cap1 : Nat} (f1 : RSl (rInt .u8) 5 w M ao1 cap1 x.Id) : rS_api_Tunnel.R w M (cS_api_Tunnel x ao1 cap1) x := ⟨_, _, rfl, rfl, ⟨_, _, rfl, rfl, ⟨_, _, rfl, rfl, ⟨_, _, rfl, (rS_api_Addr.mk x.Root), ⟨ao1, cap1, rfl, f1⟩⟩⟩⟩⟩
def okS_api_Tunnel (x : S_api_Tunnel) : Prop := okB x.Leaf ∧ (okI .i64) x.Kind ∧ (okI .i64) x.Label ∧ (okS_api_Addr) x.Root ∧ (okL 1 (okI .u8)) x.Id
structure S_api_Attrs where
  Origin : Int
  Path : List S_api_Segment
  Med : Int
  Pref : Int
  Originator : S_api_Addr
  Clusters : List S_api_Addr
  Exts : List (List Int)
  Tunnels : List S_api_Tunnel
  deriving DecidableEq, Inhabited
def cS_api_Attrs (x : S_api_Attrs) (ao1 : Option Addr) (cap1 : Nat) (ao2 : Option Addr) (cap2 : Nat) (ao3 : Option Addr) (cap3 : Nat) (ao4 : Option Addr) (cap4 : Nat) : List Value := ([.int .i64 x.Origin] : List Value) ++ (([.slice ao1 x.Path.length cap1] : List Value) ++ (([.int .i64 x.Med] : List Value) ++ (([.int .i64 x.Pref] : List Value) ++ (cS_api_Addr x.Originator ++ (([.slice ao2 x.Clusters.length cap2] : List Value) ++ (([.slice ao3 x.Exts.length cap3] : List Value) ++ (([.slice ao4 x.Tunnels.length cap4] : List Value))))))))
def rS_api_Attrs : Rep S_api_Attrs := rIso (fun x : S_api_Attrs => (x.Origin, (x.Path, (x.Med, (x.Pref, (x.Originator, (x.Clusters, (x.Exts, x.Tunnels)))))))) (rPair (rInt .i64) (rPair (rSl 58 rS_api_Segment) (rPair (rInt .i64) (rPair (rInt .i64) (rPair rS_api_Addr (rPair (rSl 26 rS_api_Addr) (rPair (rSl 81 (rArr .u8 8)) (rSl 70 rS_api_Tunnel))))))))
theorem rS_api_Attrs.open {w : World} {M : List Nat} {cs : List Value} {x : S_api_Attrs} (h : rS_api_Attrs.R w M cs x) : ∃ (ao1 : Option Addr) (cap1 : Nat) (ao2 : Option Addr) (cap2 : Nat) (ao3 : Option Addr) (cap3 : Nat) (ao4 : Option Addr) (cap4 : Nat), cs = cS_api_Attrs x ao1 cap1 ao2 cap2 ao3 cap3 ao4 cap4 ∧ RSl rS_api_Segment 58 w M ao1 cap1 x.Path ∧ RSl rS_api_Addr 26 w M ao2 cap2 x.Clusters ∧ RSl (rArr .u8 8) 81 w M ao3 cap3 x.Exts ∧ RSl rS_api_Tunnel 70 w M ao4 cap4 x.Tunnels := by
  obtain ⟨c0, k0, e0, h0, ⟨c1, k1, e1, h1, ⟨c2, k2, e2, h2, ⟨c3, k3, e3, h3, ⟨c4, k4, e4, h4, ⟨c5, k5, e5, h5, ⟨c6, k6, e6, h6, h7⟩⟩⟩⟩⟩⟩⟩ := h
  have h4 := rS_api_Addr.open h4
  obtain rfl := h0
  obtain ⟨ao1, cap1, rfl, f1⟩ := h1
  obtain rfl := h2
  obtain rfl := h3
  obtain rfl := h4
  obtain ⟨ao2, cap2, rfl, f2⟩ := h5
  obtain ⟨ao3, cap3, rfl, f3⟩ := h6
  obtain ⟨ao4, cap4, rfl, f4⟩ := h7
  subst e6
  subst e5
  subst e4
  subst e3
  subst e2
  subst e1
  subst e0
  exact ⟨ao1, cap1, ao2, cap2, ao3, cap3, ao4, cap4, rfl, f1, f2, f3, f4⟩
theorem rS_api_Attrs.mk {w : World} {M : List Nat} (x : S_api_Attrs) {ao1 : Option Addr} {cap1 : Nat} {ao2 : Option Addr} {cap2 : Nat} {ao3 : Option Addr} {cap3 : Nat} {ao4 : Option Addr} {cap4 : Nat} (f1 : RSl rS_api_Segment 58 w M ao1 cap1 x.Path) (f2 : RSl rS_api_Addr 26 w M ao2 cap2 x.Clusters) (f3 : RSl (rArr .u8 8) 81 w M ao3 cap3 x.Exts) (f4 : RSl rS_api_Tunnel 70 w M ao4 cap4 x.Tunnels) : rS_api_Attrs.R w M (cS_api_Attrs x ao1 cap1 ao2 cap2 ao3 cap3 ao4 cap4) x := ⟨_, _, rfl, rfl, ⟨_, _, rfl, ⟨ao1, cap1, rfl, f1⟩, ⟨_, _, rfl, rfl, ⟨_, _, rfl, rfl, ⟨_, _, rfl, (rS_api_Addr.mk x.Originator), ⟨_, _, rfl, ⟨ao2, cap2, rfl, f2⟩, ⟨_, _, rfl, ⟨ao3, cap3, rfl, f3⟩, ⟨ao4, cap4, rfl, f4⟩⟩⟩⟩⟩⟩⟩⟩
def okS_api_Attrs (x : S_api_Attrs) : Prop := (okI .i64) x.Origin ∧ (okL 32 (okS_api_Segment)) x.Path ∧ (okI .i64) x.Med ∧ (okI .i64) x.Pref ∧ (okS_api_Addr) x.Originator ∧ (okL 24 (okS_api_Addr)) x.Clusters ∧ (okL 8 (okA .u8 8)) x.Exts ∧ (okL 72 (okS_api_Tunnel)) x.Tunnels
structure S_api_Route where
  Size : Int
  Safi : Int
  M : S_api_Mroute
  U : S_api_Uroute
  Next : S_api_Addr
  Attrs : S_api_Attrs
  deriving DecidableEq, Inhabited
def cS_api_Route (x : S_api_Route) (ao1 : Option Addr) (cap1 : Nat) (ao2 : Option Addr) (cap2 : Nat) (ao3 : Option Addr) (cap3 : Nat) (ao4 : Option Addr) (cap4 : Nat) : List Value := ([.int .i64 x.Size] : List Value) ++ (([.int .i64 x.Safi] : List Value) ++ (cS_api_Mroute x.M ++ (cS_api_Uroute x.U ++ (cS_api_Addr x.Next ++ (cS_api_Attrs x.Attrs ao1 cap1 ao2 cap2 ao3 cap3 ao4 cap4)))))
def rS_api_Route : Rep S_api_Route := rIso (fun x : S_api_Route => (x.Size, (x.Safi, (x.M, (x.U, (x.Next, x.Attrs)))))) (rPair (rInt .i64) (rPair (rInt .i64) (rPair rS_api_Mroute (rPair rS_api_Uroute (rPair rS_api_Addr rS_api_Attrs)))))
theorem rS_api_Route.open {w : World} {M : List Nat} {cs : List Value} {x : S_api_Route} (h : rS_api_Route.R w M cs x) : ∃ (ao1 : Option Addr) (cap1 : Nat) (ao2 : Option Addr) (cap2 : Nat) (ao3 : Option Addr) (cap3 : Nat) (ao4 : Option Addr) (cap4 : Nat), cs = cS_api_Route x ao1 cap1 ao2 cap2 ao3 cap3 ao4 cap4 ∧ RSl rS_api_Segment 58 w M ao1 cap1 x.Attrs.Path ∧ RSl rS_api_Addr 26 w M ao2 cap2 x.Attrs.Clusters ∧ RSl (rArr .u8 8) 81 w M ao3 cap3 x.Attrs.Exts ∧ RSl rS_api_Tunnel 70 w M ao4 cap4 x.Attrs.Tunnels := by
  obtain ⟨c0, k0, e0, h0, ⟨c1, k1, e1, h1, ⟨c2, k2, e2, h2, ⟨c3, k3, e3, h3, ⟨c4, k4, e4, h4, h5⟩⟩⟩⟩⟩ := h
  have h2 := rS_api_Mroute.open h2
  have h3 := rS_api_Uroute.open h3
  have h4 := rS_api_Addr.open h4
  have h5 := rS_api_Attrs.open h5
  obtain rfl := h0
  obtain rfl := h1
  obtain rfl := h2
  obtain rfl := h3
  obtain rfl := h4
  obtain ⟨ao1, cap1, ao2, cap2, ao3, cap3, ao4, cap4, rfl, f1, f2, f3, f4⟩ := h5
  subst e4
  subst e3
  subst e2
  subst e1
  subst e0
  exact ⟨ao1, cap1, ao2, cap2, ao3, cap3, ao4, cap4, rfl, f1, f2, f3, f4⟩
theorem rS_api_Route.mk {w : World} {M : List Nat} (x : S_api_Route) {ao1 : Option Addr} {cap1 : Nat} {ao2 : Option Addr} {cap2 : Nat} {ao3 : Option Addr} {cap3 : Nat} {ao4 : Option Addr} {cap4 : Nat} (f1 : RSl rS_api_Segment 58 w M ao1 cap1 x.Attrs.Path) (f2 : RSl rS_api_Addr 26 w M ao2 cap2 x.Attrs.Clusters) (f3 : RSl (rArr .u8 8) 81 w M ao3 cap3 x.Attrs.Exts) (f4 : RSl rS_api_Tunnel 70 w M ao4 cap4 x.Attrs.Tunnels) : rS_api_Route.R w M (cS_api_Route x ao1 cap1 ao2 cap2 ao3 cap3 ao4 cap4) x := ⟨_, _, rfl, rfl, ⟨_, _, rfl, rfl, ⟨_, _, rfl, (rS_api_Mroute.mk x.M), ⟨_, _, rfl, (rS_api_Uroute.mk x.U), ⟨_, _, rfl, (rS_api_Addr.mk x.Next), (rS_api_Attrs.mk x.Attrs f1 f2 f3 f4)⟩⟩⟩⟩⟩
def okS_api_Route (x : S_api_Route) : Prop := (okI .i64) x.Size ∧ (okI .i64) x.Safi ∧ (okS_api_Mroute) x.M ∧ (okS_api_Uroute) x.U ∧ (okS_api_Addr) x.Next ∧ (okS_api_Attrs) x.Attrs
structure S_api_Choice where
  Route : S_api_Route
  Peer : Int
  Id : S_api_Addr
  deriving DecidableEq, Inhabited
def cS_api_Choice (x : S_api_Choice) (ao1 : Option Addr) (cap1 : Nat) (ao2 : Option Addr) (cap2 : Nat) (ao3 : Option Addr) (cap3 : Nat) (ao4 : Option Addr) (cap4 : Nat) : List Value := cS_api_Route x.Route ao1 cap1 ao2 cap2 ao3 cap3 ao4 cap4 ++ (([.int .i64 x.Peer] : List Value) ++ (cS_api_Addr x.Id))
def rS_api_Choice : Rep S_api_Choice := rIso (fun x : S_api_Choice => (x.Route, (x.Peer, x.Id))) (rPair rS_api_Route (rPair (rInt .i64) rS_api_Addr))
theorem rS_api_Choice.open {w : World} {M : List Nat} {cs : List Value} {x : S_api_Choice} (h : rS_api_Choice.R w M cs x) : ∃ (ao1 : Option Addr) (cap1 : Nat) (ao2 : Option Addr) (cap2 : Nat) (ao3 : Option Addr) (cap3 : Nat) (ao4 : Option Addr) (cap4 : Nat), cs = cS_api_Choice x ao1 cap1 ao2 cap2 ao3 cap3 ao4 cap4 ∧ RSl rS_api_Segment 58 w M ao1 cap1 x.Route.Attrs.Path ∧ RSl rS_api_Addr 26 w M ao2 cap2 x.Route.Attrs.Clusters ∧ RSl (rArr .u8 8) 81 w M ao3 cap3 x.Route.Attrs.Exts ∧ RSl rS_api_Tunnel 70 w M ao4 cap4 x.Route.Attrs.Tunnels := by
  obtain ⟨c0, k0, e0, h0, ⟨c1, k1, e1, h1, h2⟩⟩ := h
  have h0 := rS_api_Route.open h0
  have h2 := rS_api_Addr.open h2
  obtain ⟨ao1, cap1, ao2, cap2, ao3, cap3, ao4, cap4, rfl, f1, f2, f3, f4⟩ := h0
  obtain rfl := h1
  obtain rfl := h2
  subst e1
  subst e0
  exact ⟨ao1, cap1, ao2, cap2, ao3, cap3, ao4, cap4, rfl, f1, f2, f3, f4⟩
theorem rS_api_Choice.mk {w : World} {M : List Nat} (x : S_api_Choice) {ao1 : Option Addr} {cap1 : Nat} {ao2 : Option Addr} {cap2 : Nat} {ao3 : Option Addr} {cap3 : Nat} {ao4 : Option Addr} {cap4 : Nat} (f1 : RSl rS_api_Segment 58 w M ao1 cap1 x.Route.Attrs.Path) (f2 : RSl rS_api_Addr 26 w M ao2 cap2 x.Route.Attrs.Clusters) (f3 : RSl (rArr .u8 8) 81 w M ao3 cap3 x.Route.Attrs.Exts) (f4 : RSl rS_api_Tunnel 70 w M ao4 cap4 x.Route.Attrs.Tunnels) : rS_api_Choice.R w M (cS_api_Choice x ao1 cap1 ao2 cap2 ao3 cap3 ao4 cap4) x := ⟨_, _, rfl, (rS_api_Route.mk x.Route f1 f2 f3 f4), ⟨_, _, rfl, rfl, (rS_api_Addr.mk x.Id)⟩⟩
def okS_api_Choice (x : S_api_Choice) : Prop := (okS_api_Route) x.Route ∧ (okI .i64) x.Peer ∧ (okS_api_Addr) x.Id
def vinerylaw07_V4.f (a0 : Int) (a1 : Int) (a2 : Int) (a3 : Int) : Option (S_api_Addr) := some (((⟨(4 : Int), ([a0, a1, a2, a3, (0 : Int), (0 : Int), (0 : Int), (0 : Int), (0 : Int), (0 : Int), (0 : Int), (0 : Int), (0 : Int), (0 : Int), (0 : Int), (0 : Int)] : List Int)⟩ : S_api_Addr) : S_api_Addr))
set_option maxRecDepth 100000 in
theorem vinerylaw07_V4.walk (w : World) (M : List Nat) (hM : MS M w) (a0 : Int) (a1 : Int) (a2 : Int) (a3 : Int) (r : S_api_Addr) (H : vinerylaw07_V4.f a0 a1 a2 a3 = some r) :
    To Try.prog 34 [.int .u8 a0, .int .u8 a1, .int .u8 a2, .int .u8 a3] w fun v w' => v = .agg (cS_api_Addr r).toArray ∧ Chg [] w w' ∧ MS (M) w' := by
  unfold vinerylaw07_V4.f at H
  refine ent Try.func34 rfl [(0, .int .u8 a0), (1, .int .u8 a1), (2, .int .u8 a2), (3, .int .u8 a3)] rfl (by rfl) fun a ha => ?_
  have hC : Chg [] w w := Chg.refl _ _
  refine wp_seq_k fun K1 hK1 => ?_
  refine wp_region_lit ?_
  refine al (cs := (cS_api_Addr (⟨(0 : Int), (List.replicate 16 (0 : Int))⟩ : S_api_Addr))) (z := .agg (cS_api_Addr (⟨(0 : Int), (List.replicate 16 (0 : Int))⟩ : S_api_Addr)).toArray) ha (fun w => by kernel_rfl) rfl rfl rfl rfl fun a w2 g3 hN4 ha => ?_
  have o1 : Ok [] (M) w.heap.size := Ok.nil _ _
  have o2 : Ok ([g3] ++ (M)) (M) w.heap.size := (Ok.app (hN4.ok _) (fun _ h => .inl (h)))
  have nw : Ok ([g3]) (M) w.heap.size := (hN4.ok _)
  have p_i5_M : ∀ x ∈ [g3], x ∉ M := fun x hx hy => absurd (hM x (hy)) (Nat.not_lt.2 ((hN4.ge1) x hx))
  have e_i5 : ∀ x ∈ [g3], w.heap.size ≤ x := fun x hx => Nat.le_trans hC.size ((hN4.ge1) x hx)
  have hM : MS ([g3] ++ (M)) w2 := (MS.app hN4.ms (fun x h => hM.chg hN4.chg x (h)))
  have hC := hC.trans hN4.chg (Ok.nil _ _)
  have hBg3 : Box w2 g3 (cS_api_Addr (⟨(0 : Int), (List.replicate 16 (0 : Int))⟩ : S_api_Addr)) := hN4.box
  refine hK1 _ _ ?_; clear hK1 K1
  refine wp_seq_k fun K6 hK6 => ?_
  refine wp_region_lit ?_
  refine seg ha 4 [(8, .pointer (some ⟨g3, 0, none⟩)), (9, .int .u8 a0), (10, .int .u8 a1), (11, .int .u8 a2), (12, .int .u8 a3)] (by kernel_rfl) fun a ha => ?_
  refine opk (v := .agg (cA .u8 16 ([a0, a1, a2, a3, (0 : Int), (0 : Int), (0 : Int), (0 : Int), (0 : Int), (0 : Int), (0 : Int), (0 : Int), (0 : Int), (0 : Int), (0 : Int), (0 : Int)] : List Int)).toArray) ha rfl rfl rfl rfl rfl (fun w => by kernel_rfl) fun a ha => ?_
  refine opk (v := .agg (cS_api_Addr (⟨(4 : Int), ([a0, a1, a2, a3, (0 : Int), (0 : Int), (0 : Int), (0 : Int), (0 : Int), (0 : Int), (0 : Int), (0 : Int), (0 : Int), (0 : Int), (0 : Int), (0 : Int)] : List Int)⟩ : S_api_Addr)).toArray) ha rfl rfl rfl rfl rfl (fun w => by kernel_rfl) fun a ha => ?_
  refine stA (l := (cS_api_Addr (⟨(4 : Int), ([a0, a1, a2, a3, (0 : Int), (0 : Int), (0 : Int), (0 : Int), (0 : Int), (0 : Int), (0 : Int), (0 : Int), (0 : Int), (0 : Int), (0 : Int), (0 : Int)] : List Int)⟩ : S_api_Addr))) ha rfl rfl rfl (by kernel_rfl) rfl rfl hBg3 rfl fun a w7 ha hb2 hc8 _ => ?_
  have o1 : Ok [g3] ([g3] ++ (M)) w2.heap.size := (fun _ h => .inl (ml h))
  have o2 : Ok ([g3] ++ (M)) ([g3] ++ (M)) w2.heap.size := (Ok.app (fun _ h => .inl (ml h)) (fun _ h => .inl (mr (h))))
  have hM : MS ([g3] ++ (M)) w7 := (MS.app (fun x h => hM.chg hc8 x (ml h)) (fun x h => hM.chg hc8 x (mr (h))))
  have hC := hC.trans hc8 (fun x h => .inr (e_i5 x h))
  have hBg3 : Box w7 g3 (cS_api_Addr (⟨(4 : Int), ([a0, a1, a2, a3, (0 : Int), (0 : Int), (0 : Int), (0 : Int), (0 : Int), (0 : Int), (0 : Int), (0 : Int), (0 : Int), (0 : Int), (0 : Int), (0 : Int)] : List Int)⟩ : S_api_Addr)) := hb2
  refine hK6 _ _ ?_; clear hK6 K6
  refine wp_ret ?_
  try simp only [Exit.then, Exit.inBlock]
  have o1 : Ok [] ([g3] ++ (M)) w7.heap.size := Ok.nil _ _
  have o2 : Ok (M) ([g3] ++ (M)) w7.heap.size := (fun _ h => .inl (mr (h)))
  have hBg3 := hBg3.chg (Chg.refl [] _) (fun h => nomatch h)
  have hM : MS (M) w7 := (fun x h => hM.chg (Chg.refl [] _) x (mr (h)))
  have hC := hC.trans (Chg.refl [] _) (Ok.nil _ _)
  obtain rfl := Option.some.inj H
  refine rtr ha (res1 rfl (roA ha rfl hBg3 (by kernel_rfl))) ?_
  exact ⟨rfl, hC, hM⟩
def vinerylaw15_Intra.f (a0 : Int) (a1 : Int) : Option (S_api_Route) := (vinerylaw07_V4.f (10 : Int) (0 : Int) (0 : Int) a0).bind fun t7 => (vinerylaw07_V4.f (10 : Int) (0 : Int) (0 : Int) a1).bind fun t8 => some (((⟨(4 : Int), (5 : Int), (⟨(1 : Int), ([(0 : Int), (0 : Int), (0 : Int), (1 : Int), (0 : Int), (0 : Int), (0 : Int), (1 : Int)] : List Int), (0 : Int), (⟨(0 : Int), (List.replicate 16 (0 : Int))⟩ : S_api_Addr), (⟨(0 : Int), (List.replicate 16 (0 : Int))⟩ : S_api_Addr), t7, ([] : List UInt8)⟩ : S_api_Mroute), (⟨(List.replicate 8 (0 : Int)), (⟨(⟨(0 : Int), (List.replicate 16 (0 : Int))⟩ : S_api_Addr), (0 : Int)⟩ : S_api_Prefix), (0 : Int)⟩ : S_api_Uroute), t8, (⟨(0 : Int), ([] : List S_api_Segment), (-1 : Int), (100 : Int), (⟨(0 : Int), (List.replicate 16 (0 : Int))⟩ : S_api_Addr), ([] : List S_api_Addr), ([] : List (List Int)), ([] : List S_api_Tunnel)⟩ : S_api_Attrs)⟩ : S_api_Route) : S_api_Route))
set_option maxRecDepth 100000 in
theorem vinerylaw15_Intra.walk (w : World) (M : List Nat) (hM : MS M w) (a0 : Int) (a1 : Int) (r : S_api_Route) (H : vinerylaw15_Intra.f a0 a1 = some r) :
    To Try.prog 18 [.int .u8 a0, .int .u8 a1] w fun v w' => ∃ (ao11 : Option Addr) (cap11 : Nat) (ao12 : Option Addr) (cap12 : Nat) (ao13 : Option Addr) (cap13 : Nat) (ao14 : Option Addr) (cap14 : Nat), v = .agg (cS_api_Route r ao11 cap11 ao12 cap12 ao13 cap13 ao14 cap14).toArray ∧ (RSl rS_api_Segment 58 w' (M) ao11 cap11 r.Attrs.Path) ∧ (RSl rS_api_Addr 26 w' (M) ao12 cap12 r.Attrs.Clusters) ∧ (RSl (rArr .u8 8) 81 w' (M) ao13 cap13 r.Attrs.Exts) ∧ (RSl rS_api_Tunnel 70 w' (M) ao14 cap14 r.Attrs.Tunnels) ∧ Chg [] w w' ∧ MS (M) w' := by
  unfold vinerylaw15_Intra.f at H
  refine ent Try.func18 rfl [(0, .int .u8 a0), (1, .int .u8 a1)] rfl (by rfl) fun a ha => ?_
  have hC : Chg [] w w := Chg.refl _ _
  refine wp_seq_k fun K1 hK1 => ?_
  refine wp_region_lit ?_
  refine al (cs := (cS_api_Route (⟨(0 : Int), (0 : Int), (⟨(0 : Int), (List.replicate 8 (0 : Int)), (0 : Int), (⟨(0 : Int), (List.replicate 16 (0 : Int))⟩ : S_api_Addr), (⟨(0 : Int), (List.replicate 16 (0 : Int))⟩ : S_api_Addr), (⟨(0 : Int), (List.replicate 16 (0 : Int))⟩ : S_api_Addr), ([] : List UInt8)⟩ : S_api_Mroute), (⟨(List.replicate 8 (0 : Int)), (⟨(⟨(0 : Int), (List.replicate 16 (0 : Int))⟩ : S_api_Addr), (0 : Int)⟩ : S_api_Prefix), (0 : Int)⟩ : S_api_Uroute), (⟨(0 : Int), (List.replicate 16 (0 : Int))⟩ : S_api_Addr), (⟨(0 : Int), ([] : List S_api_Segment), (0 : Int), (0 : Int), (⟨(0 : Int), (List.replicate 16 (0 : Int))⟩ : S_api_Addr), ([] : List S_api_Addr), ([] : List (List Int)), ([] : List S_api_Tunnel)⟩ : S_api_Attrs)⟩ : S_api_Route) none 0 none 0 none 0 none 0)) (z := .agg (cS_api_Route (⟨(0 : Int), (0 : Int), (⟨(0 : Int), (List.replicate 8 (0 : Int)), (0 : Int), (⟨(0 : Int), (List.replicate 16 (0 : Int))⟩ : S_api_Addr), (⟨(0 : Int), (List.replicate 16 (0 : Int))⟩ : S_api_Addr), (⟨(0 : Int), (List.replicate 16 (0 : Int))⟩ : S_api_Addr), ([] : List UInt8)⟩ : S_api_Mroute), (⟨(List.replicate 8 (0 : Int)), (⟨(⟨(0 : Int), (List.replicate 16 (0 : Int))⟩ : S_api_Addr), (0 : Int)⟩ : S_api_Prefix), (0 : Int)⟩ : S_api_Uroute), (⟨(0 : Int), (List.replicate 16 (0 : Int))⟩ : S_api_Addr), (⟨(0 : Int), ([] : List S_api_Segment), (0 : Int), (0 : Int), (⟨(0 : Int), (List.replicate 16 (0 : Int))⟩ : S_api_Addr), ([] : List S_api_Addr), ([] : List (List Int)), ([] : List S_api_Tunnel)⟩ : S_api_Attrs)⟩ : S_api_Route) none 0 none 0 none 0 none 0).toArray) ha (fun w => by kernel_rfl) rfl rfl rfl rfl fun a w2 g3 hN4 ha => ?_
  have o1 : Ok [] (M) w.heap.size := Ok.nil _ _
  have o2 : Ok ([g3] ++ (M)) (M) w.heap.size := (Ok.app (hN4.ok _) (fun _ h => .inl (h)))
  have nw : Ok ([g3]) (M) w.heap.size := (hN4.ok _)
  have p_i5_M : ∀ x ∈ [g3], x ∉ M := fun x hx hy => absurd (hM x (hy)) (Nat.not_lt.2 ((hN4.ge1) x hx))
  have e_i5 : ∀ x ∈ [g3], w.heap.size ≤ x := fun x hx => Nat.le_trans hC.size ((hN4.ge1) x hx)
  have hM : MS ([g3] ++ (M)) w2 := (MS.app hN4.ms (fun x h => hM.chg hN4.chg x (h)))
  have hC := hC.trans hN4.chg (Ok.nil _ _)
  have hBg3 : Box w2 g3 (cS_api_Route (⟨(0 : Int), (0 : Int), (⟨(0 : Int), (List.replicate 8 (0 : Int)), (0 : Int), (⟨(0 : Int), (List.replicate 16 (0 : Int))⟩ : S_api_Addr), (⟨(0 : Int), (List.replicate 16 (0 : Int))⟩ : S_api_Addr), (⟨(0 : Int), (List.replicate 16 (0 : Int))⟩ : S_api_Addr), ([] : List UInt8)⟩ : S_api_Mroute), (⟨(List.replicate 8 (0 : Int)), (⟨(⟨(0 : Int), (List.replicate 16 (0 : Int))⟩ : S_api_Addr), (0 : Int)⟩ : S_api_Prefix), (0 : Int)⟩ : S_api_Uroute), (⟨(0 : Int), (List.replicate 16 (0 : Int))⟩ : S_api_Addr), (⟨(0 : Int), ([] : List S_api_Segment), (0 : Int), (0 : Int), (⟨(0 : Int), (List.replicate 16 (0 : Int))⟩ : S_api_Addr), ([] : List S_api_Addr), ([] : List (List Int)), ([] : List S_api_Tunnel)⟩ : S_api_Attrs)⟩ : S_api_Route) none 0 none 0 none 0 none 0) := hN4.box
  refine hK1 _ _ ?_; clear hK1 K1
  refine wp_seq_k fun K6 hK6 => ?_
  refine wp_region_lit ?_
  refine opk (v := .agg (cA .u8 8 ([(0 : Int), (0 : Int), (0 : Int), (1 : Int), (0 : Int), (0 : Int), (0 : Int), (1 : Int)] : List Int)).toArray) ha rfl rfl rfl rfl rfl (fun w => by kernel_rfl) fun a ha => ?_
  refine seg ha 1 [(1, .int .u8 a1), (4, .pointer (some ⟨g3, 0, none⟩)), (5, .agg (cA .u8 8 ([(0 : Int), (0 : Int), (0 : Int), (1 : Int), (0 : Int), (0 : Int), (0 : Int), (1 : Int)] : List Int)).toArray), (6, .int .u8 a0)] (by kernel_rfl) fun a ha => ?_
  obtain ⟨t7, H7, H⟩ := bind_some H
  refine cl ha (by rfl) (by kernel_rfl) (by rfl) (by rfl) (by rfl) (vinerylaw07_V4.walk w2 _ hM (10 : Int) (0 : Int) (0 : Int) a0 _ H7) ?_
  rintro _ w7 ⟨rfl, hc7, hMn⟩ a ha
  have o1 : Ok [] ([g3] ++ (M)) w2.heap.size := Ok.nil _ _
  have o2 : Ok ([g3] ++ (M)) ([g3] ++ (M)) w2.heap.size := (Ok.app (fun _ h => .inl (ml h)) (fun _ h => .inl (mr (h))))
  have hBg3 := hBg3.chg hc7 (fun h => nomatch h)
  have hM : MS ([g3] ++ (M)) w7 := (MS.app (fun x h => hM.chg hc7 x (ml h)) (fun x h => hM.chg hc7 x (mr (h))))
  have hC := hC.trans hc7 (Ok.nil _ _)
  refine opk (v := .agg (cS_api_Mroute (⟨(1 : Int), ([(0 : Int), (0 : Int), (0 : Int), (1 : Int), (0 : Int), (0 : Int), (0 : Int), (1 : Int)] : List Int), (0 : Int), (⟨(0 : Int), (List.replicate 16 (0 : Int))⟩ : S_api_Addr), (⟨(0 : Int), (List.replicate 16 (0 : Int))⟩ : S_api_Addr), t7, ([] : List UInt8)⟩ : S_api_Mroute)).toArray) ha rfl rfl rfl rfl rfl (fun w => by kernel_rfl) fun a ha => ?_
  refine seg ha 1 [(4, .pointer (some ⟨g3, 0, none⟩)), (8, .agg (cS_api_Mroute (⟨(1 : Int), ([(0 : Int), (0 : Int), (0 : Int), (1 : Int), (0 : Int), (0 : Int), (0 : Int), (1 : Int)] : List Int), (0 : Int), (⟨(0 : Int), (List.replicate 16 (0 : Int))⟩ : S_api_Addr), (⟨(0 : Int), (List.replicate 16 (0 : Int))⟩ : S_api_Addr), t7, ([] : List UInt8)⟩ : S_api_Mroute)).toArray), (9, .int .u8 a1)] (by kernel_rfl) fun a ha => ?_
  obtain ⟨t8, H8, H⟩ := bind_some H
  refine cl ha (by rfl) (by kernel_rfl) (by rfl) (by rfl) (by rfl) (vinerylaw07_V4.walk w7 _ hM (10 : Int) (0 : Int) (0 : Int) a1 _ H8) ?_
  rintro _ w8 ⟨rfl, hc8, hMn⟩ a ha
  have o1 : Ok [] ([g3] ++ (M)) w7.heap.size := Ok.nil _ _
  have o2 : Ok ([g3] ++ (M)) ([g3] ++ (M)) w7.heap.size := (Ok.app (fun _ h => .inl (ml h)) (fun _ h => .inl (mr (h))))
  have hBg3 := hBg3.chg hc8 (fun h => nomatch h)
  have hM : MS ([g3] ++ (M)) w8 := (MS.app (fun x h => hM.chg hc8 x (ml h)) (fun x h => hM.chg hc8 x (mr (h))))
  have hC := hC.trans hc8 (Ok.nil _ _)
  refine opk (v := .agg (cS_api_Attrs (⟨(0 : Int), ([] : List S_api_Segment), (-1 : Int), (100 : Int), (⟨(0 : Int), (List.replicate 16 (0 : Int))⟩ : S_api_Addr), ([] : List S_api_Addr), ([] : List (List Int)), ([] : List S_api_Tunnel)⟩ : S_api_Attrs) none 0 none 0 none 0 none 0).toArray) ha rfl rfl rfl rfl rfl (fun w => by kernel_rfl) fun a ha => ?_
  refine opk (v := .agg (cS_api_Route (⟨(4 : Int), (5 : Int), (⟨(1 : Int), ([(0 : Int), (0 : Int), (0 : Int), (1 : Int), (0 : Int), (0 : Int), (0 : Int), (1 : Int)] : List Int), (0 : Int), (⟨(0 : Int), (List.replicate 16 (0 : Int))⟩ : S_api_Addr), (⟨(0 : Int), (List.replicate 16 (0 : Int))⟩ : S_api_Addr), t7, ([] : List UInt8)⟩ : S_api_Mroute), (⟨(List.replicate 8 (0 : Int)), (⟨(⟨(0 : Int), (List.replicate 16 (0 : Int))⟩ : S_api_Addr), (0 : Int)⟩ : S_api_Prefix), (0 : Int)⟩ : S_api_Uroute), t8, (⟨(0 : Int), ([] : List S_api_Segment), (-1 : Int), (100 : Int), (⟨(0 : Int), (List.replicate 16 (0 : Int))⟩ : S_api_Addr), ([] : List S_api_Addr), ([] : List (List Int)), ([] : List S_api_Tunnel)⟩ : S_api_Attrs)⟩ : S_api_Route) none 0 none 0 none 0 none 0).toArray) ha rfl rfl rfl rfl rfl (fun w => by kernel_rfl) fun a ha => ?_
  refine stA (l := (cS_api_Route (⟨(4 : Int), (5 : Int), (⟨(1 : Int), ([(0 : Int), (0 : Int), (0 : Int), (1 : Int), (0 : Int), (0 : Int), (0 : Int), (1 : Int)] : List Int), (0 : Int), (⟨(0 : Int), (List.replicate 16 (0 : Int))⟩ : S_api_Addr), (⟨(0 : Int), (List.replicate 16 (0 : Int))⟩ : S_api_Addr), t7, ([] : List UInt8)⟩ : S_api_Mroute), (⟨(List.replicate 8 (0 : Int)), (⟨(⟨(0 : Int), (List.replicate 16 (0 : Int))⟩ : S_api_Addr), (0 : Int)⟩ : S_api_Prefix), (0 : Int)⟩ : S_api_Uroute), t8, (⟨(0 : Int), ([] : List S_api_Segment), (-1 : Int), (100 : Int), (⟨(0 : Int), (List.replicate 16 (0 : Int))⟩ : S_api_Addr), ([] : List S_api_Addr), ([] : List (List Int)), ([] : List S_api_Tunnel)⟩ : S_api_Attrs)⟩ : S_api_Route) none 0 none 0 none 0 none 0)) ha rfl rfl rfl (by kernel_rfl) rfl rfl hBg3 rfl fun a w9 ha hb2 hc10 _ => ?_
  have o1 : Ok [g3] ([g3] ++ (M)) w8.heap.size := (fun _ h => .inl (ml h))
  have o2 : Ok ([g3] ++ (M)) ([g3] ++ (M)) w8.heap.size := (Ok.app (fun _ h => .inl (ml h)) (fun _ h => .inl (mr (h))))
  have hM : MS ([g3] ++ (M)) w9 := (MS.app (fun x h => hM.chg hc10 x (ml h)) (fun x h => hM.chg hc10 x (mr (h))))
  have hC := hC.trans hc10 (fun x h => .inr (e_i5 x h))
  have hBg3 : Box w9 g3 (cS_api_Route (⟨(4 : Int), (5 : Int), (⟨(1 : Int), ([(0 : Int), (0 : Int), (0 : Int), (1 : Int), (0 : Int), (0 : Int), (0 : Int), (1 : Int)] : List Int), (0 : Int), (⟨(0 : Int), (List.replicate 16 (0 : Int))⟩ : S_api_Addr), (⟨(0 : Int), (List.replicate 16 (0 : Int))⟩ : S_api_Addr), t7, ([] : List UInt8)⟩ : S_api_Mroute), (⟨(List.replicate 8 (0 : Int)), (⟨(⟨(0 : Int), (List.replicate 16 (0 : Int))⟩ : S_api_Addr), (0 : Int)⟩ : S_api_Prefix), (0 : Int)⟩ : S_api_Uroute), t8, (⟨(0 : Int), ([] : List S_api_Segment), (-1 : Int), (100 : Int), (⟨(0 : Int), (List.replicate 16 (0 : Int))⟩ : S_api_Addr), ([] : List S_api_Addr), ([] : List (List Int)), ([] : List S_api_Tunnel)⟩ : S_api_Attrs)⟩ : S_api_Route) none 0 none 0 none 0 none 0) := hb2
  refine hK6 _ _ ?_; clear hK6 K6
  refine wp_ret ?_
  try simp only [Exit.then, Exit.inBlock]
  have o1 : Ok [] ([g3] ++ (M)) w9.heap.size := Ok.nil _ _
  have o2 : Ok (M) ([g3] ++ (M)) w9.heap.size := (fun _ h => .inl (mr (h)))
  have hBg3 := hBg3.chg (Chg.refl [] _) (fun h => nomatch h)
  have hM : MS (M) w9 := (fun x h => hM.chg (Chg.refl [] _) x (mr (h)))
  have hC := hC.trans (Chg.refl [] _) (Ok.nil _ _)
  obtain rfl := Option.some.inj H
  refine rtr ha (res1 rfl (roA ha rfl hBg3 (by kernel_rfl))) ?_
  exact ⟨none, 0, none, 0, none, 0, none, 0, rfl, (RSl.nil (Nat.zero_le _)), (RSl.nil (Nat.zero_le _)), (RSl.nil (Nat.zero_le _)), (RSl.nil (Nat.zero_le _)), hC, hM⟩
def decide_or.f (a0 : Int) (a1 : Int) : Option (Int) := (if (a0 == (-1 : Int)) = true then some ((a1 : Int)) else some ((a0 : Int)))
set_option maxRecDepth 100000 in
theorem decide_or.walk (w : World) (M : List Nat) (hM : MS M w) (a0 : Int) (a1 : Int) (r : Int) (H : decide_or.f a0 a1 = some r) :
    To Try.prog 22 [.int .i64 a0, .int .i64 a1] w fun v w' => v = .int .i64 r ∧ Chg [] w w' ∧ MS (M) w' := by
  unfold decide_or.f at H
  refine ent Try.func22 rfl [(0, .int .i64 a0), (1, .int .i64 a1)] rfl (by rfl) fun a ha => ?_
  have hC : Chg [] w w := Chg.refl _ _
  refine wp_seq_k fun K1 hK1 => ?_
  refine wp_region_lit ?_
  refine seg ha 1 [(0, .int .i64 a0), (1, .int .i64 a1)] (by kernel_rfl) fun a ha => ?_
  refine hK1 _ _ ?_; clear hK1 K1
  refine wp_seq_k fun K2 hK2 => ?_
  refine wp_seq_k fun K3 hK3 => ?_
  refine wp_region_lit ?_
  refine seg ha 2 [(0, .int .i64 a0), (1, .int .i64 a1), (6, .bool (a0 == (-1 : Int)))] (by kernel_rfl) fun a ha => ?_
  refine hK3 _ _ ?_; clear hK3 K3
  refine cnd ha rfl (fun hc4 => ?_) (fun hc4 => ?_)
  · have H := ite_t hc4 H
    refine wp_seq_k fun K5 hK5 => ?_
    refine wp_region_lit ?_
    refine seg ha 2 [(4, .int .i64 a1)] (by kernel_rfl) fun a ha => ?_
    refine hK5 _ _ ?_; clear hK5 K5
    refine wp_ret ?_
    try simp only [Exit.then, Exit.inBlock]
    obtain rfl := Option.some.inj H
    refine rt1 ha rfl rfl ?_
    exact ⟨rfl, hC, hM⟩
  · have H := ite_f hc4 H
    refine wp_skip ?_
    refine hK2 _ _ ?_; clear hK2 K2
    refine wp_seq_k fun K6 hK6 => ?_
    refine wp_region_lit ?_
    refine seg ha 2 [(4, .int .i64 a0)] (by kernel_rfl) fun a ha => ?_
    refine hK6 _ _ ?_; clear hK6 K6
    refine wp_ret ?_
    try simp only [Exit.then, Exit.inBlock]
    obtain rfl := Option.some.inj H
    refine rt1 ha rfl rfl ?_
    exact ⟨rfl, hC, hM⟩
def cmp_isNaN_int.f (a0 : Int) : Option (Bool) := some ((a0 != a0 : Bool))
set_option maxRecDepth 100000 in
theorem cmp_isNaN_int.walk (w : World) (M : List Nat) (hM : MS M w) (a0 : Int) (r : Bool) (H : cmp_isNaN_int.f a0 = some r) :
    To Try.prog 35 [.int .i64 a0] w fun v w' => v = .bool r ∧ Chg [] w w' ∧ MS (M) w' := by
  unfold cmp_isNaN_int.f at H
  refine ent Try.func35 rfl [(0, .int .i64 a0)] rfl (by rfl) fun a ha => ?_
  have hC : Chg [] w w := Chg.refl _ _
  refine wp_seq_k fun K1 hK1 => ?_
  refine wp_region_lit ?_
  refine seg ha 1 [(0, .int .i64 a0)] (by kernel_rfl) fun a ha => ?_
  refine hK1 _ _ ?_; clear hK1 K1
  refine wp_seq_k fun K2 hK2 => ?_
  refine wp_region_lit ?_
  refine seg ha 4 [(2, .bool (a0 != a0))] (by kernel_rfl) fun a ha => ?_
  refine hK2 _ _ ?_; clear hK2 K2
  refine wp_ret ?_
  try simp only [Exit.then, Exit.inBlock]
  obtain rfl := Option.some.inj H
  refine rt1 ha rfl rfl ?_
  exact ⟨rfl, hC, hM⟩
def cmp_Compare_int.f (a0 : Int) (a1 : Int) : Option (Int) := (cmp_isNaN_int.f a0).bind fun t3 => (cmp_isNaN_int.f a1).bind fun t5 => (if t3 = true then (if t5 = true then some (((0 : Int) : Int)) else some (((-1 : Int) : Int))) else (if t5 = true then some (((1 : Int) : Int)) else (if (decide (a0 < a1)) = true then some (((-1 : Int) : Int)) else (if (decide (a0 > a1)) = true then some (((1 : Int) : Int)) else some (((0 : Int) : Int))))))
set_option maxRecDepth 100000 in
theorem cmp_Compare_int.walk (w : World) (M : List Nat) (hM : MS M w) (a0 : Int) (a1 : Int) (r : Int) (H : cmp_Compare_int.f a0 a1 = some r) :
    To Try.prog 21 [.int .i64 a0, .int .i64 a1] w fun v w' => v = .int .i64 r ∧ Chg [] w w' ∧ MS (M) w' := by
  unfold cmp_Compare_int.f at H
  refine ent Try.func21 rfl [(0, .int .i64 a0), (1, .int .i64 a1)] rfl (by rfl) fun a ha => ?_
  have hC : Chg [] w w := Chg.refl _ _
  refine wp_seq_k fun K1 hK1 => ?_
  refine wp_region_lit ?_
  refine seg ha 1 [(0, .int .i64 a0), (1, .int .i64 a1)] (by kernel_rfl) fun a ha => ?_
  refine hK1 _ _ ?_; clear hK1 K1
  refine wp_seq_k fun K2 hK2 => ?_
  refine wp_region_lit ?_
  refine seg ha 1 [(0, .int .i64 a0), (1, .int .i64 a1), (7, .int .i64 a0)] (by kernel_rfl) fun a ha => ?_
  obtain ⟨t3, H3, H⟩ := bind_some H
  refine cl ha (by rfl) (by kernel_rfl) (by rfl) (by rfl) (by rfl) (cmp_isNaN_int.walk w _ hM a0 _ H3) ?_
  rintro _ w3 ⟨rfl, hc3, hMn⟩ a ha
  have o1 : Ok [] (M) w.heap.size := Ok.nil _ _
  have o2 : Ok (M) (M) w.heap.size := (fun _ h => .inl (h))
  have hM : MS (M) w3 := (fun x h => hM.chg hc3 x (h))
  have hC := hC.trans hc3 (Ok.nil _ _)
  refine seg ha 1 [(0, .int .i64 a0), (1, .int .i64 a1), (5, .bool t3)] (by kernel_rfl) fun a ha => ?_
  refine hK2 _ _ ?_; clear hK2 K2
  refine wp_seq_k fun K4 hK4 => ?_
  refine wp_region_lit ?_
  refine seg ha 1 [(0, .int .i64 a0), (1, .int .i64 a1), (5, .bool t3), (9, .int .i64 a1)] (by kernel_rfl) fun a ha => ?_
  obtain ⟨t5, H5, H⟩ := bind_some H
  refine cl ha (by rfl) (by kernel_rfl) (by rfl) (by rfl) (by rfl) (cmp_isNaN_int.walk w3 _ hM a1 _ H5) ?_
  rintro _ w5 ⟨rfl, hc5, hMn⟩ a ha
  have o1 : Ok [] (M) w3.heap.size := Ok.nil _ _
  have o2 : Ok (M) (M) w3.heap.size := (fun _ h => .inl (h))
  have hM : MS (M) w5 := (fun x h => hM.chg hc5 x (h))
  have hC := hC.trans hc5 (Ok.nil _ _)
  refine seg ha 1 [(0, .int .i64 a0), (1, .int .i64 a1), (5, .bool t3), (6, .bool t5)] (by kernel_rfl) fun a ha => ?_
  refine hK4 _ _ ?_; clear hK4 K4
  refine wp_seq_k fun K6 hK6 => ?_
  refine wp_seq_k fun K7 hK7 => ?_
  refine wp_region_lit ?_
  refine seg ha 1 [(0, .int .i64 a0), (1, .int .i64 a1), (6, .bool t5), (11, .bool t3)] (by kernel_rfl) fun a ha => ?_
  refine hK7 _ _ ?_; clear hK7 K7
  refine cnd ha rfl (fun hc8 => ?_) (fun hc8 => ?_)
  · have H := ite_t hc8 H
    refine wp_seq_k fun K9 hK9 => ?_
    refine wp_seq_k fun K10 hK10 => ?_
    refine wp_region_lit ?_
    refine seg ha 1 [(12, .bool t5)] (by kernel_rfl) fun a ha => ?_
    refine hK10 _ _ ?_; clear hK10 K10
    refine cnd ha rfl (fun hc11 => ?_) (fun hc11 => ?_)
    · have H := ite_t hc11 H
      refine wp_seq_k fun K12 hK12 => ?_
      refine wp_region_lit ?_
      refine seg ha 1 [(4, .int .i64 (0 : Int))] (by kernel_rfl) fun a ha => ?_
      refine hK12 _ _ ?_; clear hK12 K12
      refine wp_ret ?_
      try simp only [Exit.then, Exit.inBlock]
      obtain rfl := Option.some.inj H
      refine rt1 ha rfl rfl ?_
      exact ⟨rfl, hC, hM⟩
    · have H := ite_f hc11 H
      refine wp_skip ?_
      refine hK9 _ _ ?_; clear hK9 K9
      refine wp_seq_k fun K13 hK13 => ?_
      refine wp_region_lit ?_
      refine seg ha 1 [(4, .int .i64 (-1 : Int))] (by kernel_rfl) fun a ha => ?_
      refine hK13 _ _ ?_; clear hK13 K13
      refine wp_ret ?_
      try simp only [Exit.then, Exit.inBlock]
      obtain rfl := Option.some.inj H
      refine rt1 ha rfl rfl ?_
      exact ⟨rfl, hC, hM⟩
  · have H := ite_f hc8 H
    refine wp_skip ?_
    refine hK6 _ _ ?_; clear hK6 K6
    refine wp_seq_k fun K14 hK14 => ?_
    refine wp_seq_k fun K15 hK15 => ?_
    refine wp_region_lit ?_
    refine seg ha 1 [(0, .int .i64 a0), (1, .int .i64 a1), (13, .bool t5)] (by kernel_rfl) fun a ha => ?_
    refine hK15 _ _ ?_; clear hK15 K15
    refine cnd ha rfl (fun hc16 => ?_) (fun hc16 => ?_)
    · have H := ite_t hc16 H
      refine wp_seq_k fun K17 hK17 => ?_
      refine wp_region_lit ?_
      refine seg ha 1 [(4, .int .i64 (1 : Int))] (by kernel_rfl) fun a ha => ?_
      refine hK17 _ _ ?_; clear hK17 K17
      refine wp_ret ?_
      try simp only [Exit.then, Exit.inBlock]
      obtain rfl := Option.some.inj H
      refine rt1 ha rfl rfl ?_
      exact ⟨rfl, hC, hM⟩
    · have H := ite_f hc16 H
      refine wp_skip ?_
      refine hK14 _ _ ?_; clear hK14 K14
      refine wp_seq_k fun K18 hK18 => ?_
      refine wp_seq_k fun K19 hK19 => ?_
      refine wp_region_lit ?_
      refine seg ha 3 [(0, .int .i64 a0), (1, .int .i64 a1), (16, .bool (decide (a0 < a1)))] (by kernel_rfl) fun a ha => ?_
      refine hK19 _ _ ?_; clear hK19 K19
      refine cnd ha rfl (fun hc20 => ?_) (fun hc20 => ?_)
      · have H := ite_t hc20 H
        refine wp_seq_k fun K21 hK21 => ?_
        refine wp_region_lit ?_
        refine seg ha 1 [(4, .int .i64 (-1 : Int))] (by kernel_rfl) fun a ha => ?_
        refine hK21 _ _ ?_; clear hK21 K21
        refine wp_ret ?_
        try simp only [Exit.then, Exit.inBlock]
        obtain rfl := Option.some.inj H
        refine rt1 ha rfl rfl ?_
        exact ⟨rfl, hC, hM⟩
      · have H := ite_f hc20 H
        refine wp_skip ?_
        refine hK18 _ _ ?_; clear hK18 K18
        refine wp_seq_k fun K22 hK22 => ?_
        refine wp_seq_k fun K23 hK23 => ?_
        refine wp_region_lit ?_
        refine seg ha 3 [(19, .bool (decide (a0 > a1)))] (by kernel_rfl) fun a ha => ?_
        refine hK23 _ _ ?_; clear hK23 K23
        refine cnd ha rfl (fun hc24 => ?_) (fun hc24 => ?_)
        · have H := ite_t hc24 H
          refine wp_seq_k fun K25 hK25 => ?_
          refine wp_region_lit ?_
          refine seg ha 1 [(4, .int .i64 (1 : Int))] (by kernel_rfl) fun a ha => ?_
          refine hK25 _ _ ?_; clear hK25 K25
          refine wp_ret ?_
          try simp only [Exit.then, Exit.inBlock]
          obtain rfl := Option.some.inj H
          refine rt1 ha rfl rfl ?_
          exact ⟨rfl, hC, hM⟩
        · have H := ite_f hc24 H
          refine wp_skip ?_
          refine hK22 _ _ ?_; clear hK22 K22
          refine wp_seq_k fun K26 hK26 => ?_
          refine wp_region_lit ?_
          refine seg ha 1 [(4, .int .i64 (0 : Int))] (by kernel_rfl) fun a ha => ?_
          refine hK26 _ _ ?_; clear hK26 K26
          refine wp_ret ?_
          try simp only [Exit.then, Exit.inBlock]
          obtain rfl := Option.some.inj H
          refine rt1 ha rfl rfl ?_
          exact ⟨rfl, hC, hM⟩
def decide_Length.l0 (a0 : List S_api_Segment) : Nat → Int → Int → Option (Int)
  | 0, _, _ => none
  | kk + 1, x7, x8 => (if (decide (x8 < (a0.length : Int))) = true then (if 0 ≤ x8 ∧ x8 < (a0.length : Int) then (if ((rd a0 x8).Set) = true then decide_Length.l0 a0 kk (IntKind.i64.wrap (x7 + (1 : Int))) (IntKind.i64.wrap (x8 + (1 : Int))) else decide_Length.l0 a0 kk (IntKind.i64.wrap (x7 + (((rd a0 x8).AS).length : Int))) (IntKind.i64.wrap (x8 + (1 : Int)))) else none) else some (x7 : Int))
def decide_Length.f (k : Nat) (a0 : List S_api_Segment) : Option (Int) := (decide_Length.l0 a0 k (0 : Int) (0 : Int)).bind fun s6 => some ((s6 : Int))
set_option maxRecDepth 100000 in
theorem decide_Length.walk (w : World) (M : List Nat) (hM : MS M w) (a0 : List S_api_Segment) (ao1 : Option Addr) (cap1 : Nat) (f1 : RSl rS_api_Segment 58 w M ao1 cap1 a0) (k : Nat) (r : Int) (H : decide_Length.f k a0 = some r) :
    To Try.prog 12 [.slice ao1 a0.length cap1] w fun v w' => v = .int .i64 r ∧ Chg [] w w' ∧ MS (M) w' := by
  unfold decide_Length.f at H
  refine ent Try.func12 rfl [(0, .slice ao1 a0.length cap1)] rfl (by rfl) fun a ha => ?_
  have hC : Chg [] w w := Chg.refl _ _
  refine wp_seq_k fun K2 hK2 => ?_
  refine wp_region_lit ?_
  refine seg ha 1 [(0, .slice ao1 a0.length cap1)] (by kernel_rfl) fun a ha => ?_
  refine hK2 _ _ ?_; clear hK2 K2
  refine wp_seq_k fun K3 hK3 => ?_
  refine wp_region_lit ?_
  refine seg ha 1 [(0, .slice ao1 a0.length cap1), (3, .int .i64 (0 : Int))] (by kernel_rfl) fun a ha => ?_
  refine hK3 _ _ ?_; clear hK3 K3
  refine wp_seq_k fun K4 hK4 => ?_
  refine wp_seq_k fun K5 hK5 => ?_
  refine wp_region_lit ?_
  refine seg ha 3 [(3, .int .i64 (0 : Int)), (6, .slice ao1 a0.length cap1), (7, .int .i64 (a0.length : Int)), (8, .int .i64 (0 : Int))] (by kernel_rfl) fun a ha => ?_
  refine hK5 _ _ ?_; clear hK5 K5
  refine wp_block ?_
  obtain ⟨s6, H6, H⟩ := bind_some H
  have J6 : ∀ (a : Act) (wx6 : World), Has a Try.f12.ntmps [(3, .int .i64 s6)] → (Chg [] w wx6) → (MS (M) wx6) → K4 a wx6 := by
    intro a wx6 ha hC hM
    refine hK4 _ _ ?_; clear hK4 K4
    refine wp_seq_k fun K9 hK9 => ?_
    refine wp_region_lit ?_
    refine seg ha 2 [(2, .int .i64 s6)] (by kernel_rfl) fun a ha => ?_
    refine hK9 _ _ ?_; clear hK9 K9
    refine wp_ret ?_
    try simp only [Exit.then, Exit.inBlock]
    obtain rfl := Option.some.inj H
    refine rt1 ha rfl rfl ?_
    exact ⟨rfl, hC, hM⟩
  have Hc6 := H
  have H := H6
  refine wp_loop_ghost (fun kk a w6 => ∃ (x7 : Int) (x8 : Int), decide_Length.l0 a0 kk x7 x8 = some s6 ∧ Has a Try.f12.ntmps [(3, .int .i64 x7), (6, .slice ao1 a0.length cap1), (7, .int .i64 (a0.length : Int)), (8, .int .i64 x8)] ∧ (RSl rS_api_Segment 58 w6 (M) ao1 cap1 a0) ∧ (Chg [] w w6) ∧ (MS (M) w6)) k ?_ ?_
  · skip
    exact ⟨(0 : Int), (0 : Int), H, (ha.sel (by kernel_rfl)), f1, hC, hM⟩
  · rintro kk a w6 ⟨x7, x8, H, ha, f1, hC, hM⟩
    obtain _ | kk := kk
    · exact nomatch (show none = some _ from H)
    rw [decide_Length.l0] at H
    refine wp_seq_k fun K10 hK10 => ?_
    refine wp_region_lit ?_
    refine seg ha 1 [(3, .int .i64 x7), (6, .slice ao1 a0.length cap1), (7, .int .i64 (a0.length : Int)), (8, .int .i64 x8), (9, .bool (decide (x8 < (a0.length : Int))))] (by kernel_rfl) fun a ha => ?_
    refine hK10 _ _ ?_; clear hK10 K10
    refine wp_seq_k fun K11 hK11 => ?_
    refine cnd ha rfl (fun hc12 => ?_) (fun hc12 => ?_)
    · have H := ite_t hc12 H
      refine wp_skip ?_
      refine hK11 _ _ ?_; clear hK11 K11
      refine wp_seq_k fun K13 hK13 => ?_
      refine wp_block ?_
      refine wp_seq_k fun K14 hK14 => ?_
      refine wp_region_lit ?_
      obtain ⟨⟨hx15, hx15'⟩, H⟩ := ite_some H
      refine ix (r := rS_api_Segment) ha (by kernel_rfl) (by kernel_rfl) rfl rfl rfl rfl rfl f1 hx15 hx15' fun a ge16 oe17 cs18 hn21 hR19 hE20 ha => ?_
      rw [rd_get] at hR19
      obtain ⟨ao22, cap22, rfl, f22⟩ := rS_api_Segment.open hR19
      refine ldA (cs := (cS_api_Segment (rd a0 x8) ao22 cap22)) ha rfl (by kernel_rfl) rfl rfl rfl (cells_sub hE20 (all := (cS_api_Segment (rd a0 x8) ao22 cap22)) [] [] (by kernel_rfl)) fun a ha => ?_
      refine al (cs := (cS_api_Segment (⟨false, ([] : List Int)⟩ : S_api_Segment) none 0)) (z := .agg (cS_api_Segment (⟨false, ([] : List Int)⟩ : S_api_Segment) none 0).toArray) ha (fun w => by kernel_rfl) rfl rfl rfl rfl fun a w23 g24 hN25 ha => ?_
      have o1 : Ok [] (M) w6.heap.size := Ok.nil _ _
      have o2 : Ok ([g24] ++ (M)) (M) w6.heap.size := (Ok.app (hN25.ok _) (fun _ h => .inl (h)))
      have f1 := f1.chg hN25.chg o1 o2
      have f22 := f22.chg hN25.chg o1 o2
      have nw : Ok ([g24]) (M) w6.heap.size := (hN25.ok _)
      have p_i26_M : ∀ x ∈ [g24], x ∉ M := fun x hx hy => absurd (hM x (hy)) (Nat.not_lt.2 ((hN25.ge1) x hx))
      have e_i26 : ∀ x ∈ [g24], w.heap.size ≤ x := fun x hx => Nat.le_trans hC.size ((hN25.ge1) x hx)
      have hM : MS ([g24] ++ (M)) w23 := (MS.app hN25.ms (fun x h => hM.chg hN25.chg x (h)))
      have hC := hC.trans hN25.chg (Ok.nil _ _)
      have hBg24 : Box w23 g24 (cS_api_Segment (⟨false, ([] : List Int)⟩ : S_api_Segment) none 0) := hN25.box
      refine stA (l := (cS_api_Segment (rd a0 x8) ao22 cap22)) ha rfl rfl rfl (by kernel_rfl) rfl rfl hBg24 rfl fun a w27 ha hb2 hc28 _ => ?_
      have o1 : Ok [g24] ([g24] ++ (M)) w23.heap.size := (fun _ h => .inl (ml h))
      have o2 : Ok ([g24] ++ (M)) ([g24] ++ (M)) w23.heap.size := (Ok.app (fun _ h => .inl (ml h)) (fun _ h => .inl (mr (h))))
      have f1 := f1.chg hc28 o1 o2
      have f22 := f22.chg hc28 o1 o2
      have hM : MS ([g24] ++ (M)) w27 := (MS.app (fun x h => hM.chg hc28 x (ml h)) (fun x h => hM.chg hc28 x (mr (h))))
      have hC := hC.trans hc28 (fun x h => .inr (e_i26 x h))
      have hBg24 : Box w27 g24 (cS_api_Segment (rd a0 x8) ao22 cap22) := hb2
      refine hK14 _ _ ?_; clear hK14 K14
      refine wp_block ?_
      refine wp_seq_k fun K29 hK29 => ?_
      refine wp_region_lit ?_
      refine seg ha 1 [(3, .int .i64 x7), (5, .pointer (some ⟨g24, 0, none⟩)), (6, .slice ao1 a0.length cap1), (7, .int .i64 (a0.length : Int)), (8, .int .i64 x8), (18, .pointer (some ⟨g24, 0, none⟩))] (by kernel_rfl) fun a ha => ?_
      refine ld (v := .bool ((rd a0 x8).Set)) ha rfl (by kernel_rfl) rfl rfl rfl (hBg24.cell' (o := 0) rfl (by kernel_rfl)) fun a ha => ?_
      refine seg ha 1 [(3, .int .i64 x7), (5, .pointer (some ⟨g24, 0, none⟩)), (6, .slice ao1 a0.length cap1), (7, .int .i64 (a0.length : Int)), (8, .int .i64 x8), (17, .bool ((rd a0 x8).Set))] (by kernel_rfl) fun a ha => ?_
      refine hK29 _ _ ?_; clear hK29 K29
      refine cnd ha rfl (fun hc30 => ?_) (fun hc30 => ?_)
      · have H := ite_t hc30 H
        refine wp_region_lit ?_
        refine seg ha 3 [(3, .int .i64 (IntKind.i64.wrap (x7 + (1 : Int)))), (6, .slice ao1 a0.length cap1), (7, .int .i64 (a0.length : Int)), (8, .int .i64 x8)] (by kernel_rfl) fun a ha => ?_
        refine hK13 _ _ ?_; clear hK13 K13
        refine wp_region_lit ?_
        refine seg ha 2 [(3, .int .i64 (IntKind.i64.wrap (x7 + (1 : Int)))), (6, .slice ao1 a0.length cap1), (7, .int .i64 (a0.length : Int)), (8, .int .i64 (IntKind.i64.wrap (x8 + (1 : Int))))] (by kernel_rfl) fun a ha => ?_
        have o1 : Ok [] ([g24] ++ (M)) w27.heap.size := Ok.nil _ _
        have o2 : Ok (M) ([g24] ++ (M)) w27.heap.size := (fun _ h => .inl (mr (h)))
        have f1 := f1.chg (Chg.refl [] _) o1 o2
        have f22 := f22.chg (Chg.refl [] _) o1 o2
        have hBg24 := hBg24.chg (Chg.refl [] _) (fun h => nomatch h)
        have hM : MS (M) w27 := (fun x h => hM.chg (Chg.refl [] _) x (mr (h)))
        have hC := hC.trans (Chg.refl [] _) (Ok.nil _ _)
        exact ⟨kk, Nat.lt_succ_self _, ⟨IntKind.i64.wrap (x7 + (1 : Int)), IntKind.i64.wrap (x8 + (1 : Int)), H, (ha.sel (by kernel_rfl)), f1, hC, hM⟩⟩
      · have H := ite_f hc30 H
        refine wp_region_lit ?_
        refine seg ha 2 [(6, .slice ao1 a0.length cap1), (7, .int .i64 (a0.length : Int)), (8, .int .i64 x8), (12, .int .i64 x7), (13, .pointer (some ⟨g24, 1, none⟩))] (by kernel_rfl) fun a ha => ?_
        refine ld (v := .slice ao22 ((rd a0 x8).AS).length cap22) ha rfl (by kernel_rfl) rfl rfl rfl (hBg24.cell' (o := 1) rfl (by kernel_rfl)) fun a ha => ?_
        refine seg ha 3 [(3, .int .i64 (IntKind.i64.wrap (x7 + (((rd a0 x8).AS).length : Int)))), (6, .slice ao1 a0.length cap1), (7, .int .i64 (a0.length : Int)), (8, .int .i64 x8)] (by kernel_rfl) fun a ha => ?_
        refine hK13 _ _ ?_; clear hK13 K13
        refine wp_region_lit ?_
        refine seg ha 2 [(3, .int .i64 (IntKind.i64.wrap (x7 + (((rd a0 x8).AS).length : Int)))), (6, .slice ao1 a0.length cap1), (7, .int .i64 (a0.length : Int)), (8, .int .i64 (IntKind.i64.wrap (x8 + (1 : Int))))] (by kernel_rfl) fun a ha => ?_
        have o1 : Ok [] ([g24] ++ (M)) w27.heap.size := Ok.nil _ _
        have o2 : Ok (M) ([g24] ++ (M)) w27.heap.size := (fun _ h => .inl (mr (h)))
        have f1 := f1.chg (Chg.refl [] _) o1 o2
        have f22 := f22.chg (Chg.refl [] _) o1 o2
        have hBg24 := hBg24.chg (Chg.refl [] _) (fun h => nomatch h)
        have hM : MS (M) w27 := (fun x h => hM.chg (Chg.refl [] _) x (mr (h)))
        have hC := hC.trans (Chg.refl [] _) (Ok.nil _ _)
        exact ⟨kk, Nat.lt_succ_self _, ⟨IntKind.i64.wrap (x7 + (((rd a0 x8).AS).length : Int)), IntKind.i64.wrap (x8 + (1 : Int)), H, (ha.sel (by kernel_rfl)), f1, hC, hM⟩⟩
    · have H := ite_f hc12 H
      refine wp_exit ?_
      simp only [Exit.then, Exit.inBlock, ↓reduceIte, Nat.reduceEqDiff]
      obtain rfl := Option.some.inj H
      exact J6 _ _ (ha.sel (by kernel_rfl)) hC hM
def cmp_Or_int.l0 (a0 : List Int) : Nat → Int → Option ((Int) ⊕ (Unit))
  | 0, _ => none
  | kk + 1, x7 => (if (decide (x7 < (a0.length : Int))) = true then (if 0 ≤ x7 ∧ x7 < (a0.length : Int) then (if ((rd a0 x7) != (0 : Int)) = true then some (.inl ((rd a0 x7 : Int))) else cmp_Or_int.l0 a0 kk (IntKind.i64.wrap (x7 + (1 : Int)))) else none) else some (.inr (() : Unit)))
def cmp_Or_int.f (k : Nat) (a0 : List Int) : Option (Int) := (cmp_Or_int.l0 a0 k (0 : Int)).bind fun s6 => match s6 with | .inl r => some r | .inr s6' => some (((0 : Int) : Int))
set_option maxRecDepth 100000 in
theorem cmp_Or_int.walk (w : World) (M : List Nat) (hM : MS M w) (a0 : List Int) (ao1 : Option Addr) (cap1 : Nat) (f1 : RSl (rInt .i64) 3 w M ao1 cap1 a0) (k : Nat) (r : Int) (H : cmp_Or_int.f k a0 = some r) :
    To Try.prog 20 [.slice ao1 a0.length cap1] w fun v w' => v = .int .i64 r ∧ Chg [] w w' ∧ MS (M) w' := by
  unfold cmp_Or_int.f at H
  refine ent Try.func20 rfl [(0, .slice ao1 a0.length cap1)] rfl (by rfl) fun a ha => ?_
  have hC : Chg [] w w := Chg.refl _ _
  refine wp_seq_k fun K2 hK2 => ?_
  refine wp_region_lit ?_
  refine seg ha 1 [(0, .slice ao1 a0.length cap1)] (by kernel_rfl) fun a ha => ?_
  refine hK2 _ _ ?_; clear hK2 K2
  refine wp_seq_k fun K3 hK3 => ?_
  refine wp_region_lit ?_
  refine seg ha 1 [(0, .slice ao1 a0.length cap1), (3, .int .i64 (0 : Int))] (by kernel_rfl) fun a ha => ?_
  refine hK3 _ _ ?_; clear hK3 K3
  refine wp_seq_k fun K4 hK4 => ?_
  refine wp_seq_k fun K5 hK5 => ?_
  refine wp_region_lit ?_
  refine seg ha 3 [(3, .int .i64 (0 : Int)), (6, .slice ao1 a0.length cap1), (7, .int .i64 (a0.length : Int)), (8, .int .i64 (0 : Int))] (by kernel_rfl) fun a ha => ?_
  refine hK5 _ _ ?_; clear hK5 K5
  refine wp_block ?_
  obtain ⟨s6, H6, H⟩ := bind_some H
  have J6 : ∀ s6' (a : Act) (wx6 : World), s6 = .inr s6' → Has a Try.f20.ntmps [(3, .int .i64 (0 : Int))] → (Chg [] w wx6) → (MS (M) wx6) → K4 a wx6 := by
    intro s6' a wx6 hs ha hC hM
    subst hs
    refine hK4 _ _ ?_; clear hK4 K4
    refine wp_seq_k fun K8 hK8 => ?_
    refine wp_region_lit ?_
    refine seg ha 2 [(2, .int .i64 (0 : Int))] (by kernel_rfl) fun a ha => ?_
    refine hK8 _ _ ?_; clear hK8 K8
    refine wp_ret ?_
    try simp only [Exit.then, Exit.inBlock]
    obtain rfl := Option.some.inj H
    refine rt1 ha rfl rfl ?_
    exact ⟨rfl, hC, hM⟩
  have Hc6 := H
  have H := H6
  refine wp_loop_ghost (fun kk a w6 => ∃ (x7 : Int), cmp_Or_int.l0 a0 kk x7 = some s6 ∧ Has a Try.f20.ntmps [(3, .int .i64 (0 : Int)), (6, .slice ao1 a0.length cap1), (7, .int .i64 (a0.length : Int)), (8, .int .i64 x7)] ∧ (RSl (rInt .i64) 3 w6 (M) ao1 cap1 a0) ∧ (Chg [] w w6) ∧ (MS (M) w6)) k ?_ ?_
  · skip
    exact ⟨(0 : Int), H, (ha.sel (by kernel_rfl)), f1, hC, hM⟩
  · rintro kk a w6 ⟨x7, H, ha, f1, hC, hM⟩
    obtain _ | kk := kk
    · exact nomatch (show none = some _ from H)
    rw [cmp_Or_int.l0] at H
    refine wp_seq_k fun K9 hK9 => ?_
    refine wp_region_lit ?_
    refine seg ha 1 [(3, .int .i64 (0 : Int)), (6, .slice ao1 a0.length cap1), (7, .int .i64 (a0.length : Int)), (8, .int .i64 x7), (9, .bool (decide (x7 < (a0.length : Int))))] (by kernel_rfl) fun a ha => ?_
    refine hK9 _ _ ?_; clear hK9 K9
    refine wp_seq_k fun K10 hK10 => ?_
    refine cnd ha rfl (fun hc11 => ?_) (fun hc11 => ?_)
    · have H := ite_t hc11 H
      refine wp_skip ?_
      refine hK10 _ _ ?_; clear hK10 K10
      refine wp_seq_k fun K12 hK12 => ?_
      refine wp_block ?_
      refine wp_seq_k fun K13 hK13 => ?_
      refine wp_region_lit ?_
      obtain ⟨⟨hx14, hx14'⟩, H⟩ := ite_some H
      refine ix (r := (rInt .i64)) ha (by kernel_rfl) (by kernel_rfl) rfl rfl rfl rfl rfl f1 hx14 hx14' fun a ge15 oe16 cs17 hn20 hR18 hE19 ha => ?_
      rw [rd_get] at hR18
      obtain rfl := hR18
      have hE19 : ∀ j v, ([.int .i64 (rd a0 x7)] : List Value)[j]? = some v → w6.cell? ⟨ge15, oe16 + j, none⟩ = some v := hE19
      refine ld ha rfl (by kernel_rfl) rfl rfl rfl (hE19 0 (.int .i64 (rd a0 x7)) (by kernel_rfl)) fun a ha => ?_
      refine seg ha 1 [(3, .int .i64 (0 : Int)), (5, .int .i64 (rd a0 x7)), (6, .slice ao1 a0.length cap1), (7, .int .i64 (a0.length : Int)), (8, .int .i64 x7)] (by kernel_rfl) fun a ha => ?_
      refine hK13 _ _ ?_; clear hK13 K13
      refine wp_seq_k fun K21 hK21 => ?_
      refine wp_region_lit ?_
      refine seg ha 3 [(3, .int .i64 (0 : Int)), (5, .int .i64 (rd a0 x7)), (6, .slice ao1 a0.length cap1), (7, .int .i64 (a0.length : Int)), (8, .int .i64 x7), (14, .bool ((rd a0 x7) != (0 : Int)))] (by kernel_rfl) fun a ha => ?_
      refine hK21 _ _ ?_; clear hK21 K21
      refine cnd ha rfl (fun hc22 => ?_) (fun hc22 => ?_)
      · have H := ite_t hc22 H
        refine wp_seq_k fun K23 hK23 => ?_
        refine wp_region_lit ?_
        refine seg ha 2 [(2, .int .i64 (rd a0 x7))] (by kernel_rfl) fun a ha => ?_
        refine hK23 _ _ ?_; clear hK23 K23
        refine wp_ret ?_
        try simp only [Exit.then, Exit.inBlock]
        obtain rfl := Option.some.inj H
        have H := (show some _ = some _ from Hc6)
        obtain rfl := Option.some.inj H
        refine rt1 ha rfl rfl ?_
        exact ⟨rfl, hC, hM⟩
      · have H := ite_f hc22 H
        refine wp_skip ?_
        refine hK12 _ _ ?_; clear hK12 K12
        refine wp_region_lit ?_
        refine seg ha 2 [(3, .int .i64 (0 : Int)), (6, .slice ao1 a0.length cap1), (7, .int .i64 (a0.length : Int)), (8, .int .i64 (IntKind.i64.wrap (x7 + (1 : Int))))] (by kernel_rfl) fun a ha => ?_
        exact ⟨kk, Nat.lt_succ_self _, ⟨IntKind.i64.wrap (x7 + (1 : Int)), H, (ha.sel (by kernel_rfl)), f1, hC, hM⟩⟩
    · have H := ite_f hc11 H
      refine wp_exit ?_
      simp only [Exit.then, Exit.inBlock, ↓reduceIte, Nat.reduceEqDiff]
      obtain rfl := Option.some.inj H
      exact J6 _ _ _ rfl (ha.sel (by kernel_rfl)) hC hM
def decide_here.f (a0 : S_api_Choice) : Option (Int) := (if (a0.Peer == (0 : Int)) = true then some (((0 : Int) : Int)) else some (((1 : Int) : Int)))
set_option maxRecDepth 100000 in
theorem decide_here.walk (w : World) (M : List Nat) (hM : MS M w) (a0 : S_api_Choice) (ao1 : Option Addr) (cap1 : Nat) (f1 : RSl rS_api_Segment 58 w M ao1 cap1 a0.Route.Attrs.Path) (ao2 : Option Addr) (cap2 : Nat) (f2 : RSl rS_api_Addr 26 w M ao2 cap2 a0.Route.Attrs.Clusters) (ao3 : Option Addr) (cap3 : Nat) (f3 : RSl (rArr .u8 8) 81 w M ao3 cap3 a0.Route.Attrs.Exts) (ao4 : Option Addr) (cap4 : Nat) (f4 : RSl rS_api_Tunnel 70 w M ao4 cap4 a0.Route.Attrs.Tunnels) (r : Int) (H : decide_here.f a0 = some r) :
    To Try.prog 23 [.agg (cS_api_Choice a0 ao1 cap1 ao2 cap2 ao3 cap3 ao4 cap4).toArray] w fun v w' => v = .int .i64 r ∧ Chg [] w w' ∧ MS (M) w' := by
  unfold decide_here.f at H
  refine ent Try.func23 rfl [(0, .agg (cS_api_Choice a0 ao1 cap1 ao2 cap2 ao3 cap3 ao4 cap4).toArray)] rfl (by rfl) fun a ha => ?_
  have hC : Chg [] w w := Chg.refl _ _
  refine wp_seq_k fun K5 hK5 => ?_
  refine wp_region_lit ?_
  refine bx (cs := (cS_api_Choice a0 ao1 cap1 ao2 cap2 ao3 cap3 ao4 cap4)) ha rfl rfl rfl rfl rfl fun a w6 g7 hN8 ha => ?_
  have hn10 := hN8.notin hM
  have o1 : Ok [] (M) w.heap.size := Ok.nil _ _
  have o2 : Ok (M) (M) w.heap.size := (fun _ h => .inl (h))
  have f1 := f1.chg hN8.chg o1 o2
  have f2 := f2.chg hN8.chg o1 o2
  have f3 := f3.chg hN8.chg o1 o2
  have f4 := f4.chg hN8.chg o1 o2
  have hM : MS (M) w6 := (fun x h => hM.chg hN8.chg x (h))
  have hC := hC.trans hN8.chg (Ok.nil _ _)
  have hE9 : ∀ j v, (cS_api_Choice a0 ao1 cap1 ao2 cap2 ao3 cap3 ao4 cap4)[j]? = some v → w6.cell? ⟨g7, 0 + j, none⟩ = some v := Box.cells (New.box hN8)
  refine seg ha 1 [(1, .pointer (some ⟨g7, 0, none⟩))] (by kernel_rfl) fun a ha => ?_
  refine hK5 _ _ ?_; clear hK5 K5
  refine wp_seq_k fun K11 hK11 => ?_
  refine wp_seq_k fun K12 hK12 => ?_
  refine wp_region_lit ?_
  refine seg ha 1 [(3, .pointer (some ⟨g7, 0 + 132, none⟩))] (by kernel_rfl) fun a ha => ?_
  refine ld ha rfl (by kernel_rfl) rfl rfl rfl (hE9 132 (.int .i64 a0.Peer) (by kernel_rfl)) fun a ha => ?_
  refine seg ha 1 [(5, .bool (a0.Peer == (0 : Int)))] (by kernel_rfl) fun a ha => ?_
  refine hK12 _ _ ?_; clear hK12 K12
  refine cnd ha rfl (fun hc13 => ?_) (fun hc13 => ?_)
  · have H := ite_t hc13 H
    refine wp_seq_k fun K14 hK14 => ?_
    refine wp_region_lit ?_
    refine seg ha 1 [(2, .int .i64 (0 : Int))] (by kernel_rfl) fun a ha => ?_
    refine hK14 _ _ ?_; clear hK14 K14
    refine wp_ret ?_
    try simp only [Exit.then, Exit.inBlock]
    obtain rfl := Option.some.inj H
    refine rt1 ha rfl rfl ?_
    exact ⟨rfl, hC, hM⟩
  · have H := ite_f hc13 H
    refine wp_skip ?_
    refine hK11 _ _ ?_; clear hK11 K11
    refine wp_seq_k fun K15 hK15 => ?_
    refine wp_region_lit ?_
    refine seg ha 1 [(2, .int .i64 (1 : Int))] (by kernel_rfl) fun a ha => ?_
    refine hK15 _ _ ?_; clear hK15 K15
    refine wp_ret ?_
    try simp only [Exit.then, Exit.inBlock]
    obtain rfl := Option.some.inj H
    refine rt1 ha rfl rfl ?_
    exact ⟨rfl, hC, hM⟩
def decide_teller.f (a0 : S_api_Choice) : Option (S_api_Addr) := (if (a0.Route.Attrs.Originator.Size != (0 : Int)) = true then some ((a0.Route.Attrs.Originator : S_api_Addr)) else some ((a0.Id : S_api_Addr)))
set_option maxRecDepth 100000 in
theorem decide_teller.walk (w : World) (M : List Nat) (hM : MS M w) (a0 : S_api_Choice) (ao1 : Option Addr) (cap1 : Nat) (f1 : RSl rS_api_Segment 58 w M ao1 cap1 a0.Route.Attrs.Path) (ao2 : Option Addr) (cap2 : Nat) (f2 : RSl rS_api_Addr 26 w M ao2 cap2 a0.Route.Attrs.Clusters) (ao3 : Option Addr) (cap3 : Nat) (f3 : RSl (rArr .u8 8) 81 w M ao3 cap3 a0.Route.Attrs.Exts) (ao4 : Option Addr) (cap4 : Nat) (f4 : RSl rS_api_Tunnel 70 w M ao4 cap4 a0.Route.Attrs.Tunnels) (r : S_api_Addr) (H : decide_teller.f a0 = some r) :
    To Try.prog 25 [.agg (cS_api_Choice a0 ao1 cap1 ao2 cap2 ao3 cap3 ao4 cap4).toArray] w fun v w' => v = .agg (cS_api_Addr r).toArray ∧ Chg [] w w' ∧ MS (M) w' := by
  unfold decide_teller.f at H
  refine ent Try.func25 rfl [(0, .agg (cS_api_Choice a0 ao1 cap1 ao2 cap2 ao3 cap3 ao4 cap4).toArray)] rfl (by rfl) fun a ha => ?_
  have hC : Chg [] w w := Chg.refl _ _
  refine wp_seq_k fun K5 hK5 => ?_
  refine wp_region_lit ?_
  refine bx (cs := (cS_api_Choice a0 ao1 cap1 ao2 cap2 ao3 cap3 ao4 cap4)) ha rfl rfl rfl rfl rfl fun a w6 g7 hN8 ha => ?_
  have hn10 := hN8.notin hM
  have o1 : Ok [] (M) w.heap.size := Ok.nil _ _
  have o2 : Ok (M) (M) w.heap.size := (fun _ h => .inl (h))
  have f1 := f1.chg hN8.chg o1 o2
  have f2 := f2.chg hN8.chg o1 o2
  have f3 := f3.chg hN8.chg o1 o2
  have f4 := f4.chg hN8.chg o1 o2
  have hM : MS (M) w6 := (fun x h => hM.chg hN8.chg x (h))
  have hC := hC.trans hN8.chg (Ok.nil _ _)
  have hE9 : ∀ j v, (cS_api_Choice a0 ao1 cap1 ao2 cap2 ao3 cap3 ao4 cap4)[j]? = some v → w6.cell? ⟨g7, 0 + j, none⟩ = some v := Box.cells (New.box hN8)
  refine al (cs := (cS_api_Addr (⟨(0 : Int), (List.replicate 16 (0 : Int))⟩ : S_api_Addr))) (z := .agg (cS_api_Addr (⟨(0 : Int), (List.replicate 16 (0 : Int))⟩ : S_api_Addr)).toArray) ha (fun w => by kernel_rfl) rfl rfl rfl rfl fun a w11 g12 hN13 ha => ?_
  have o1 : Ok [] (M) w6.heap.size := Ok.nil _ _
  have o2 : Ok ([g12] ++ (M)) (M) w6.heap.size := (Ok.app (hN13.ok _) (fun _ h => .inl (h)))
  have f1 := f1.chg hN13.chg o1 o2
  have f2 := f2.chg hN13.chg o1 o2
  have f3 := f3.chg hN13.chg o1 o2
  have f4 := f4.chg hN13.chg o1 o2
  have q_hn10 : g7 ∉ [g12] ++ (M) := fun h => (o2 g7 h).elim hn10 (fun h => absurd (lt_cell (hE9 0 _ rfl)) (Nat.not_lt.2 h))
  have hE9 : ∀ j v, (cS_api_Choice a0 ao1 cap1 ao2 cap2 ao3 cap3 ao4 cap4)[j]? = some v → w11.cell? ⟨g7, 0 + j, none⟩ = some v := fun j v hv => (cell_keep hN13.chg o1 hn10 (hE9 j v hv))
  have hn10 := q_hn10
  have nw : Ok ([g12]) (M) w6.heap.size := (hN13.ok _)
  have p_i14_M : ∀ x ∈ [g12], x ∉ M := fun x hx hy => absurd (hM x (hy)) (Nat.not_lt.2 ((hN13.ge1) x hx))
  have e_i14 : ∀ x ∈ [g12], w.heap.size ≤ x := fun x hx => Nat.le_trans hC.size ((hN13.ge1) x hx)
  have hM : MS ([g12] ++ (M)) w11 := (MS.app hN13.ms (fun x h => hM.chg hN13.chg x (h)))
  have hC := hC.trans hN13.chg (Ok.nil _ _)
  have hBg12 : Box w11 g12 (cS_api_Addr (⟨(0 : Int), (List.replicate 16 (0 : Int))⟩ : S_api_Addr)) := hN13.box
  refine hK5 _ _ ?_; clear hK5 K5
  refine wp_seq_k fun K15 hK15 => ?_
  refine wp_seq_k fun K16 hK16 => ?_
  refine wp_region_lit ?_
  refine seg ha 3 [(1, .pointer (some ⟨g7, 0, none⟩)), (2, .pointer (some ⟨g12, 0, none⟩)), (6, .pointer (some ⟨g7, 0 + 112, none⟩))] (by kernel_rfl) fun a ha => ?_
  refine ldA (cs := (cS_api_Addr a0.Route.Attrs.Originator)) ha rfl (by kernel_rfl) rfl rfl rfl (cells_sub hE9 (all := (cS_api_Choice a0 ao1 cap1 ao2 cap2 ao3 cap3 ao4 cap4)) [.int .i64 a0.Route.Size, .int .i64 a0.Route.Safi, .int .i64 a0.Route.M.Kind, .int .u8 (ar a0.Route.M.RD 0), .int .u8 (ar a0.Route.M.RD 1), .int .u8 (ar a0.Route.M.RD 2), .int .u8 (ar a0.Route.M.RD 3), .int .u8 (ar a0.Route.M.RD 4), .int .u8 (ar a0.Route.M.RD 5), .int .u8 (ar a0.Route.M.RD 6), .int .u8 (ar a0.Route.M.RD 7), .int .i64 a0.Route.M.AS, .int .i64 a0.Route.M.Source.Size, .int .u8 (ar a0.Route.M.Source.B 0), .int .u8 (ar a0.Route.M.Source.B 1), .int .u8 (ar a0.Route.M.Source.B 2), .int .u8 (ar a0.Route.M.Source.B 3), .int .u8 (ar a0.Route.M.Source.B 4), .int .u8 (ar a0.Route.M.Source.B 5), .int .u8 (ar a0.Route.M.Source.B 6), .int .u8 (ar a0.Route.M.Source.B 7), .int .u8 (ar a0.Route.M.Source.B 8), .int .u8 (ar a0.Route.M.Source.B 9), .int .u8 (ar a0.Route.M.Source.B 10), .int .u8 (ar a0.Route.M.Source.B 11), .int .u8 (ar a0.Route.M.Source.B 12), .int .u8 (ar a0.Route.M.Source.B 13), .int .u8 (ar a0.Route.M.Source.B 14), .int .u8 (ar a0.Route.M.Source.B 15), .int .i64 a0.Route.M.Group.Size, .int .u8 (ar a0.Route.M.Group.B 0), .int .u8 (ar a0.Route.M.Group.B 1), .int .u8 (ar a0.Route.M.Group.B 2), .int .u8 (ar a0.Route.M.Group.B 3), .int .u8 (ar a0.Route.M.Group.B 4), .int .u8 (ar a0.Route.M.Group.B 5), .int .u8 (ar a0.Route.M.Group.B 6), .int .u8 (ar a0.Route.M.Group.B 7), .int .u8 (ar a0.Route.M.Group.B 8), .int .u8 (ar a0.Route.M.Group.B 9), .int .u8 (ar a0.Route.M.Group.B 10), .int .u8 (ar a0.Route.M.Group.B 11), .int .u8 (ar a0.Route.M.Group.B 12), .int .u8 (ar a0.Route.M.Group.B 13), .int .u8 (ar a0.Route.M.Group.B 14), .int .u8 (ar a0.Route.M.Group.B 15), .int .i64 a0.Route.M.From.Size, .int .u8 (ar a0.Route.M.From.B 0), .int .u8 (ar a0.Route.M.From.B 1), .int .u8 (ar a0.Route.M.From.B 2), .int .u8 (ar a0.Route.M.From.B 3), .int .u8 (ar a0.Route.M.From.B 4), .int .u8 (ar a0.Route.M.From.B 5), .int .u8 (ar a0.Route.M.From.B 6), .int .u8 (ar a0.Route.M.From.B 7), .int .u8 (ar a0.Route.M.From.B 8), .int .u8 (ar a0.Route.M.From.B 9), .int .u8 (ar a0.Route.M.From.B 10), .int .u8 (ar a0.Route.M.From.B 11), .int .u8 (ar a0.Route.M.From.B 12), .int .u8 (ar a0.Route.M.From.B 13), .int .u8 (ar a0.Route.M.From.B 14), .int .u8 (ar a0.Route.M.From.B 15), .string (bstr a0.Route.M.Key), .int .u8 (ar a0.Route.U.RD 0), .int .u8 (ar a0.Route.U.RD 1), .int .u8 (ar a0.Route.U.RD 2), .int .u8 (ar a0.Route.U.RD 3), .int .u8 (ar a0.Route.U.RD 4), .int .u8 (ar a0.Route.U.RD 5), .int .u8 (ar a0.Route.U.RD 6), .int .u8 (ar a0.Route.U.RD 7), .int .i64 a0.Route.U.Prefix.Addr.Size, .int .u8 (ar a0.Route.U.Prefix.Addr.B 0), .int .u8 (ar a0.Route.U.Prefix.Addr.B 1), .int .u8 (ar a0.Route.U.Prefix.Addr.B 2), .int .u8 (ar a0.Route.U.Prefix.Addr.B 3), .int .u8 (ar a0.Route.U.Prefix.Addr.B 4), .int .u8 (ar a0.Route.U.Prefix.Addr.B 5), .int .u8 (ar a0.Route.U.Prefix.Addr.B 6), .int .u8 (ar a0.Route.U.Prefix.Addr.B 7), .int .u8 (ar a0.Route.U.Prefix.Addr.B 8), .int .u8 (ar a0.Route.U.Prefix.Addr.B 9), .int .u8 (ar a0.Route.U.Prefix.Addr.B 10), .int .u8 (ar a0.Route.U.Prefix.Addr.B 11), .int .u8 (ar a0.Route.U.Prefix.Addr.B 12), .int .u8 (ar a0.Route.U.Prefix.Addr.B 13), .int .u8 (ar a0.Route.U.Prefix.Addr.B 14), .int .u8 (ar a0.Route.U.Prefix.Addr.B 15), .int .i64 a0.Route.U.Prefix.Bits, .int .i64 a0.Route.U.Label, .int .i64 a0.Route.Next.Size, .int .u8 (ar a0.Route.Next.B 0), .int .u8 (ar a0.Route.Next.B 1), .int .u8 (ar a0.Route.Next.B 2), .int .u8 (ar a0.Route.Next.B 3), .int .u8 (ar a0.Route.Next.B 4), .int .u8 (ar a0.Route.Next.B 5), .int .u8 (ar a0.Route.Next.B 6), .int .u8 (ar a0.Route.Next.B 7), .int .u8 (ar a0.Route.Next.B 8), .int .u8 (ar a0.Route.Next.B 9), .int .u8 (ar a0.Route.Next.B 10), .int .u8 (ar a0.Route.Next.B 11), .int .u8 (ar a0.Route.Next.B 12), .int .u8 (ar a0.Route.Next.B 13), .int .u8 (ar a0.Route.Next.B 14), .int .u8 (ar a0.Route.Next.B 15), .int .i64 a0.Route.Attrs.Origin, .slice ao1 a0.Route.Attrs.Path.length cap1, .int .i64 a0.Route.Attrs.Med, .int .i64 a0.Route.Attrs.Pref] [.slice ao2 a0.Route.Attrs.Clusters.length cap2, .slice ao3 a0.Route.Attrs.Exts.length cap3, .slice ao4 a0.Route.Attrs.Tunnels.length cap4, .int .i64 a0.Peer, .int .i64 a0.Id.Size, .int .u8 (ar a0.Id.B 0), .int .u8 (ar a0.Id.B 1), .int .u8 (ar a0.Id.B 2), .int .u8 (ar a0.Id.B 3), .int .u8 (ar a0.Id.B 4), .int .u8 (ar a0.Id.B 5), .int .u8 (ar a0.Id.B 6), .int .u8 (ar a0.Id.B 7), .int .u8 (ar a0.Id.B 8), .int .u8 (ar a0.Id.B 9), .int .u8 (ar a0.Id.B 10), .int .u8 (ar a0.Id.B 11), .int .u8 (ar a0.Id.B 12), .int .u8 (ar a0.Id.B 13), .int .u8 (ar a0.Id.B 14), .int .u8 (ar a0.Id.B 15)] (by kernel_rfl)) fun a ha => ?_
  refine al (cs := (cS_api_Addr (⟨(0 : Int), (List.replicate 16 (0 : Int))⟩ : S_api_Addr))) (z := .agg (cS_api_Addr (⟨(0 : Int), (List.replicate 16 (0 : Int))⟩ : S_api_Addr)).toArray) ha (fun w => by kernel_rfl) rfl rfl rfl rfl fun a w17 g18 hN19 ha => ?_
  have o1 : Ok [] ([g12] ++ (M)) w11.heap.size := Ok.nil _ _
  have o2 : Ok ([g18] ++ ([g12] ++ (M))) ([g12] ++ (M)) w11.heap.size := (Ok.app (hN19.ok _) (Ok.app (fun _ h => .inl (ml h)) (fun _ h => .inl (mr (h)))))
  have f1 := f1.chg hN19.chg o1 o2
  have f2 := f2.chg hN19.chg o1 o2
  have f3 := f3.chg hN19.chg o1 o2
  have f4 := f4.chg hN19.chg o1 o2
  have hBg12 := hBg12.chg hN19.chg (fun h => nomatch h)
  have q_hn10 : g7 ∉ [g18] ++ ([g12] ++ (M)) := fun h => (o2 g7 h).elim hn10 (fun h => absurd (lt_cell (hE9 0 _ rfl)) (Nat.not_lt.2 h))
  have hE9 : ∀ j v, (cS_api_Choice a0 ao1 cap1 ao2 cap2 ao3 cap3 ao4 cap4)[j]? = some v → w17.cell? ⟨g7, 0 + j, none⟩ = some v := fun j v hv => (cell_keep hN19.chg o1 hn10 (hE9 j v hv))
  have hn10 := q_hn10
  have nw : Ok ([g18]) ([g12] ++ (M)) w11.heap.size := (hN19.ok _)
  have p_i20_i14 : ∀ x ∈ [g18], x ∉ ([g12]) := fun x hx hy => absurd (hM x (ml hy)) (Nat.not_lt.2 ((hN19.ge1) x hx))
  have p_i20_M : ∀ x ∈ [g18], x ∉ M := fun x hx hy => absurd (hM x (mr (hy))) (Nat.not_lt.2 ((hN19.ge1) x hx))
  have e_i20 : ∀ x ∈ [g18], w.heap.size ≤ x := fun x hx => Nat.le_trans hC.size ((hN19.ge1) x hx)
  have hM : MS ([g18] ++ ([g12] ++ (M))) w17 := (MS.app hN19.ms (MS.app (fun x h => hM.chg hN19.chg x (ml h)) (fun x h => hM.chg hN19.chg x (mr (h)))))
  have hC := hC.trans hN19.chg (Ok.nil _ _)
  have hBg18 : Box w17 g18 (cS_api_Addr (⟨(0 : Int), (List.replicate 16 (0 : Int))⟩ : S_api_Addr)) := hN19.box
  refine stA (l := (cS_api_Addr a0.Route.Attrs.Originator)) ha rfl rfl rfl (by kernel_rfl) rfl rfl hBg18 rfl fun a w21 ha hb2 hc22 _ => ?_
  have o1 : Ok [g18] ([g18] ++ ([g12] ++ (M))) w17.heap.size := (fun _ h => .inl (ml h))
  have o2 : Ok ([g18] ++ ([g12] ++ (M))) ([g18] ++ ([g12] ++ (M))) w17.heap.size := (Ok.app (fun _ h => .inl (ml h)) (Ok.app (fun _ h => .inl (mr (ml h))) (fun _ h => .inl (mr (mr (h))))))
  have f1 := f1.chg hc22 o1 o2
  have f2 := f2.chg hc22 o1 o2
  have f3 := f3.chg hc22 o1 o2
  have f4 := f4.chg hc22 o1 o2
  have hBg12 := hBg12.chg hc22 ((fun x hx hy => p_i20_i14 x hy hx) g12 (by simp))
  have q_hn10 : g7 ∉ [g18] ++ ([g12] ++ (M)) := fun h => (o2 g7 h).elim hn10 (fun h => absurd (lt_cell (hE9 0 _ rfl)) (Nat.not_lt.2 h))
  have hE9 : ∀ j v, (cS_api_Choice a0 ao1 cap1 ao2 cap2 ao3 cap3 ao4 cap4)[j]? = some v → w21.cell? ⟨g7, 0 + j, none⟩ = some v := fun j v hv => (cell_keep hc22 o1 hn10 (hE9 j v hv))
  have hn10 := q_hn10
  have hM : MS ([g18] ++ ([g12] ++ (M))) w21 := (MS.app (fun x h => hM.chg hc22 x (ml h)) (MS.app (fun x h => hM.chg hc22 x (mr (ml h))) (fun x h => hM.chg hc22 x (mr (mr (h))))))
  have hC := hC.trans hc22 (fun x h => .inr (e_i20 x h))
  have hBg18 : Box w21 g18 (cS_api_Addr a0.Route.Attrs.Originator) := hb2
  refine hK16 _ _ ?_; clear hK16 K16
  refine wp_seq_k fun K23 hK23 => ?_
  refine wp_region_lit ?_
  refine seg ha 1 [(1, .pointer (some ⟨g7, 0, none⟩)), (2, .pointer (some ⟨g12, 0, none⟩)), (3, .pointer (some ⟨g18, 0, none⟩)), (8, .pointer (some ⟨g18, 0, none⟩))] (by kernel_rfl) fun a ha => ?_
  refine ld (v := .int .i64 a0.Route.Attrs.Originator.Size) ha rfl (by kernel_rfl) rfl rfl rfl (hBg18.cell' (o := 0) rfl (by kernel_rfl)) fun a ha => ?_
  refine seg ha 1 [(1, .pointer (some ⟨g7, 0, none⟩)), (2, .pointer (some ⟨g12, 0, none⟩)), (3, .pointer (some ⟨g18, 0, none⟩)), (10, .bool (a0.Route.Attrs.Originator.Size != (0 : Int)))] (by kernel_rfl) fun a ha => ?_
  refine hK23 _ _ ?_; clear hK23 K23
  refine cnd ha rfl (fun hc24 => ?_) (fun hc24 => ?_)
  · have H := ite_t hc24 H
    refine wp_seq_k fun K25 hK25 => ?_
    refine wp_region_lit ?_
    refine ldA (cs := (cS_api_Addr a0.Route.Attrs.Originator)) ha rfl (by kernel_rfl) rfl rfl rfl (cells_sub (Box.cells hBg18) (all := (cS_api_Addr a0.Route.Attrs.Originator)) [] [] (by kernel_rfl)) fun a ha => ?_
    refine stA (l := (cS_api_Addr a0.Route.Attrs.Originator)) ha rfl rfl rfl (by kernel_rfl) rfl rfl hBg12 rfl fun a w26 ha hb2 hc27 _ => ?_
    have o1 : Ok [g12] ([g18] ++ ([g12] ++ (M))) w21.heap.size := (fun _ h => .inl (mr (ml h)))
    have o2 : Ok ([g18] ++ ([g12] ++ (M))) ([g18] ++ ([g12] ++ (M))) w21.heap.size := (Ok.app (fun _ h => .inl (ml h)) (Ok.app (fun _ h => .inl (mr (ml h))) (fun _ h => .inl (mr (mr (h))))))
    have hBg18 := hBg18.chg hc27 (p_i20_i14 g18 (by simp))
    have hM : MS ([g18] ++ ([g12] ++ (M))) w26 := (MS.app (fun x h => hM.chg hc27 x (ml h)) (MS.app (fun x h => hM.chg hc27 x (mr (ml h))) (fun x h => hM.chg hc27 x (mr (mr (h))))))
    have hC := hC.trans hc27 (fun x h => .inr (e_i14 x h))
    have hBg12 : Box w26 g12 (cS_api_Addr a0.Route.Attrs.Originator) := hb2
    refine hK25 _ _ ?_; clear hK25 K25
    refine wp_ret ?_
    try simp only [Exit.then, Exit.inBlock]
    have o1 : Ok [] ([g18] ++ ([g12] ++ (M))) w26.heap.size := Ok.nil _ _
    have o2 : Ok (M) ([g18] ++ ([g12] ++ (M))) w26.heap.size := (fun _ h => .inl (mr (mr (h))))
    have hBg12 := hBg12.chg (Chg.refl [] _) (fun h => nomatch h)
    have hBg18 := hBg18.chg (Chg.refl [] _) (fun h => nomatch h)
    have hM : MS (M) w26 := (fun x h => hM.chg (Chg.refl [] _) x (mr (mr (h))))
    have hC := hC.trans (Chg.refl [] _) (Ok.nil _ _)
    obtain rfl := Option.some.inj H
    refine rtr ha (res1 rfl (roA ha rfl hBg12 (by kernel_rfl))) ?_
    exact ⟨rfl, hC, hM⟩
  · have H := ite_f hc24 H
    refine wp_skip ?_
    refine hK15 _ _ ?_; clear hK15 K15
    refine wp_seq_k fun K28 hK28 => ?_
    refine wp_region_lit ?_
    refine seg ha 1 [(2, .pointer (some ⟨g12, 0, none⟩)), (12, .pointer (some ⟨g7, 0 + 133, none⟩))] (by kernel_rfl) fun a ha => ?_
    refine ldA (cs := (cS_api_Addr a0.Id)) ha rfl (by kernel_rfl) rfl rfl rfl (cells_sub hE9 (all := (cS_api_Choice a0 ao1 cap1 ao2 cap2 ao3 cap3 ao4 cap4)) [.int .i64 a0.Route.Size, .int .i64 a0.Route.Safi, .int .i64 a0.Route.M.Kind, .int .u8 (ar a0.Route.M.RD 0), .int .u8 (ar a0.Route.M.RD 1), .int .u8 (ar a0.Route.M.RD 2), .int .u8 (ar a0.Route.M.RD 3), .int .u8 (ar a0.Route.M.RD 4), .int .u8 (ar a0.Route.M.RD 5), .int .u8 (ar a0.Route.M.RD 6), .int .u8 (ar a0.Route.M.RD 7), .int .i64 a0.Route.M.AS, .int .i64 a0.Route.M.Source.Size, .int .u8 (ar a0.Route.M.Source.B 0), .int .u8 (ar a0.Route.M.Source.B 1), .int .u8 (ar a0.Route.M.Source.B 2), .int .u8 (ar a0.Route.M.Source.B 3), .int .u8 (ar a0.Route.M.Source.B 4), .int .u8 (ar a0.Route.M.Source.B 5), .int .u8 (ar a0.Route.M.Source.B 6), .int .u8 (ar a0.Route.M.Source.B 7), .int .u8 (ar a0.Route.M.Source.B 8), .int .u8 (ar a0.Route.M.Source.B 9), .int .u8 (ar a0.Route.M.Source.B 10), .int .u8 (ar a0.Route.M.Source.B 11), .int .u8 (ar a0.Route.M.Source.B 12), .int .u8 (ar a0.Route.M.Source.B 13), .int .u8 (ar a0.Route.M.Source.B 14), .int .u8 (ar a0.Route.M.Source.B 15), .int .i64 a0.Route.M.Group.Size, .int .u8 (ar a0.Route.M.Group.B 0), .int .u8 (ar a0.Route.M.Group.B 1), .int .u8 (ar a0.Route.M.Group.B 2), .int .u8 (ar a0.Route.M.Group.B 3), .int .u8 (ar a0.Route.M.Group.B 4), .int .u8 (ar a0.Route.M.Group.B 5), .int .u8 (ar a0.Route.M.Group.B 6), .int .u8 (ar a0.Route.M.Group.B 7), .int .u8 (ar a0.Route.M.Group.B 8), .int .u8 (ar a0.Route.M.Group.B 9), .int .u8 (ar a0.Route.M.Group.B 10), .int .u8 (ar a0.Route.M.Group.B 11), .int .u8 (ar a0.Route.M.Group.B 12), .int .u8 (ar a0.Route.M.Group.B 13), .int .u8 (ar a0.Route.M.Group.B 14), .int .u8 (ar a0.Route.M.Group.B 15), .int .i64 a0.Route.M.From.Size, .int .u8 (ar a0.Route.M.From.B 0), .int .u8 (ar a0.Route.M.From.B 1), .int .u8 (ar a0.Route.M.From.B 2), .int .u8 (ar a0.Route.M.From.B 3), .int .u8 (ar a0.Route.M.From.B 4), .int .u8 (ar a0.Route.M.From.B 5), .int .u8 (ar a0.Route.M.From.B 6), .int .u8 (ar a0.Route.M.From.B 7), .int .u8 (ar a0.Route.M.From.B 8), .int .u8 (ar a0.Route.M.From.B 9), .int .u8 (ar a0.Route.M.From.B 10), .int .u8 (ar a0.Route.M.From.B 11), .int .u8 (ar a0.Route.M.From.B 12), .int .u8 (ar a0.Route.M.From.B 13), .int .u8 (ar a0.Route.M.From.B 14), .int .u8 (ar a0.Route.M.From.B 15), .string (bstr a0.Route.M.Key), .int .u8 (ar a0.Route.U.RD 0), .int .u8 (ar a0.Route.U.RD 1), .int .u8 (ar a0.Route.U.RD 2), .int .u8 (ar a0.Route.U.RD 3), .int .u8 (ar a0.Route.U.RD 4), .int .u8 (ar a0.Route.U.RD 5), .int .u8 (ar a0.Route.U.RD 6), .int .u8 (ar a0.Route.U.RD 7), .int .i64 a0.Route.U.Prefix.Addr.Size, .int .u8 (ar a0.Route.U.Prefix.Addr.B 0), .int .u8 (ar a0.Route.U.Prefix.Addr.B 1), .int .u8 (ar a0.Route.U.Prefix.Addr.B 2), .int .u8 (ar a0.Route.U.Prefix.Addr.B 3), .int .u8 (ar a0.Route.U.Prefix.Addr.B 4), .int .u8 (ar a0.Route.U.Prefix.Addr.B 5), .int .u8 (ar a0.Route.U.Prefix.Addr.B 6), .int .u8 (ar a0.Route.U.Prefix.Addr.B 7), .int .u8 (ar a0.Route.U.Prefix.Addr.B 8), .int .u8 (ar a0.Route.U.Prefix.Addr.B 9), .int .u8 (ar a0.Route.U.Prefix.Addr.B 10), .int .u8 (ar a0.Route.U.Prefix.Addr.B 11), .int .u8 (ar a0.Route.U.Prefix.Addr.B 12), .int .u8 (ar a0.Route.U.Prefix.Addr.B 13), .int .u8 (ar a0.Route.U.Prefix.Addr.B 14), .int .u8 (ar a0.Route.U.Prefix.Addr.B 15), .int .i64 a0.Route.U.Prefix.Bits, .int .i64 a0.Route.U.Label, .int .i64 a0.Route.Next.Size, .int .u8 (ar a0.Route.Next.B 0), .int .u8 (ar a0.Route.Next.B 1), .int .u8 (ar a0.Route.Next.B 2), .int .u8 (ar a0.Route.Next.B 3), .int .u8 (ar a0.Route.Next.B 4), .int .u8 (ar a0.Route.Next.B 5), .int .u8 (ar a0.Route.Next.B 6), .int .u8 (ar a0.Route.Next.B 7), .int .u8 (ar a0.Route.Next.B 8), .int .u8 (ar a0.Route.Next.B 9), .int .u8 (ar a0.Route.Next.B 10), .int .u8 (ar a0.Route.Next.B 11), .int .u8 (ar a0.Route.Next.B 12), .int .u8 (ar a0.Route.Next.B 13), .int .u8 (ar a0.Route.Next.B 14), .int .u8 (ar a0.Route.Next.B 15), .int .i64 a0.Route.Attrs.Origin, .slice ao1 a0.Route.Attrs.Path.length cap1, .int .i64 a0.Route.Attrs.Med, .int .i64 a0.Route.Attrs.Pref, .int .i64 a0.Route.Attrs.Originator.Size, .int .u8 (ar a0.Route.Attrs.Originator.B 0), .int .u8 (ar a0.Route.Attrs.Originator.B 1), .int .u8 (ar a0.Route.Attrs.Originator.B 2), .int .u8 (ar a0.Route.Attrs.Originator.B 3), .int .u8 (ar a0.Route.Attrs.Originator.B 4), .int .u8 (ar a0.Route.Attrs.Originator.B 5), .int .u8 (ar a0.Route.Attrs.Originator.B 6), .int .u8 (ar a0.Route.Attrs.Originator.B 7), .int .u8 (ar a0.Route.Attrs.Originator.B 8), .int .u8 (ar a0.Route.Attrs.Originator.B 9), .int .u8 (ar a0.Route.Attrs.Originator.B 10), .int .u8 (ar a0.Route.Attrs.Originator.B 11), .int .u8 (ar a0.Route.Attrs.Originator.B 12), .int .u8 (ar a0.Route.Attrs.Originator.B 13), .int .u8 (ar a0.Route.Attrs.Originator.B 14), .int .u8 (ar a0.Route.Attrs.Originator.B 15), .slice ao2 a0.Route.Attrs.Clusters.length cap2, .slice ao3 a0.Route.Attrs.Exts.length cap3, .slice ao4 a0.Route.Attrs.Tunnels.length cap4, .int .i64 a0.Peer] [] (by kernel_rfl)) fun a ha => ?_
    refine stA (l := (cS_api_Addr a0.Id)) ha rfl rfl rfl (by kernel_rfl) rfl rfl hBg12 rfl fun a w29 ha hb2 hc30 _ => ?_
    have o1 : Ok [g12] ([g18] ++ ([g12] ++ (M))) w21.heap.size := (fun _ h => .inl (mr (ml h)))
    have o2 : Ok ([g18] ++ ([g12] ++ (M))) ([g18] ++ ([g12] ++ (M))) w21.heap.size := (Ok.app (fun _ h => .inl (ml h)) (Ok.app (fun _ h => .inl (mr (ml h))) (fun _ h => .inl (mr (mr (h))))))
    have hBg18 := hBg18.chg hc30 (p_i20_i14 g18 (by simp))
    have hM : MS ([g18] ++ ([g12] ++ (M))) w29 := (MS.app (fun x h => hM.chg hc30 x (ml h)) (MS.app (fun x h => hM.chg hc30 x (mr (ml h))) (fun x h => hM.chg hc30 x (mr (mr (h))))))
    have hC := hC.trans hc30 (fun x h => .inr (e_i14 x h))
    have hBg12 : Box w29 g12 (cS_api_Addr a0.Id) := hb2
    refine hK28 _ _ ?_; clear hK28 K28
    refine wp_ret ?_
    try simp only [Exit.then, Exit.inBlock]
    have o1 : Ok [] ([g18] ++ ([g12] ++ (M))) w29.heap.size := Ok.nil _ _
    have o2 : Ok (M) ([g18] ++ ([g12] ++ (M))) w29.heap.size := (fun _ h => .inl (mr (mr (h))))
    have hBg12 := hBg12.chg (Chg.refl [] _) (fun h => nomatch h)
    have hBg18 := hBg18.chg (Chg.refl [] _) (fun h => nomatch h)
    have hM : MS (M) w29 := (fun x h => hM.chg (Chg.refl [] _) x (mr (mr (h))))
    have hC := hC.trans (Chg.refl [] _) (Ok.nil _ _)
    obtain rfl := Option.some.inj H
    refine rtr ha (res1 rfl (roA ha rfl hBg12 (by kernel_rfl))) ?_
    exact ⟨rfl, hC, hM⟩
def bytes_Compare.f (a0 : List Int) (a1 : List Int) : Option (Int) := some ((Go.Lib.compareBytes (b2s a0) (b2s a1) : Int))
set_option maxRecDepth 100000 in
theorem bytes_Compare.walk (w : World) (M : List Nat) (hM : MS M w) (a0 : List Int) (ao1 : Option Addr) (cap1 : Nat) (f1 : RSl (rInt .u8) 5 w M ao1 cap1 a0) (a1 : List Int) (ao2 : Option Addr) (cap2 : Nat) (f2 : RSl (rInt .u8) 5 w M ao2 cap2 a1) (r : Int) (H : bytes_Compare.f a0 a1 = some r) :
    To Try.prog 40 [.slice ao1 a0.length cap1, .slice ao2 a1.length cap2] w fun v w' => v = .int .i64 r ∧ Chg [] w w' ∧ MS (M) w' := by
  unfold bytes_Compare.f at H
  refine ent Try.func40 rfl [(0, .slice ao1 a0.length cap1), (1, .slice ao2 a1.length cap2)] rfl (by rfl) fun a ha => ?_
  have hC : Chg [] w w := Chg.refl _ _
  refine wp_seq_k fun K3 hK3 => ?_
  refine wp_region_lit ?_
  refine seg ha 1 [(0, .slice ao1 a0.length cap1), (1, .slice ao2 a1.length cap2)] (by kernel_rfl) fun a ha => ?_
  refine hK3 _ _ ?_; clear hK3 K3
  refine wp_seq_k fun K4 hK4 => ?_
  refine wp_region_lit ?_
  refine seg ha 2 [(5, .slice ao1 a0.length cap1), (6, .slice ao2 a1.length cap2)] (by kernel_rfl) fun a ha => ?_
  refine cx (fn := Try.f46) ha (vals := [.slice ao1 a0.length cap1, .slice ao2 a1.length cap2]) (by rfl) (by rfl) (by rfl) (by rfl) (by rfl) (by rfl) (by rfl) (by rfl) (by rfl) (run_bcmp f1 f2) fun a ha => ?_
  refine seg ha 1 [(4, .int .i64 (Go.Lib.compareBytes (b2s a0) (b2s a1)))] (by kernel_rfl) fun a ha => ?_
  refine hK4 _ _ ?_; clear hK4 K4
  refine wp_ret ?_
  try simp only [Exit.then, Exit.inBlock]
  obtain rfl := Option.some.inj H
  refine rt1 ha rfl rfl ?_
  exact ⟨rfl, hC, hM⟩
def cursor_Order.f (a0 : List Int) (a1 : List Int) : Option (Int) := (bytes_Compare.f a0 a1).bind fun t5 => some ((t5 : Int))
set_option maxRecDepth 100000 in
theorem cursor_Order.walk (w : World) (M : List Nat) (hM : MS M w) (a0 : List Int) (ao1 : Option Addr) (cap1 : Nat) (f1 : RSl (rInt .u8) 5 w M ao1 cap1 a0) (a1 : List Int) (ao2 : Option Addr) (cap2 : Nat) (f2 : RSl (rInt .u8) 5 w M ao2 cap2 a1) (r : Int) (H : cursor_Order.f a0 a1 = some r) :
    To Try.prog 36 [.slice ao1 a0.length cap1, .slice ao2 a1.length cap2] w fun v w' => v = .int .i64 r ∧ Chg [] w w' ∧ MS (M) w' := by
  unfold cursor_Order.f at H
  refine ent Try.func36 rfl [(0, .slice ao1 a0.length cap1), (1, .slice ao2 a1.length cap2)] rfl (by rfl) fun a ha => ?_
  have hC : Chg [] w w := Chg.refl _ _
  refine wp_seq_k fun K3 hK3 => ?_
  refine wp_region_lit ?_
  refine seg ha 1 [(0, .slice ao1 a0.length cap1), (1, .slice ao2 a1.length cap2)] (by kernel_rfl) fun a ha => ?_
  refine hK3 _ _ ?_; clear hK3 K3
  refine wp_seq_k fun K4 hK4 => ?_
  refine wp_region_lit ?_
  refine seg ha 2 [(5, .slice ao1 a0.length cap1), (6, .slice ao2 a1.length cap2)] (by kernel_rfl) fun a ha => ?_
  obtain ⟨t5, H5, H⟩ := bind_some H
  refine cl ha (by rfl) (by kernel_rfl) (by rfl) (by rfl) (by rfl) (bytes_Compare.walk w _ hM a0 ao1 cap1 f1 a1 ao2 cap2 f2 _ H5) ?_
  rintro _ w5 ⟨rfl, hc5, hMn⟩ a ha
  have o1 : Ok [] (M) w.heap.size := Ok.nil _ _
  have o2 : Ok (M) (M) w.heap.size := (fun _ h => .inl (h))
  have f1 := f1.chg hc5 o1 o2
  have f2 := f2.chg hc5 o1 o2
  have hM : MS (M) w5 := (fun x h => hM.chg hc5 x (h))
  have hC := hC.trans hc5 (Ok.nil _ _)
  refine seg ha 1 [(4, .int .i64 t5)] (by kernel_rfl) fun a ha => ?_
  refine hK4 _ _ ?_; clear hK4 K4
  refine wp_ret ?_
  try simp only [Exit.then, Exit.inBlock]
  obtain rfl := Option.some.inj H
  refine rt1 ha rfl rfl ?_
  exact ⟨rfl, hC, hM⟩
def addr_Compare.f (k : Nat) (a0 : S_api_Addr) (a1 : S_api_Addr) : Option (Int) := (cmp_Compare_int.f a0.Size a1.Size).bind fun t13 => (cursor_Order.f (arL 16 a0.B) (arL 16 a1.B)).bind fun t16 => (cmp_Or_int.f k ([t13, t16] : List Int)).bind fun t24 => some ((t24 : Int))
set_option maxRecDepth 100000 in
theorem addr_Compare.walk (w : World) (M : List Nat) (hM : MS M w) (a0 : S_api_Addr) (a1 : S_api_Addr) (k : Nat) (r : Int) (H : addr_Compare.f k a0 a1 = some r) :
    To Try.prog 24 [.agg (cS_api_Addr a0).toArray, .agg (cS_api_Addr a1).toArray] w fun v w' => v = .int .i64 r ∧ Chg [] w w' ∧ MS (M) w' := by
  unfold addr_Compare.f at H
  refine ent Try.func24 rfl [(0, .agg (cS_api_Addr a0).toArray), (1, .agg (cS_api_Addr a1).toArray)] rfl (by rfl) fun a ha => ?_
  have hC : Chg [] w w := Chg.refl _ _
  refine wp_seq_k fun K1 hK1 => ?_
  refine wp_region_lit ?_
  refine bx (cs := (cS_api_Addr a0)) ha rfl rfl rfl rfl rfl fun a w2 g3 hN4 ha => ?_
  have hn6 := hN4.notin hM
  have o1 : Ok [] (M) w.heap.size := Ok.nil _ _
  have o2 : Ok (M) (M) w.heap.size := (fun _ h => .inl (h))
  have hM : MS (M) w2 := (fun x h => hM.chg hN4.chg x (h))
  have hC := hC.trans hN4.chg (Ok.nil _ _)
  have hE5 : ∀ j v, (cS_api_Addr a0)[j]? = some v → w2.cell? ⟨g3, 0 + j, none⟩ = some v := Box.cells (New.box hN4)
  refine bx (cs := (cS_api_Addr a1)) ha rfl rfl rfl rfl rfl fun a w7 g8 hN9 ha => ?_
  have hn11 := hN9.notin hM
  have o1 : Ok [] (M) w2.heap.size := Ok.nil _ _
  have o2 : Ok (M) (M) w2.heap.size := (fun _ h => .inl (h))
  have q_hn6 : g3 ∉ M := fun h => (o2 g3 h).elim hn6 (fun h => absurd (lt_cell (hE5 0 _ rfl)) (Nat.not_lt.2 h))
  have hE5 : ∀ j v, (cS_api_Addr a0)[j]? = some v → w7.cell? ⟨g3, 0 + j, none⟩ = some v := fun j v hv => (cell_keep hN9.chg o1 hn6 (hE5 j v hv))
  have hn6 := q_hn6
  have hM : MS (M) w7 := (fun x h => hM.chg hN9.chg x (h))
  have hC := hC.trans hN9.chg (Ok.nil _ _)
  have hE10 : ∀ j v, (cS_api_Addr a1)[j]? = some v → w7.cell? ⟨g8, 0 + j, none⟩ = some v := Box.cells (New.box hN9)
  refine seg ha 1 [(2, .pointer (some ⟨g3, 0, none⟩)), (3, .pointer (some ⟨g8, 0, none⟩))] (by kernel_rfl) fun a ha => ?_
  refine hK1 _ _ ?_; clear hK1 K1
  refine wp_seq_k fun K12 hK12 => ?_
  refine drq 10 (fun w' => Chg [] w7 w') (by kernel_rfl) (by kernel_rfl) (fun _ h => h) ?_
  refine qp 0 (.pointer (some ⟨g3, 0, none⟩)) ha rfl rfl rfl (by kernel_rfl) fun a ha => ?_
  refine qv (v := .int .i64 a0.Size) ha rfl rfl rfl (fun w' hs => ld_run ha rfl (by kernel_rfl) (hs.keep (hE5 0 (.int .i64 a0.Size) (by kernel_rfl)))) fun a ha => ?_
  refine qp 0 (.pointer (some ⟨g8, 0, none⟩)) ha rfl rfl rfl (by kernel_rfl) fun a ha => ?_
  refine qv (v := .int .i64 a1.Size) ha rfl rfl rfl (fun w' hs => ld_run ha rfl (by kernel_rfl) (hs.keep (hE10 0 (.int .i64 a1.Size) (by kernel_rfl)))) fun a ha => ?_
  obtain ⟨t13, H13, H⟩ := bind_some H
  refine qc (.int .i64 t13) ha (by rfl) (by kernel_rfl) (by rfl) (by rfl) (by rfl) (fun w' hs => (cmp_Compare_int.walk w' _ (hM.chg hs) a0.Size a1.Size _ H13).mono fun v w'' ⟨hv, hc, _⟩ => ⟨hv, hs.trans hc (Ok.nil _ _)⟩) fun a ha => ?_
  refine qp 0 (.pointer (some ⟨g3, 0 + 1, none⟩)) ha rfl rfl rfl (by kernel_rfl) fun a ha => ?_
  have f14 : RSl (rInt .u8) 5 w7 (M) (some ⟨g3, 0 + 1, none⟩) 16 (arL 16 a0.B) := RSl.ofA [.int .i64 a0.Size] [] hE5 hn6 (by kernel_rfl) rfl
  refine qv (v := .slice (some ⟨g3, 0 + 1, none⟩) (arL 16 a0.B).length 16) ha rfl rfl rfl (fun w' hs => opk_run ha rfl rfl (fun w => by kernel_rfl)) fun a ha => ?_
  refine qp 0 (.pointer (some ⟨g8, 0 + 1, none⟩)) ha rfl rfl rfl (by kernel_rfl) fun a ha => ?_
  have f15 : RSl (rInt .u8) 5 w7 (M) (some ⟨g8, 0 + 1, none⟩) 16 (arL 16 a1.B) := RSl.ofA [.int .i64 a1.Size] [] hE10 hn11 (by kernel_rfl) rfl
  refine qv (v := .slice (some ⟨g8, 0 + 1, none⟩) (arL 16 a1.B).length 16) ha rfl rfl rfl (fun w' hs => opk_run ha rfl rfl (fun w => by kernel_rfl)) fun a ha => ?_
  obtain ⟨t16, H16, H⟩ := bind_some H
  refine qc (.int .i64 t16) ha (by rfl) (by kernel_rfl) (by rfl) (by rfl) (by rfl) (fun w' hs => (cursor_Order.walk w' _ (hM.chg hs) (arL 16 a0.B) (some ⟨g3, 0 + 1, none⟩) 16 (RSl.chg f14 hs (Ok.nil _ _) (Ok.refl _ _)) (arL 16 a1.B) (some ⟨g8, 0 + 1, none⟩) 16 (RSl.chg f15 hs (Ok.nil _ _) (Ok.refl _ _)) _ H16).mono fun v w'' ⟨hv, hc, _⟩ => ⟨hv, hs.trans hc (Ok.nil _ _)⟩) fun a ha => ?_
  refine wpQuiet_nil ?_
  intro w17 hc18
  have o1 : Ok [] (M) w7.heap.size := Ok.nil _ _
  have o2 : Ok (M) (M) w7.heap.size := (fun _ h => .inl (h))
  have f14 := f14.chg hc18 o1 o2
  have f15 := f15.chg hc18 o1 o2
  have q_hn6 : g3 ∉ M := fun h => (o2 g3 h).elim hn6 (fun h => absurd (lt_cell (hE5 0 _ rfl)) (Nat.not_lt.2 h))
  have hE5 : ∀ j v, (cS_api_Addr a0)[j]? = some v → w17.cell? ⟨g3, 0 + j, none⟩ = some v := fun j v hv => (cell_keep hc18 o1 hn6 (hE5 j v hv))
  have hn6 := q_hn6
  have q_hn11 : g8 ∉ M := fun h => (o2 g8 h).elim hn11 (fun h => absurd (lt_cell (hE10 0 _ rfl)) (Nat.not_lt.2 h))
  have hE10 : ∀ j v, (cS_api_Addr a1)[j]? = some v → w17.cell? ⟨g8, 0 + j, none⟩ = some v := fun j v hv => (cell_keep hc18 o1 hn11 (hE10 j v hv))
  have hn11 := q_hn11
  have hM : MS (M) w17 := (fun x h => hM.chg hc18 x (h))
  have hC := hC.trans hc18 (Ok.nil _ _)
  refine bsl (vals := ([.int .i64 t13, .int .i64 t16] : List Value)) (T := 3) ha rfl (([.int .i64 t13] : List Value) ++ (([.int .i64 t16] : List Value) ++ ([] : List Value))) (fun w => by kernel_rfl) rfl rfl rfl fun a w19 g20 hN21 ha => ?_
  have o1 : Ok [] (M) w17.heap.size := Ok.nil _ _
  have o2 : Ok ([g20] ++ (M)) (M) w17.heap.size := (Ok.app (hN21.ok _) (fun _ h => .inl (h)))
  have nw : Ok ([g20]) (M) w17.heap.size := (hN21.ok _)
  have p_i22_M : ∀ x ∈ [g20], x ∉ M := fun x hx hy => absurd (hM x (hy)) (Nat.not_lt.2 ((hN21.ge1) x hx))
  have e_i22 : ∀ x ∈ [g20], w.heap.size ≤ x := fun x hx => Nat.le_trans hC.size ((hN21.ge1) x hx)
  have hM : MS ([g20] ++ (M)) w19 := (MS.app hN21.ms (fun x h => hM.chg hN21.chg x (h)))
  have hC := hC.trans hN21.chg (Ok.nil _ _)
  have f23 : Own (rInt .i64) 3 w19 ([g20] ++ (M)) (some ⟨g20, 0, none⟩) 2 ([t13, t16] : List Int) := hN21.own ⟨([.int .i64 t13] : List Value), _, rfl, rfl, ⟨([.int .i64 t16] : List Value), _, rfl, rfl, rfl⟩⟩ (Nat.le_of_ble_eq_true rfl)
  have fz := f23.toRSl (M' := M) (fun _ h => .inl (mr (h))) (fun x hx hm => p_i22_M x hx hm)
  have o1 : Ok [] ([g20] ++ (M)) w19.heap.size := Ok.nil _ _
  have o2 : Ok (M) ([g20] ++ (M)) w19.heap.size := (fun _ h => .inl (mr (h)))
  have hM : MS (M) w19 := (fun x h => hM.chg (Chg.refl [] _) x (mr (h)))
  have hC := hC.trans (Chg.refl [] _) (Ok.nil _ _)
  have f23 := fz
  obtain ⟨t24, H24, H⟩ := bind_some H
  refine cl ha (by rfl) (by kernel_rfl) (by rfl) (by rfl) (by rfl) (cmp_Or_int.walk w19 _ hM ([t13, t16] : List Int) (some ⟨g20, 0, none⟩) 2 f23 k _ H24) ?_
  rintro _ w24 ⟨rfl, hc24, hMn⟩ a ha
  have o1 : Ok [] (M) w19.heap.size := Ok.nil _ _
  have o2 : Ok (M) (M) w19.heap.size := (fun _ h => .inl (h))
  have f23 := f23.chg hc24 o1 o2
  have hM : MS (M) w24 := (fun x h => hM.chg hc24 x (h))
  have hC := hC.trans hc24 (Ok.nil _ _)
  refine seg ha 1 [(4, .int .i64 t24)] (by kernel_rfl) fun a ha => ?_
  refine hK12 _ _ ?_; clear hK12 K12
  refine wp_ret ?_
  try simp only [Exit.then, Exit.inBlock]
  obtain rfl := Option.some.inj H
  refine rt1 ha rfl rfl ?_
  exact ⟨rfl, hC, hM⟩
def decide_Compare.f (k : Nat) (a0 : S_api_Choice) (a1 : S_api_Choice) : Option (Int) := (some (() : Unit)).bind fun s23 => (decide_or.f a1.Route.Attrs.Pref (100 : Int)).bind fun t26 => (decide_or.f a0.Route.Attrs.Pref (100 : Int)).bind fun t27 => (cmp_Compare_int.f t26 t27).bind fun t28 => (decide_Length.f k a0.Route.Attrs.Path).bind fun t29 => (decide_Length.f k a1.Route.Attrs.Path).bind fun t30 => (cmp_Compare_int.f t29 t30).bind fun t31 => (cmp_Compare_int.f a0.Route.Attrs.Origin a1.Route.Attrs.Origin).bind fun t32 => (decide_or.f a0.Route.Attrs.Med (0 : Int)).bind fun t33 => (decide_or.f a1.Route.Attrs.Med (0 : Int)).bind fun t34 => (cmp_Compare_int.f t33 t34).bind fun t35 => (cmp_Or_int.f k ([t28, t31, t32, t35] : List Int)).bind fun t43 => (if (t43 != (0 : Int)) = true then some ((t43 : Int)) else (decide_here.f a0).bind fun t48 => (decide_here.f a1).bind fun t49 => (cmp_Compare_int.f t48 t49).bind fun t50 => (decide_teller.f a0).bind fun t51 => (decide_teller.f a1).bind fun t52 => (addr_Compare.f k t51 t52).bind fun t53 => (cmp_Compare_int.f (a0.Route.Attrs.Clusters.length : Int) (a1.Route.Attrs.Clusters.length : Int)).bind fun t54 => (cmp_Compare_int.f a0.Peer a1.Peer).bind fun t55 => (cmp_Or_int.f k ([t50, t53, t54, t55] : List Int)).bind fun t63 => some ((t63 : Int)))
set_option maxRecDepth 100000 in
theorem decide_Compare.walk (w : World) (M : List Nat) (hM : MS M w) (a0 : S_api_Choice) (ao1 : Option Addr) (cap1 : Nat) (f1 : RSl rS_api_Segment 58 w M ao1 cap1 a0.Route.Attrs.Path) (ao2 : Option Addr) (cap2 : Nat) (f2 : RSl rS_api_Addr 26 w M ao2 cap2 a0.Route.Attrs.Clusters) (ao3 : Option Addr) (cap3 : Nat) (f3 : RSl (rArr .u8 8) 81 w M ao3 cap3 a0.Route.Attrs.Exts) (ao4 : Option Addr) (cap4 : Nat) (f4 : RSl rS_api_Tunnel 70 w M ao4 cap4 a0.Route.Attrs.Tunnels) (a1 : S_api_Choice) (ao5 : Option Addr) (cap5 : Nat) (f5 : RSl rS_api_Segment 58 w M ao5 cap5 a1.Route.Attrs.Path) (ao6 : Option Addr) (cap6 : Nat) (f6 : RSl rS_api_Addr 26 w M ao6 cap6 a1.Route.Attrs.Clusters) (ao7 : Option Addr) (cap7 : Nat) (f7 : RSl (rArr .u8 8) 81 w M ao7 cap7 a1.Route.Attrs.Exts) (ao8 : Option Addr) (cap8 : Nat) (f8 : RSl rS_api_Tunnel 70 w M ao8 cap8 a1.Route.Attrs.Tunnels) (k : Nat) (r : Int) (H : decide_Compare.f k a0 a1 = some r) :
    To Try.prog 9 [.agg (cS_api_Choice a0 ao1 cap1 ao2 cap2 ao3 cap3 ao4 cap4).toArray, .agg (cS_api_Choice a1 ao5 cap5 ao6 cap6 ao7 cap7 ao8 cap8).toArray] w fun v w' => v = .int .i64 r ∧ Chg [] w w' ∧ MS (M) w' := by
  unfold decide_Compare.f at H
  refine ent Try.func9 rfl [(0, .agg (cS_api_Choice a0 ao1 cap1 ao2 cap2 ao3 cap3 ao4 cap4).toArray), (1, .agg (cS_api_Choice a1 ao5 cap5 ao6 cap6 ao7 cap7 ao8 cap8).toArray)] rfl (by rfl) fun a ha => ?_
  have hC : Chg [] w w := Chg.refl _ _
  refine wp_seq_k fun K9 hK9 => ?_
  refine wp_region_lit ?_
  refine bx (cs := (cS_api_Choice a0 ao1 cap1 ao2 cap2 ao3 cap3 ao4 cap4)) ha rfl rfl rfl rfl rfl fun a w10 g11 hN12 ha => ?_
  have hn14 := hN12.notin hM
  have o1 : Ok [] (M) w.heap.size := Ok.nil _ _
  have o2 : Ok (M) (M) w.heap.size := (fun _ h => .inl (h))
  have f1 := f1.chg hN12.chg o1 o2
  have f2 := f2.chg hN12.chg o1 o2
  have f3 := f3.chg hN12.chg o1 o2
  have f4 := f4.chg hN12.chg o1 o2
  have f5 := f5.chg hN12.chg o1 o2
  have f6 := f6.chg hN12.chg o1 o2
  have f7 := f7.chg hN12.chg o1 o2
  have f8 := f8.chg hN12.chg o1 o2
  have hM : MS (M) w10 := (fun x h => hM.chg hN12.chg x (h))
  have hC := hC.trans hN12.chg (Ok.nil _ _)
  have hE13 : ∀ j v, (cS_api_Choice a0 ao1 cap1 ao2 cap2 ao3 cap3 ao4 cap4)[j]? = some v → w10.cell? ⟨g11, 0 + j, none⟩ = some v := Box.cells (New.box hN12)
  refine bx (cs := (cS_api_Choice a1 ao5 cap5 ao6 cap6 ao7 cap7 ao8 cap8)) ha rfl rfl rfl rfl rfl fun a w15 g16 hN17 ha => ?_
  have hn19 := hN17.notin hM
  have o1 : Ok [] (M) w10.heap.size := Ok.nil _ _
  have o2 : Ok (M) (M) w10.heap.size := (fun _ h => .inl (h))
  have f5 := f5.chg hN17.chg o1 o2
  have f6 := f6.chg hN17.chg o1 o2
  have f7 := f7.chg hN17.chg o1 o2
  have f8 := f8.chg hN17.chg o1 o2
  have f1 := f1.chg hN17.chg o1 o2
  have f2 := f2.chg hN17.chg o1 o2
  have f3 := f3.chg hN17.chg o1 o2
  have f4 := f4.chg hN17.chg o1 o2
  have q_hn14 : g11 ∉ M := fun h => (o2 g11 h).elim hn14 (fun h => absurd (lt_cell (hE13 0 _ rfl)) (Nat.not_lt.2 h))
  have hE13 : ∀ j v, (cS_api_Choice a0 ao1 cap1 ao2 cap2 ao3 cap3 ao4 cap4)[j]? = some v → w15.cell? ⟨g11, 0 + j, none⟩ = some v := fun j v hv => (cell_keep hN17.chg o1 hn14 (hE13 j v hv))
  have hn14 := q_hn14
  have hM : MS (M) w15 := (fun x h => hM.chg hN17.chg x (h))
  have hC := hC.trans hN17.chg (Ok.nil _ _)
  have hE18 : ∀ j v, (cS_api_Choice a1 ao5 cap5 ao6 cap6 ao7 cap7 ao8 cap8)[j]? = some v → w15.cell? ⟨g16, 0 + j, none⟩ = some v := Box.cells (New.box hN17)
  refine seg ha 1 [(2, .pointer (some ⟨g11, 0, none⟩)), (3, .pointer (some ⟨g16, 0, none⟩))] (by kernel_rfl) fun a ha => ?_
  refine hK9 _ _ ?_; clear hK9 K9
  refine wp_seq_k fun K20 hK20 => ?_
  have z_f1 := f1
  have z_f2 := f2
  have z_f3 := f3
  have z_f4 := f4
  have z_f5 := f5
  have z_f6 := f6
  have z_f7 := f7
  have z_f8 := f8
  have z_hE13 := hE13
  have z_hn14 := hn14
  have z_hE18 := hE18
  have z_hn19 := hn19
  have okS : Ok [] (M) w15.heap.size := Ok.nil _ _
  refine drw (fun w' => Chg [] w15 w') (by kernel_rfl) fun w21 hc22 _ => ?_
  have hS : Chg [] w15 w21 := (Chg.refl [] _).trans hc22 (Ok.nil _ _)
  have o1 : Ok [] (M) w15.heap.size := Ok.nil _ _
  have o2 : Ok (M) (M) w15.heap.size := (fun _ h => .inl (h))
  have f1 := f1.chg hc22 o1 o2
  have f2 := f2.chg hc22 o1 o2
  have f3 := f3.chg hc22 o1 o2
  have f4 := f4.chg hc22 o1 o2
  have f5 := f5.chg hc22 o1 o2
  have f6 := f6.chg hc22 o1 o2
  have f7 := f7.chg hc22 o1 o2
  have f8 := f8.chg hc22 o1 o2
  have q_hn14 : g11 ∉ M := fun h => (o2 g11 h).elim hn14 (fun h => absurd (lt_cell (hE13 0 _ rfl)) (Nat.not_lt.2 h))
  have hE13 : ∀ j v, (cS_api_Choice a0 ao1 cap1 ao2 cap2 ao3 cap3 ao4 cap4)[j]? = some v → w21.cell? ⟨g11, 0 + j, none⟩ = some v := fun j v hv => (cell_keep hc22 o1 hn14 (hE13 j v hv))
  have hn14 := q_hn14
  have q_hn19 : g16 ∉ M := fun h => (o2 g16 h).elim hn19 (fun h => absurd (lt_cell (hE18 0 _ rfl)) (Nat.not_lt.2 h))
  have hE18 : ∀ j v, (cS_api_Choice a1 ao5 cap5 ao6 cap6 ao7 cap7 ao8 cap8)[j]? = some v → w21.cell? ⟨g16, 0 + j, none⟩ = some v := fun j v hv => (cell_keep hc22 o1 hn19 (hE18 j v hv))
  have hn19 := q_hn19
  have hM : MS (M) w21 := (fun x h => hM.chg hc22 x (h))
  have hC := hC.trans hc22 (Ok.nil _ _)
  obtain ⟨s23, H23, H⟩ := bind_some H
  have J23 : ∀ (a : Act) (w23 : World) (gd5 : Nat) (gd6 : Nat), Has a Try.f9.ntmps [(2, .pointer (some ⟨g11, 0, none⟩)), (3, .pointer (some ⟨g16, 0, none⟩)), (5, .pointer (some ⟨gd5, 0, none⟩)), (6, .pointer (some ⟨gd6, 0, none⟩))] → (RSl rS_api_Segment 58 w23 ([gd6] ++ ([gd5] ++ (M))) ao1 cap1 a0.Route.Attrs.Path) → (RSl rS_api_Addr 26 w23 ([gd6] ++ ([gd5] ++ (M))) ao2 cap2 a0.Route.Attrs.Clusters) → (RSl (rArr .u8 8) 81 w23 ([gd6] ++ ([gd5] ++ (M))) ao3 cap3 a0.Route.Attrs.Exts) → (RSl rS_api_Tunnel 70 w23 ([gd6] ++ ([gd5] ++ (M))) ao4 cap4 a0.Route.Attrs.Tunnels) → (RSl rS_api_Segment 58 w23 ([gd6] ++ ([gd5] ++ (M))) ao5 cap5 a1.Route.Attrs.Path) → (RSl rS_api_Addr 26 w23 ([gd6] ++ ([gd5] ++ (M))) ao6 cap6 a1.Route.Attrs.Clusters) → (RSl (rArr .u8 8) 81 w23 ([gd6] ++ ([gd5] ++ (M))) ao7 cap7 a1.Route.Attrs.Exts) → (RSl rS_api_Tunnel 70 w23 ([gd6] ++ ([gd5] ++ (M))) ao8 cap8 a1.Route.Attrs.Tunnels) → (Box w23 gd5 (cS_api_Attrs a0.Route.Attrs ao1 cap1 ao2 cap2 ao3 cap3 ao4 cap4)) → (Box w23 gd6 (cS_api_Attrs a1.Route.Attrs ao5 cap5 ao6 cap6 ao7 cap7 ao8 cap8)) → (∀ j v, (cS_api_Choice a0 ao1 cap1 ao2 cap2 ao3 cap3 ao4 cap4)[j]? = some v → w23.cell? ⟨g11, 0 + j, none⟩ = some v) → (g11 ∉ ([gd6] ++ ([gd5] ++ (M)))) → (∀ j v, (cS_api_Choice a1 ao5 cap5 ao6 cap6 ao7 cap7 ao8 cap8)[j]? = some v → w23.cell? ⟨g16, 0 + j, none⟩ = some v) → (g16 ∉ ([gd6] ++ ([gd5] ++ (M)))) → (∀ x ∈ [gd6], w.heap.size ≤ x) → (∀ x ∈ [gd6], x ∉ [gd5]) → (∀ x ∈ [gd6], x ∉ M) → (∀ x ∈ [gd5], w.heap.size ≤ x) → (∀ x ∈ [gd5], x ∉ M) → (Chg [] w w23) → (MS ([gd6] ++ ([gd5] ++ (M))) w23) → K20 a w23 := by
    intro a w23 gd5 gd6 ha f1 f2 f3 f4 f5 f6 f7 f8 hBgd5 hBgd6 hE13 hn14 hE18 hn19 e_i9006 p_i9006_i9005 p_i9006_M e_i9005 p_i9005_M hC hM
    refine hK20 _ _ ?_; clear hK20 K20
    refine wp_seq_k fun K24 hK24 => ?_
    refine wp_seq_k fun K25 hK25 => ?_
    refine drq 26 (fun w' => Chg [] w23 w') (by kernel_rfl) (by kernel_rfl) (fun _ h => h) ?_
    refine qp 0 (.pointer (some ⟨gd6, 3, none⟩)) ha rfl rfl rfl (by kernel_rfl) fun a ha => ?_
    refine qv (v := .int .i64 a1.Route.Attrs.Pref) ha rfl rfl rfl (fun w' hs => ld_run ha rfl (by kernel_rfl) ((Box.chg hBgd6 hs (fun h => nomatch h)).cell' (o := 3) rfl (by kernel_rfl))) fun a ha => ?_
    obtain ⟨t26, H26, H⟩ := bind_some H
    refine qc (.int .i64 t26) ha (by rfl) (by kernel_rfl) (by rfl) (by rfl) (by rfl) (fun w' hs => (decide_or.walk w' _ (hM.chg hs) a1.Route.Attrs.Pref (100 : Int) _ H26).mono fun v w'' ⟨hv, hc, _⟩ => ⟨hv, hs.trans hc (Ok.nil _ _)⟩) fun a ha => ?_
    refine qp 0 (.pointer (some ⟨gd5, 3, none⟩)) ha rfl rfl rfl (by kernel_rfl) fun a ha => ?_
    refine qv (v := .int .i64 a0.Route.Attrs.Pref) ha rfl rfl rfl (fun w' hs => ld_run ha rfl (by kernel_rfl) ((Box.chg hBgd5 hs (fun h => nomatch h)).cell' (o := 3) rfl (by kernel_rfl))) fun a ha => ?_
    obtain ⟨t27, H27, H⟩ := bind_some H
    refine qc (.int .i64 t27) ha (by rfl) (by kernel_rfl) (by rfl) (by rfl) (by rfl) (fun w' hs => (decide_or.walk w' _ (hM.chg hs) a0.Route.Attrs.Pref (100 : Int) _ H27).mono fun v w'' ⟨hv, hc, _⟩ => ⟨hv, hs.trans hc (Ok.nil _ _)⟩) fun a ha => ?_
    obtain ⟨t28, H28, H⟩ := bind_some H
    refine qc (.int .i64 t28) ha (by rfl) (by kernel_rfl) (by rfl) (by rfl) (by rfl) (fun w' hs => (cmp_Compare_int.walk w' _ (hM.chg hs) t26 t27 _ H28).mono fun v w'' ⟨hv, hc, _⟩ => ⟨hv, hs.trans hc (Ok.nil _ _)⟩) fun a ha => ?_
    refine qp 0 (.pointer (some ⟨gd5, 1, none⟩)) ha rfl rfl rfl (by kernel_rfl) fun a ha => ?_
    refine qv (v := .slice ao1 a0.Route.Attrs.Path.length cap1) ha rfl rfl rfl (fun w' hs => ld_run ha rfl (by kernel_rfl) ((Box.chg hBgd5 hs (fun h => nomatch h)).cell' (o := 1) rfl (by kernel_rfl))) fun a ha => ?_
    obtain ⟨t29, H29, H⟩ := bind_some H
    refine qc (.int .i64 t29) ha (by rfl) (by kernel_rfl) (by rfl) (by rfl) (by rfl) (fun w' hs => (decide_Length.walk w' _ (hM.chg hs) a0.Route.Attrs.Path ao1 cap1 (RSl.chg f1 hs (Ok.nil _ _) (Ok.refl _ _)) k _ H29).mono fun v w'' ⟨hv, hc, _⟩ => ⟨hv, hs.trans hc (Ok.nil _ _)⟩) fun a ha => ?_
    refine qp 0 (.pointer (some ⟨gd6, 1, none⟩)) ha rfl rfl rfl (by kernel_rfl) fun a ha => ?_
    refine qv (v := .slice ao5 a1.Route.Attrs.Path.length cap5) ha rfl rfl rfl (fun w' hs => ld_run ha rfl (by kernel_rfl) ((Box.chg hBgd6 hs (fun h => nomatch h)).cell' (o := 1) rfl (by kernel_rfl))) fun a ha => ?_
    obtain ⟨t30, H30, H⟩ := bind_some H
    refine qc (.int .i64 t30) ha (by rfl) (by kernel_rfl) (by rfl) (by rfl) (by rfl) (fun w' hs => (decide_Length.walk w' _ (hM.chg hs) a1.Route.Attrs.Path ao5 cap5 (RSl.chg f5 hs (Ok.nil _ _) (Ok.refl _ _)) k _ H30).mono fun v w'' ⟨hv, hc, _⟩ => ⟨hv, hs.trans hc (Ok.nil _ _)⟩) fun a ha => ?_
    obtain ⟨t31, H31, H⟩ := bind_some H
    refine qc (.int .i64 t31) ha (by rfl) (by kernel_rfl) (by rfl) (by rfl) (by rfl) (fun w' hs => (cmp_Compare_int.walk w' _ (hM.chg hs) t29 t30 _ H31).mono fun v w'' ⟨hv, hc, _⟩ => ⟨hv, hs.trans hc (Ok.nil _ _)⟩) fun a ha => ?_
    refine qp 0 (.pointer (some ⟨gd5, 0, none⟩)) ha rfl rfl rfl (by kernel_rfl) fun a ha => ?_
    refine qv (v := .int .i64 a0.Route.Attrs.Origin) ha rfl rfl rfl (fun w' hs => ld_run ha rfl (by kernel_rfl) ((Box.chg hBgd5 hs (fun h => nomatch h)).cell' (o := 0) rfl (by kernel_rfl))) fun a ha => ?_
    refine qp 0 (.pointer (some ⟨gd6, 0, none⟩)) ha rfl rfl rfl (by kernel_rfl) fun a ha => ?_
    refine qv (v := .int .i64 a1.Route.Attrs.Origin) ha rfl rfl rfl (fun w' hs => ld_run ha rfl (by kernel_rfl) ((Box.chg hBgd6 hs (fun h => nomatch h)).cell' (o := 0) rfl (by kernel_rfl))) fun a ha => ?_
    obtain ⟨t32, H32, H⟩ := bind_some H
    refine qc (.int .i64 t32) ha (by rfl) (by kernel_rfl) (by rfl) (by rfl) (by rfl) (fun w' hs => (cmp_Compare_int.walk w' _ (hM.chg hs) a0.Route.Attrs.Origin a1.Route.Attrs.Origin _ H32).mono fun v w'' ⟨hv, hc, _⟩ => ⟨hv, hs.trans hc (Ok.nil _ _)⟩) fun a ha => ?_
    refine qp 0 (.pointer (some ⟨gd5, 2, none⟩)) ha rfl rfl rfl (by kernel_rfl) fun a ha => ?_
    refine qv (v := .int .i64 a0.Route.Attrs.Med) ha rfl rfl rfl (fun w' hs => ld_run ha rfl (by kernel_rfl) ((Box.chg hBgd5 hs (fun h => nomatch h)).cell' (o := 2) rfl (by kernel_rfl))) fun a ha => ?_
    obtain ⟨t33, H33, H⟩ := bind_some H
    refine qc (.int .i64 t33) ha (by rfl) (by kernel_rfl) (by rfl) (by rfl) (by rfl) (fun w' hs => (decide_or.walk w' _ (hM.chg hs) a0.Route.Attrs.Med (0 : Int) _ H33).mono fun v w'' ⟨hv, hc, _⟩ => ⟨hv, hs.trans hc (Ok.nil _ _)⟩) fun a ha => ?_
    refine qp 0 (.pointer (some ⟨gd6, 2, none⟩)) ha rfl rfl rfl (by kernel_rfl) fun a ha => ?_
    refine qv (v := .int .i64 a1.Route.Attrs.Med) ha rfl rfl rfl (fun w' hs => ld_run ha rfl (by kernel_rfl) ((Box.chg hBgd6 hs (fun h => nomatch h)).cell' (o := 2) rfl (by kernel_rfl))) fun a ha => ?_
    obtain ⟨t34, H34, H⟩ := bind_some H
    refine qc (.int .i64 t34) ha (by rfl) (by kernel_rfl) (by rfl) (by rfl) (by rfl) (fun w' hs => (decide_or.walk w' _ (hM.chg hs) a1.Route.Attrs.Med (0 : Int) _ H34).mono fun v w'' ⟨hv, hc, _⟩ => ⟨hv, hs.trans hc (Ok.nil _ _)⟩) fun a ha => ?_
    obtain ⟨t35, H35, H⟩ := bind_some H
    refine qc (.int .i64 t35) ha (by rfl) (by kernel_rfl) (by rfl) (by rfl) (by rfl) (fun w' hs => (cmp_Compare_int.walk w' _ (hM.chg hs) t33 t34 _ H35).mono fun v w'' ⟨hv, hc, _⟩ => ⟨hv, hs.trans hc (Ok.nil _ _)⟩) fun a ha => ?_
    refine wpQuiet_nil ?_
    intro w36 hc37
    have o1 : Ok [] ([gd6] ++ ([gd5] ++ (M))) w23.heap.size := Ok.nil _ _
    have o2 : Ok ([gd6] ++ ([gd5] ++ (M))) ([gd6] ++ ([gd5] ++ (M))) w23.heap.size := (Ok.app (fun _ h => .inl (ml h)) (Ok.app (fun _ h => .inl (mr (ml h))) (fun _ h => .inl (mr (mr (h))))))
    have f1 := f1.chg hc37 o1 o2
    have f2 := f2.chg hc37 o1 o2
    have f3 := f3.chg hc37 o1 o2
    have f4 := f4.chg hc37 o1 o2
    have f5 := f5.chg hc37 o1 o2
    have f6 := f6.chg hc37 o1 o2
    have f7 := f7.chg hc37 o1 o2
    have f8 := f8.chg hc37 o1 o2
    have hBgd5 := hBgd5.chg hc37 (fun h => nomatch h)
    have hBgd6 := hBgd6.chg hc37 (fun h => nomatch h)
    have q_hn14 : g11 ∉ [gd6] ++ ([gd5] ++ (M)) := fun h => (o2 g11 h).elim hn14 (fun h => absurd (lt_cell (hE13 0 _ rfl)) (Nat.not_lt.2 h))
    have hE13 : ∀ j v, (cS_api_Choice a0 ao1 cap1 ao2 cap2 ao3 cap3 ao4 cap4)[j]? = some v → w36.cell? ⟨g11, 0 + j, none⟩ = some v := fun j v hv => (cell_keep hc37 o1 hn14 (hE13 j v hv))
    have hn14 := q_hn14
    have q_hn19 : g16 ∉ [gd6] ++ ([gd5] ++ (M)) := fun h => (o2 g16 h).elim hn19 (fun h => absurd (lt_cell (hE18 0 _ rfl)) (Nat.not_lt.2 h))
    have hE18 : ∀ j v, (cS_api_Choice a1 ao5 cap5 ao6 cap6 ao7 cap7 ao8 cap8)[j]? = some v → w36.cell? ⟨g16, 0 + j, none⟩ = some v := fun j v hv => (cell_keep hc37 o1 hn19 (hE18 j v hv))
    have hn19 := q_hn19
    have hM : MS ([gd6] ++ ([gd5] ++ (M))) w36 := (MS.app (fun x h => hM.chg hc37 x (ml h)) (MS.app (fun x h => hM.chg hc37 x (mr (ml h))) (fun x h => hM.chg hc37 x (mr (mr (h))))))
    have hC := hC.trans hc37 (Ok.nil _ _)
    refine bsl (vals := ([.int .i64 t28, .int .i64 t31, .int .i64 t32, .int .i64 t35] : List Value)) (T := 3) ha rfl (([.int .i64 t28] : List Value) ++ (([.int .i64 t31] : List Value) ++ (([.int .i64 t32] : List Value) ++ (([.int .i64 t35] : List Value) ++ ([] : List Value))))) (fun w => by kernel_rfl) rfl rfl rfl fun a w38 g39 hN40 ha => ?_
    have o1 : Ok [] ([gd6] ++ ([gd5] ++ (M))) w36.heap.size := Ok.nil _ _
    have o2 : Ok ([g39] ++ ([gd6] ++ ([gd5] ++ (M)))) ([gd6] ++ ([gd5] ++ (M))) w36.heap.size := (Ok.app (hN40.ok _) (Ok.app (fun _ h => .inl (ml h)) (Ok.app (fun _ h => .inl (mr (ml h))) (fun _ h => .inl (mr (mr (h)))))))
    have f1 := f1.chg hN40.chg o1 o2
    have f2 := f2.chg hN40.chg o1 o2
    have f3 := f3.chg hN40.chg o1 o2
    have f4 := f4.chg hN40.chg o1 o2
    have f5 := f5.chg hN40.chg o1 o2
    have f6 := f6.chg hN40.chg o1 o2
    have f7 := f7.chg hN40.chg o1 o2
    have f8 := f8.chg hN40.chg o1 o2
    have hBgd5 := hBgd5.chg hN40.chg (fun h => nomatch h)
    have hBgd6 := hBgd6.chg hN40.chg (fun h => nomatch h)
    have q_hn14 : g11 ∉ [g39] ++ ([gd6] ++ ([gd5] ++ (M))) := fun h => (o2 g11 h).elim hn14 (fun h => absurd (lt_cell (hE13 0 _ rfl)) (Nat.not_lt.2 h))
    have hE13 : ∀ j v, (cS_api_Choice a0 ao1 cap1 ao2 cap2 ao3 cap3 ao4 cap4)[j]? = some v → w38.cell? ⟨g11, 0 + j, none⟩ = some v := fun j v hv => (cell_keep hN40.chg o1 hn14 (hE13 j v hv))
    have hn14 := q_hn14
    have q_hn19 : g16 ∉ [g39] ++ ([gd6] ++ ([gd5] ++ (M))) := fun h => (o2 g16 h).elim hn19 (fun h => absurd (lt_cell (hE18 0 _ rfl)) (Nat.not_lt.2 h))
    have hE18 : ∀ j v, (cS_api_Choice a1 ao5 cap5 ao6 cap6 ao7 cap7 ao8 cap8)[j]? = some v → w38.cell? ⟨g16, 0 + j, none⟩ = some v := fun j v hv => (cell_keep hN40.chg o1 hn19 (hE18 j v hv))
    have hn19 := q_hn19
    have nw : Ok ([g39]) ([gd6] ++ ([gd5] ++ (M))) w36.heap.size := (hN40.ok _)
    have p_i9006_i41 : ∀ x ∈ [gd6], x ∉ ([g39]) := fun x hy hx => absurd (hM x (ml hy)) (Nat.not_lt.2 ((hN40.ge1) x hx))
    have p_i9005_i41 : ∀ x ∈ [gd5], x ∉ ([g39]) := fun x hy hx => absurd (hM x (mr (ml hy))) (Nat.not_lt.2 ((hN40.ge1) x hx))
    have p_i41_M : ∀ x ∈ [g39], x ∉ M := fun x hx hy => absurd (hM x (mr (mr (hy)))) (Nat.not_lt.2 ((hN40.ge1) x hx))
    have e_i41 : ∀ x ∈ [g39], w.heap.size ≤ x := fun x hx => Nat.le_trans hC.size ((hN40.ge1) x hx)
    have hM : MS ([g39] ++ ([gd6] ++ ([gd5] ++ (M)))) w38 := (MS.app hN40.ms (MS.app (fun x h => hM.chg hN40.chg x (ml h)) (MS.app (fun x h => hM.chg hN40.chg x (mr (ml h))) (fun x h => hM.chg hN40.chg x (mr (mr (h)))))))
    have hC := hC.trans hN40.chg (Ok.nil _ _)
    have f42 : Own (rInt .i64) 3 w38 ([g39] ++ ([gd6] ++ ([gd5] ++ (M)))) (some ⟨g39, 0, none⟩) 4 ([t28, t31, t32, t35] : List Int) := hN40.own ⟨([.int .i64 t28] : List Value), _, rfl, rfl, ⟨([.int .i64 t31] : List Value), _, rfl, rfl, ⟨([.int .i64 t32] : List Value), _, rfl, rfl, ⟨([.int .i64 t35] : List Value), _, rfl, rfl, rfl⟩⟩⟩⟩ (Nat.le_of_ble_eq_true rfl)
    have fz := f42.toRSl (M' := [gd6] ++ ([gd5] ++ (M))) (Ok.app (fun _ h => .inl (mr (ml h))) (Ok.app (fun _ h => .inl (mr (mr (ml h)))) (fun _ h => .inl (mr (mr (mr (h))))))) (fun x hx hm => (List.mem_append.1 hm).elim (fun h => (fun x hx hy => p_i9006_i41 x hy hx) x hx h) (fun h => (List.mem_append.1 h).elim (fun h => (fun x hx hy => p_i9005_i41 x hy hx) x hx h) (fun h => p_i41_M x hx h)))
    have o1 : Ok [] ([g39] ++ ([gd6] ++ ([gd5] ++ (M)))) w38.heap.size := Ok.nil _ _
    have o2 : Ok ([gd6] ++ ([gd5] ++ (M))) ([g39] ++ ([gd6] ++ ([gd5] ++ (M)))) w38.heap.size := (Ok.app (fun _ h => .inl (mr (ml h))) (Ok.app (fun _ h => .inl (mr (mr (ml h)))) (fun _ h => .inl (mr (mr (mr (h)))))))
    have f1 := f1.chg (Chg.refl [] _) o1 o2
    have f2 := f2.chg (Chg.refl [] _) o1 o2
    have f3 := f3.chg (Chg.refl [] _) o1 o2
    have f4 := f4.chg (Chg.refl [] _) o1 o2
    have f5 := f5.chg (Chg.refl [] _) o1 o2
    have f6 := f6.chg (Chg.refl [] _) o1 o2
    have f7 := f7.chg (Chg.refl [] _) o1 o2
    have f8 := f8.chg (Chg.refl [] _) o1 o2
    have hBgd5 := hBgd5.chg (Chg.refl [] _) (fun h => nomatch h)
    have hBgd6 := hBgd6.chg (Chg.refl [] _) (fun h => nomatch h)
    have q_hn14 : g11 ∉ [gd6] ++ ([gd5] ++ (M)) := fun h => (o2 g11 h).elim hn14 (fun h => absurd (lt_cell (hE13 0 _ rfl)) (Nat.not_lt.2 h))
    have hE13 : ∀ j v, (cS_api_Choice a0 ao1 cap1 ao2 cap2 ao3 cap3 ao4 cap4)[j]? = some v → w38.cell? ⟨g11, 0 + j, none⟩ = some v := fun j v hv => (cell_keep (Chg.refl [] _) o1 hn14 (hE13 j v hv))
    have hn14 := q_hn14
    have q_hn19 : g16 ∉ [gd6] ++ ([gd5] ++ (M)) := fun h => (o2 g16 h).elim hn19 (fun h => absurd (lt_cell (hE18 0 _ rfl)) (Nat.not_lt.2 h))
    have hE18 : ∀ j v, (cS_api_Choice a1 ao5 cap5 ao6 cap6 ao7 cap7 ao8 cap8)[j]? = some v → w38.cell? ⟨g16, 0 + j, none⟩ = some v := fun j v hv => (cell_keep (Chg.refl [] _) o1 hn19 (hE18 j v hv))
    have hn19 := q_hn19
    have hM : MS ([gd6] ++ ([gd5] ++ (M))) w38 := (MS.app (fun x h => hM.chg (Chg.refl [] _) x (mr (ml h))) (MS.app (fun x h => hM.chg (Chg.refl [] _) x (mr (mr (ml h)))) (fun x h => hM.chg (Chg.refl [] _) x (mr (mr (mr (h)))))))
    have hC := hC.trans (Chg.refl [] _) (Ok.nil _ _)
    have f42 := fz
    obtain ⟨t43, H43, H⟩ := bind_some H
    refine cl ha (by rfl) (by kernel_rfl) (by rfl) (by rfl) (by rfl) (cmp_Or_int.walk w38 _ hM ([t28, t31, t32, t35] : List Int) (some ⟨g39, 0, none⟩) 4 f42 k _ H43) ?_
    rintro _ w43 ⟨rfl, hc43, hMn⟩ a ha
    have o1 : Ok [] ([gd6] ++ ([gd5] ++ (M))) w38.heap.size := Ok.nil _ _
    have o2 : Ok ([gd6] ++ ([gd5] ++ (M))) ([gd6] ++ ([gd5] ++ (M))) w38.heap.size := (Ok.app (fun _ h => .inl (ml h)) (Ok.app (fun _ h => .inl (mr (ml h))) (fun _ h => .inl (mr (mr (h))))))
    have f1 := f1.chg hc43 o1 o2
    have f2 := f2.chg hc43 o1 o2
    have f3 := f3.chg hc43 o1 o2
    have f4 := f4.chg hc43 o1 o2
    have f5 := f5.chg hc43 o1 o2
    have f6 := f6.chg hc43 o1 o2
    have f7 := f7.chg hc43 o1 o2
    have f8 := f8.chg hc43 o1 o2
    have f42 := f42.chg hc43 o1 o2
    have hBgd5 := hBgd5.chg hc43 (fun h => nomatch h)
    have hBgd6 := hBgd6.chg hc43 (fun h => nomatch h)
    have q_hn14 : g11 ∉ [gd6] ++ ([gd5] ++ (M)) := fun h => (o2 g11 h).elim hn14 (fun h => absurd (lt_cell (hE13 0 _ rfl)) (Nat.not_lt.2 h))
    have hE13 : ∀ j v, (cS_api_Choice a0 ao1 cap1 ao2 cap2 ao3 cap3 ao4 cap4)[j]? = some v → w43.cell? ⟨g11, 0 + j, none⟩ = some v := fun j v hv => (cell_keep hc43 o1 hn14 (hE13 j v hv))
    have hn14 := q_hn14
    have q_hn19 : g16 ∉ [gd6] ++ ([gd5] ++ (M)) := fun h => (o2 g16 h).elim hn19 (fun h => absurd (lt_cell (hE18 0 _ rfl)) (Nat.not_lt.2 h))
    have hE18 : ∀ j v, (cS_api_Choice a1 ao5 cap5 ao6 cap6 ao7 cap7 ao8 cap8)[j]? = some v → w43.cell? ⟨g16, 0 + j, none⟩ = some v := fun j v hv => (cell_keep hc43 o1 hn19 (hE18 j v hv))
    have hn19 := q_hn19
    have hM : MS ([gd6] ++ ([gd5] ++ (M))) w43 := (MS.app (fun x h => hM.chg hc43 x (ml h)) (MS.app (fun x h => hM.chg hc43 x (mr (ml h))) (fun x h => hM.chg hc43 x (mr (mr (h))))))
    have hC := hC.trans hc43 (Ok.nil _ _)
    refine seg ha 1 [(2, .pointer (some ⟨g11, 0, none⟩)), (3, .pointer (some ⟨g16, 0, none⟩)), (5, .pointer (some ⟨gd5, 0, none⟩)), (6, .pointer (some ⟨gd6, 0, none⟩)), (7, .int .i64 t43)] (by kernel_rfl) fun a ha => ?_
    refine hK25 _ _ ?_; clear hK25 K25
    refine wp_seq_k fun K44 hK44 => ?_
    refine wp_region_lit ?_
    refine seg ha 2 [(2, .pointer (some ⟨g11, 0, none⟩)), (3, .pointer (some ⟨g16, 0, none⟩)), (5, .pointer (some ⟨gd5, 0, none⟩)), (6, .pointer (some ⟨gd6, 0, none⟩)), (7, .int .i64 t43), (43, .bool (t43 != (0 : Int)))] (by kernel_rfl) fun a ha => ?_
    refine hK44 _ _ ?_; clear hK44 K44
    refine cnd ha rfl (fun hc45 => ?_) (fun hc45 => ?_)
    · have H := ite_t hc45 H
      refine wp_seq_k fun K46 hK46 => ?_
      refine wp_region_lit ?_
      refine seg ha 2 [(4, .int .i64 t43)] (by kernel_rfl) fun a ha => ?_
      refine hK46 _ _ ?_; clear hK46 K46
      refine wp_ret ?_
      try simp only [Exit.then, Exit.inBlock]
      have o1 : Ok [] ([gd6] ++ ([gd5] ++ (M))) w43.heap.size := Ok.nil _ _
      have o2 : Ok (M) ([gd6] ++ ([gd5] ++ (M))) w43.heap.size := (fun _ h => .inl (mr (mr (h))))
      have f1 := f1.chg (Chg.refl [] _) o1 o2
      have f2 := f2.chg (Chg.refl [] _) o1 o2
      have f3 := f3.chg (Chg.refl [] _) o1 o2
      have f4 := f4.chg (Chg.refl [] _) o1 o2
      have f5 := f5.chg (Chg.refl [] _) o1 o2
      have f6 := f6.chg (Chg.refl [] _) o1 o2
      have f7 := f7.chg (Chg.refl [] _) o1 o2
      have f8 := f8.chg (Chg.refl [] _) o1 o2
      have hBgd5 := hBgd5.chg (Chg.refl [] _) (fun h => nomatch h)
      have hBgd6 := hBgd6.chg (Chg.refl [] _) (fun h => nomatch h)
      have hM : MS (M) w43 := (fun x h => hM.chg (Chg.refl [] _) x (mr (mr (h))))
      have hC := hC.trans (Chg.refl [] _) (Ok.nil _ _)
      obtain rfl := Option.some.inj H
      refine rt1 ha rfl rfl ?_
      exact ⟨rfl, hC, hM⟩
    · have H := ite_f hc45 H
      refine wp_skip ?_
      refine hK24 _ _ ?_; clear hK24 K24
      refine wp_seq_k fun K47 hK47 => ?_
      refine drq 22 (fun w' => Chg [] w43 w') (by kernel_rfl) (by kernel_rfl) (fun _ h => h) ?_
      refine qv (v := .agg (cS_api_Choice a0 ao1 cap1 ao2 cap2 ao3 cap3 ao4 cap4).toArray) ha rfl rfl rfl (fun w' hs => ldA_run (cs := (cS_api_Choice a0 ao1 cap1 ao2 cap2 ao3 cap3 ao4 cap4)) ha rfl (by kernel_rfl) (cells_sub (fun j v hv => hs.keep (hE13 j v hv)) (all := (cS_api_Choice a0 ao1 cap1 ao2 cap2 ao3 cap3 ao4 cap4)) [] [] (by kernel_rfl))) fun a ha => ?_
      obtain ⟨t48, H48, H⟩ := bind_some H
      refine qc (.int .i64 t48) ha (by rfl) (by kernel_rfl) (by rfl) (by rfl) (by rfl) (fun w' hs => (decide_here.walk w' _ (hM.chg hs) a0 ao1 cap1 (RSl.chg f1 hs (Ok.nil _ _) (Ok.refl _ _)) ao2 cap2 (RSl.chg f2 hs (Ok.nil _ _) (Ok.refl _ _)) ao3 cap3 (RSl.chg f3 hs (Ok.nil _ _) (Ok.refl _ _)) ao4 cap4 (RSl.chg f4 hs (Ok.nil _ _) (Ok.refl _ _)) _ H48).mono fun v w'' ⟨hv, hc, _⟩ => ⟨hv, hs.trans hc (Ok.nil _ _)⟩) fun a ha => ?_
      refine qv (v := .agg (cS_api_Choice a1 ao5 cap5 ao6 cap6 ao7 cap7 ao8 cap8).toArray) ha rfl rfl rfl (fun w' hs => ldA_run (cs := (cS_api_Choice a1 ao5 cap5 ao6 cap6 ao7 cap7 ao8 cap8)) ha rfl (by kernel_rfl) (cells_sub (fun j v hv => hs.keep (hE18 j v hv)) (all := (cS_api_Choice a1 ao5 cap5 ao6 cap6 ao7 cap7 ao8 cap8)) [] [] (by kernel_rfl))) fun a ha => ?_
      obtain ⟨t49, H49, H⟩ := bind_some H
      refine qc (.int .i64 t49) ha (by rfl) (by kernel_rfl) (by rfl) (by rfl) (by rfl) (fun w' hs => (decide_here.walk w' _ (hM.chg hs) a1 ao5 cap5 (RSl.chg f5 hs (Ok.nil _ _) (Ok.refl _ _)) ao6 cap6 (RSl.chg f6 hs (Ok.nil _ _) (Ok.refl _ _)) ao7 cap7 (RSl.chg f7 hs (Ok.nil _ _) (Ok.refl _ _)) ao8 cap8 (RSl.chg f8 hs (Ok.nil _ _) (Ok.refl _ _)) _ H49).mono fun v w'' ⟨hv, hc, _⟩ => ⟨hv, hs.trans hc (Ok.nil _ _)⟩) fun a ha => ?_
      obtain ⟨t50, H50, H⟩ := bind_some H
      refine qc (.int .i64 t50) ha (by rfl) (by kernel_rfl) (by rfl) (by rfl) (by rfl) (fun w' hs => (cmp_Compare_int.walk w' _ (hM.chg hs) t48 t49 _ H50).mono fun v w'' ⟨hv, hc, _⟩ => ⟨hv, hs.trans hc (Ok.nil _ _)⟩) fun a ha => ?_
      refine qv (v := .agg (cS_api_Choice a0 ao1 cap1 ao2 cap2 ao3 cap3 ao4 cap4).toArray) ha rfl rfl rfl (fun w' hs => ldA_run (cs := (cS_api_Choice a0 ao1 cap1 ao2 cap2 ao3 cap3 ao4 cap4)) ha rfl (by kernel_rfl) (cells_sub (fun j v hv => hs.keep (hE13 j v hv)) (all := (cS_api_Choice a0 ao1 cap1 ao2 cap2 ao3 cap3 ao4 cap4)) [] [] (by kernel_rfl))) fun a ha => ?_
      obtain ⟨t51, H51, H⟩ := bind_some H
      refine qc (.agg (cS_api_Addr t51).toArray) ha (by rfl) (by kernel_rfl) (by rfl) (by rfl) (by rfl) (fun w' hs => (decide_teller.walk w' _ (hM.chg hs) a0 ao1 cap1 (RSl.chg f1 hs (Ok.nil _ _) (Ok.refl _ _)) ao2 cap2 (RSl.chg f2 hs (Ok.nil _ _) (Ok.refl _ _)) ao3 cap3 (RSl.chg f3 hs (Ok.nil _ _) (Ok.refl _ _)) ao4 cap4 (RSl.chg f4 hs (Ok.nil _ _) (Ok.refl _ _)) _ H51).mono fun v w'' ⟨hv, hc, _⟩ => ⟨hv, hs.trans hc (Ok.nil _ _)⟩) fun a ha => ?_
      refine qv (v := .agg (cS_api_Choice a1 ao5 cap5 ao6 cap6 ao7 cap7 ao8 cap8).toArray) ha rfl rfl rfl (fun w' hs => ldA_run (cs := (cS_api_Choice a1 ao5 cap5 ao6 cap6 ao7 cap7 ao8 cap8)) ha rfl (by kernel_rfl) (cells_sub (fun j v hv => hs.keep (hE18 j v hv)) (all := (cS_api_Choice a1 ao5 cap5 ao6 cap6 ao7 cap7 ao8 cap8)) [] [] (by kernel_rfl))) fun a ha => ?_
      obtain ⟨t52, H52, H⟩ := bind_some H
      refine qc (.agg (cS_api_Addr t52).toArray) ha (by rfl) (by kernel_rfl) (by rfl) (by rfl) (by rfl) (fun w' hs => (decide_teller.walk w' _ (hM.chg hs) a1 ao5 cap5 (RSl.chg f5 hs (Ok.nil _ _) (Ok.refl _ _)) ao6 cap6 (RSl.chg f6 hs (Ok.nil _ _) (Ok.refl _ _)) ao7 cap7 (RSl.chg f7 hs (Ok.nil _ _) (Ok.refl _ _)) ao8 cap8 (RSl.chg f8 hs (Ok.nil _ _) (Ok.refl _ _)) _ H52).mono fun v w'' ⟨hv, hc, _⟩ => ⟨hv, hs.trans hc (Ok.nil _ _)⟩) fun a ha => ?_
      obtain ⟨t53, H53, H⟩ := bind_some H
      refine qc (.int .i64 t53) ha (by rfl) (by kernel_rfl) (by rfl) (by rfl) (by rfl) (fun w' hs => (addr_Compare.walk w' _ (hM.chg hs) t51 t52 k _ H53).mono fun v w'' ⟨hv, hc, _⟩ => ⟨hv, hs.trans hc (Ok.nil _ _)⟩) fun a ha => ?_
      refine qp 0 (.pointer (some ⟨gd5, 21, none⟩)) ha rfl rfl rfl (by kernel_rfl) fun a ha => ?_
      refine qv (v := .slice ao2 a0.Route.Attrs.Clusters.length cap2) ha rfl rfl rfl (fun w' hs => ld_run ha rfl (by kernel_rfl) ((Box.chg hBgd5 hs (fun h => nomatch h)).cell' (o := 21) rfl (by kernel_rfl))) fun a ha => ?_
      refine qp 0 (.int .i64 (a0.Route.Attrs.Clusters.length : Int)) ha rfl rfl rfl (by kernel_rfl) fun a ha => ?_
      refine qp 0 (.pointer (some ⟨gd6, 21, none⟩)) ha rfl rfl rfl (by kernel_rfl) fun a ha => ?_
      refine qv (v := .slice ao6 a1.Route.Attrs.Clusters.length cap6) ha rfl rfl rfl (fun w' hs => ld_run ha rfl (by kernel_rfl) ((Box.chg hBgd6 hs (fun h => nomatch h)).cell' (o := 21) rfl (by kernel_rfl))) fun a ha => ?_
      refine qp 0 (.int .i64 (a1.Route.Attrs.Clusters.length : Int)) ha rfl rfl rfl (by kernel_rfl) fun a ha => ?_
      obtain ⟨t54, H54, H⟩ := bind_some H
      refine qc (.int .i64 t54) ha (by rfl) (by kernel_rfl) (by rfl) (by rfl) (by rfl) (fun w' hs => (cmp_Compare_int.walk w' _ (hM.chg hs) (a0.Route.Attrs.Clusters.length : Int) (a1.Route.Attrs.Clusters.length : Int) _ H54).mono fun v w'' ⟨hv, hc, _⟩ => ⟨hv, hs.trans hc (Ok.nil _ _)⟩) fun a ha => ?_
      refine qp 0 (.pointer (some ⟨g11, 0 + 132, none⟩)) ha rfl rfl rfl (by kernel_rfl) fun a ha => ?_
      refine qv (v := .int .i64 a0.Peer) ha rfl rfl rfl (fun w' hs => ld_run ha rfl (by kernel_rfl) (hs.keep (hE13 132 (.int .i64 a0.Peer) (by kernel_rfl)))) fun a ha => ?_
      refine qp 0 (.pointer (some ⟨g16, 0 + 132, none⟩)) ha rfl rfl rfl (by kernel_rfl) fun a ha => ?_
      refine qv (v := .int .i64 a1.Peer) ha rfl rfl rfl (fun w' hs => ld_run ha rfl (by kernel_rfl) (hs.keep (hE18 132 (.int .i64 a1.Peer) (by kernel_rfl)))) fun a ha => ?_
      obtain ⟨t55, H55, H⟩ := bind_some H
      refine qc (.int .i64 t55) ha (by rfl) (by kernel_rfl) (by rfl) (by rfl) (by rfl) (fun w' hs => (cmp_Compare_int.walk w' _ (hM.chg hs) a0.Peer a1.Peer _ H55).mono fun v w'' ⟨hv, hc, _⟩ => ⟨hv, hs.trans hc (Ok.nil _ _)⟩) fun a ha => ?_
      refine wpQuiet_nil ?_
      intro w56 hc57
      have o1 : Ok [] ([gd6] ++ ([gd5] ++ (M))) w43.heap.size := Ok.nil _ _
      have o2 : Ok ([gd6] ++ ([gd5] ++ (M))) ([gd6] ++ ([gd5] ++ (M))) w43.heap.size := (Ok.app (fun _ h => .inl (ml h)) (Ok.app (fun _ h => .inl (mr (ml h))) (fun _ h => .inl (mr (mr (h))))))
      have f1 := f1.chg hc57 o1 o2
      have f2 := f2.chg hc57 o1 o2
      have f3 := f3.chg hc57 o1 o2
      have f4 := f4.chg hc57 o1 o2
      have f5 := f5.chg hc57 o1 o2
      have f6 := f6.chg hc57 o1 o2
      have f7 := f7.chg hc57 o1 o2
      have f8 := f8.chg hc57 o1 o2
      have hBgd5 := hBgd5.chg hc57 (fun h => nomatch h)
      have hBgd6 := hBgd6.chg hc57 (fun h => nomatch h)
      have q_hn14 : g11 ∉ [gd6] ++ ([gd5] ++ (M)) := fun h => (o2 g11 h).elim hn14 (fun h => absurd (lt_cell (hE13 0 _ rfl)) (Nat.not_lt.2 h))
      have hE13 : ∀ j v, (cS_api_Choice a0 ao1 cap1 ao2 cap2 ao3 cap3 ao4 cap4)[j]? = some v → w56.cell? ⟨g11, 0 + j, none⟩ = some v := fun j v hv => (cell_keep hc57 o1 hn14 (hE13 j v hv))
      have hn14 := q_hn14
      have q_hn19 : g16 ∉ [gd6] ++ ([gd5] ++ (M)) := fun h => (o2 g16 h).elim hn19 (fun h => absurd (lt_cell (hE18 0 _ rfl)) (Nat.not_lt.2 h))
      have hE18 : ∀ j v, (cS_api_Choice a1 ao5 cap5 ao6 cap6 ao7 cap7 ao8 cap8)[j]? = some v → w56.cell? ⟨g16, 0 + j, none⟩ = some v := fun j v hv => (cell_keep hc57 o1 hn19 (hE18 j v hv))
      have hn19 := q_hn19
      have hM : MS ([gd6] ++ ([gd5] ++ (M))) w56 := (MS.app (fun x h => hM.chg hc57 x (ml h)) (MS.app (fun x h => hM.chg hc57 x (mr (ml h))) (fun x h => hM.chg hc57 x (mr (mr (h))))))
      have hC := hC.trans hc57 (Ok.nil _ _)
      refine bsl (vals := ([.int .i64 t50, .int .i64 t53, .int .i64 t54, .int .i64 t55] : List Value)) (T := 3) ha rfl (([.int .i64 t50] : List Value) ++ (([.int .i64 t53] : List Value) ++ (([.int .i64 t54] : List Value) ++ (([.int .i64 t55] : List Value) ++ ([] : List Value))))) (fun w => by kernel_rfl) rfl rfl rfl fun a w58 g59 hN60 ha => ?_
      have o1 : Ok [] ([gd6] ++ ([gd5] ++ (M))) w56.heap.size := Ok.nil _ _
      have o2 : Ok ([g59] ++ ([gd6] ++ ([gd5] ++ (M)))) ([gd6] ++ ([gd5] ++ (M))) w56.heap.size := (Ok.app (hN60.ok _) (Ok.app (fun _ h => .inl (ml h)) (Ok.app (fun _ h => .inl (mr (ml h))) (fun _ h => .inl (mr (mr (h)))))))
      have f1 := f1.chg hN60.chg o1 o2
      have f2 := f2.chg hN60.chg o1 o2
      have f3 := f3.chg hN60.chg o1 o2
      have f4 := f4.chg hN60.chg o1 o2
      have f5 := f5.chg hN60.chg o1 o2
      have f6 := f6.chg hN60.chg o1 o2
      have f7 := f7.chg hN60.chg o1 o2
      have f8 := f8.chg hN60.chg o1 o2
      have hBgd5 := hBgd5.chg hN60.chg (fun h => nomatch h)
      have hBgd6 := hBgd6.chg hN60.chg (fun h => nomatch h)
      have nw : Ok ([g59]) ([gd6] ++ ([gd5] ++ (M))) w56.heap.size := (hN60.ok _)
      have p_i9006_i61 : ∀ x ∈ [gd6], x ∉ ([g59]) := fun x hy hx => absurd (hM x (ml hy)) (Nat.not_lt.2 ((hN60.ge1) x hx))
      have p_i9005_i61 : ∀ x ∈ [gd5], x ∉ ([g59]) := fun x hy hx => absurd (hM x (mr (ml hy))) (Nat.not_lt.2 ((hN60.ge1) x hx))
      have p_i61_M : ∀ x ∈ [g59], x ∉ M := fun x hx hy => absurd (hM x (mr (mr (hy)))) (Nat.not_lt.2 ((hN60.ge1) x hx))
      have e_i61 : ∀ x ∈ [g59], w.heap.size ≤ x := fun x hx => Nat.le_trans hC.size ((hN60.ge1) x hx)
      have hM : MS ([g59] ++ ([gd6] ++ ([gd5] ++ (M)))) w58 := (MS.app hN60.ms (MS.app (fun x h => hM.chg hN60.chg x (ml h)) (MS.app (fun x h => hM.chg hN60.chg x (mr (ml h))) (fun x h => hM.chg hN60.chg x (mr (mr (h)))))))
      have hC := hC.trans hN60.chg (Ok.nil _ _)
      have f62 : Own (rInt .i64) 3 w58 ([g59] ++ ([gd6] ++ ([gd5] ++ (M)))) (some ⟨g59, 0, none⟩) 4 ([t50, t53, t54, t55] : List Int) := hN60.own ⟨([.int .i64 t50] : List Value), _, rfl, rfl, ⟨([.int .i64 t53] : List Value), _, rfl, rfl, ⟨([.int .i64 t54] : List Value), _, rfl, rfl, ⟨([.int .i64 t55] : List Value), _, rfl, rfl, rfl⟩⟩⟩⟩ (Nat.le_of_ble_eq_true rfl)
      have fz := f62.toRSl (M' := [gd6] ++ ([gd5] ++ (M))) (Ok.app (fun _ h => .inl (mr (ml h))) (Ok.app (fun _ h => .inl (mr (mr (ml h)))) (fun _ h => .inl (mr (mr (mr (h))))))) (fun x hx hm => (List.mem_append.1 hm).elim (fun h => (fun x hx hy => p_i9006_i61 x hy hx) x hx h) (fun h => (List.mem_append.1 h).elim (fun h => (fun x hx hy => p_i9005_i61 x hy hx) x hx h) (fun h => p_i61_M x hx h)))
      have o1 : Ok [] ([g59] ++ ([gd6] ++ ([gd5] ++ (M)))) w58.heap.size := Ok.nil _ _
      have o2 : Ok ([gd6] ++ ([gd5] ++ (M))) ([g59] ++ ([gd6] ++ ([gd5] ++ (M)))) w58.heap.size := (Ok.app (fun _ h => .inl (mr (ml h))) (Ok.app (fun _ h => .inl (mr (mr (ml h)))) (fun _ h => .inl (mr (mr (mr (h)))))))
      have f1 := f1.chg (Chg.refl [] _) o1 o2
      have f2 := f2.chg (Chg.refl [] _) o1 o2
      have f3 := f3.chg (Chg.refl [] _) o1 o2
      have f4 := f4.chg (Chg.refl [] _) o1 o2
      have f5 := f5.chg (Chg.refl [] _) o1 o2
      have f6 := f6.chg (Chg.refl [] _) o1 o2
      have f7 := f7.chg (Chg.refl [] _) o1 o2
      have f8 := f8.chg (Chg.refl [] _) o1 o2
      have hBgd5 := hBgd5.chg (Chg.refl [] _) (fun h => nomatch h)
      have hBgd6 := hBgd6.chg (Chg.refl [] _) (fun h => nomatch h)
      have hM : MS ([gd6] ++ ([gd5] ++ (M))) w58 := (MS.app (fun x h => hM.chg (Chg.refl [] _) x (mr (ml h))) (MS.app (fun x h => hM.chg (Chg.refl [] _) x (mr (mr (ml h)))) (fun x h => hM.chg (Chg.refl [] _) x (mr (mr (mr (h)))))))
      have hC := hC.trans (Chg.refl [] _) (Ok.nil _ _)
      have f62 := fz
      obtain ⟨t63, H63, H⟩ := bind_some H
      refine cl ha (by rfl) (by kernel_rfl) (by rfl) (by rfl) (by rfl) (cmp_Or_int.walk w58 _ hM ([t50, t53, t54, t55] : List Int) (some ⟨g59, 0, none⟩) 4 f62 k _ H63) ?_
      rintro _ w63 ⟨rfl, hc63, hMn⟩ a ha
      have o1 : Ok [] ([gd6] ++ ([gd5] ++ (M))) w58.heap.size := Ok.nil _ _
      have o2 : Ok ([gd6] ++ ([gd5] ++ (M))) ([gd6] ++ ([gd5] ++ (M))) w58.heap.size := (Ok.app (fun _ h => .inl (ml h)) (Ok.app (fun _ h => .inl (mr (ml h))) (fun _ h => .inl (mr (mr (h))))))
      have f62 := f62.chg hc63 o1 o2
      have f1 := f1.chg hc63 o1 o2
      have f2 := f2.chg hc63 o1 o2
      have f3 := f3.chg hc63 o1 o2
      have f4 := f4.chg hc63 o1 o2
      have f5 := f5.chg hc63 o1 o2
      have f6 := f6.chg hc63 o1 o2
      have f7 := f7.chg hc63 o1 o2
      have f8 := f8.chg hc63 o1 o2
      have hBgd5 := hBgd5.chg hc63 (fun h => nomatch h)
      have hBgd6 := hBgd6.chg hc63 (fun h => nomatch h)
      have hM : MS ([gd6] ++ ([gd5] ++ (M))) w63 := (MS.app (fun x h => hM.chg hc63 x (ml h)) (MS.app (fun x h => hM.chg hc63 x (mr (ml h))) (fun x h => hM.chg hc63 x (mr (mr (h))))))
      have hC := hC.trans hc63 (Ok.nil _ _)
      refine seg ha 1 [(4, .int .i64 t63)] (by kernel_rfl) fun a ha => ?_
      refine hK47 _ _ ?_; clear hK47 K47
      refine wp_ret ?_
      try simp only [Exit.then, Exit.inBlock]
      have o1 : Ok [] ([gd6] ++ ([gd5] ++ (M))) w63.heap.size := Ok.nil _ _
      have o2 : Ok (M) ([gd6] ++ ([gd5] ++ (M))) w63.heap.size := (fun _ h => .inl (mr (mr (h))))
      have f1 := f1.chg (Chg.refl [] _) o1 o2
      have f2 := f2.chg (Chg.refl [] _) o1 o2
      have f3 := f3.chg (Chg.refl [] _) o1 o2
      have f4 := f4.chg (Chg.refl [] _) o1 o2
      have f5 := f5.chg (Chg.refl [] _) o1 o2
      have f6 := f6.chg (Chg.refl [] _) o1 o2
      have f7 := f7.chg (Chg.refl [] _) o1 o2
      have f8 := f8.chg (Chg.refl [] _) o1 o2
      have hBgd5 := hBgd5.chg (Chg.refl [] _) (fun h => nomatch h)
      have hBgd6 := hBgd6.chg (Chg.refl [] _) (fun h => nomatch h)
      have hM : MS (M) w63 := (fun x h => hM.chg (Chg.refl [] _) x (mr (mr (h))))
      have hC := hC.trans (Chg.refl [] _) (Ok.nil _ _)
      obtain rfl := Option.some.inj H
      refine rt1 ha rfl rfl ?_
      exact ⟨rfl, hC, hM⟩
  have H := H23
  refine tkp 0 0 (.pointer (some ⟨g11, 0, none⟩)) ha (by rfl) (by kernel_rfl) (by kernel_rfl) (by kernel_rfl) (by rfl) (by rfl) (by rfl) (by exact fun _ _ _ h => h) (by kernel_rfl) hS fun a ha => ?_
  refine tkp 1 0 (.pointer (some ⟨g11, 0 + 108, none⟩)) ha (by rfl) (by kernel_rfl) (by kernel_rfl) (by kernel_rfl) (by rfl) (by rfl) (by rfl) (by exact fun _ _ _ h => h) (by kernel_rfl) hS fun a ha => ?_
  refine tk 2 ha (by rfl) (by kernel_rfl) (by kernel_rfl) (by kernel_rfl) (by rfl) (by rfl) (by rfl) (by exact fun _ _ _ h => h) (v := .agg (cS_api_Attrs a0.Route.Attrs ao1 cap1 ao2 cap2 ao3 cap3 ao4 cap4).toArray) (fun w' hs => ldA_run (cs := (cS_api_Attrs a0.Route.Attrs ao1 cap1 ao2 cap2 ao3 cap3 ao4 cap4)) ha rfl (by kernel_rfl) (cells_sub (fun j v hv => cell_keep hs okS z_hn14 (z_hE13 j v hv)) (all := (cS_api_Choice a0 ao1 cap1 ao2 cap2 ao3 cap3 ao4 cap4)) [.int .i64 a0.Route.Size, .int .i64 a0.Route.Safi, .int .i64 a0.Route.M.Kind, .int .u8 (ar a0.Route.M.RD 0), .int .u8 (ar a0.Route.M.RD 1), .int .u8 (ar a0.Route.M.RD 2), .int .u8 (ar a0.Route.M.RD 3), .int .u8 (ar a0.Route.M.RD 4), .int .u8 (ar a0.Route.M.RD 5), .int .u8 (ar a0.Route.M.RD 6), .int .u8 (ar a0.Route.M.RD 7), .int .i64 a0.Route.M.AS, .int .i64 a0.Route.M.Source.Size, .int .u8 (ar a0.Route.M.Source.B 0), .int .u8 (ar a0.Route.M.Source.B 1), .int .u8 (ar a0.Route.M.Source.B 2), .int .u8 (ar a0.Route.M.Source.B 3), .int .u8 (ar a0.Route.M.Source.B 4), .int .u8 (ar a0.Route.M.Source.B 5), .int .u8 (ar a0.Route.M.Source.B 6), .int .u8 (ar a0.Route.M.Source.B 7), .int .u8 (ar a0.Route.M.Source.B 8), .int .u8 (ar a0.Route.M.Source.B 9), .int .u8 (ar a0.Route.M.Source.B 10), .int .u8 (ar a0.Route.M.Source.B 11), .int .u8 (ar a0.Route.M.Source.B 12), .int .u8 (ar a0.Route.M.Source.B 13), .int .u8 (ar a0.Route.M.Source.B 14), .int .u8 (ar a0.Route.M.Source.B 15), .int .i64 a0.Route.M.Group.Size, .int .u8 (ar a0.Route.M.Group.B 0), .int .u8 (ar a0.Route.M.Group.B 1), .int .u8 (ar a0.Route.M.Group.B 2), .int .u8 (ar a0.Route.M.Group.B 3), .int .u8 (ar a0.Route.M.Group.B 4), .int .u8 (ar a0.Route.M.Group.B 5), .int .u8 (ar a0.Route.M.Group.B 6), .int .u8 (ar a0.Route.M.Group.B 7), .int .u8 (ar a0.Route.M.Group.B 8), .int .u8 (ar a0.Route.M.Group.B 9), .int .u8 (ar a0.Route.M.Group.B 10), .int .u8 (ar a0.Route.M.Group.B 11), .int .u8 (ar a0.Route.M.Group.B 12), .int .u8 (ar a0.Route.M.Group.B 13), .int .u8 (ar a0.Route.M.Group.B 14), .int .u8 (ar a0.Route.M.Group.B 15), .int .i64 a0.Route.M.From.Size, .int .u8 (ar a0.Route.M.From.B 0), .int .u8 (ar a0.Route.M.From.B 1), .int .u8 (ar a0.Route.M.From.B 2), .int .u8 (ar a0.Route.M.From.B 3), .int .u8 (ar a0.Route.M.From.B 4), .int .u8 (ar a0.Route.M.From.B 5), .int .u8 (ar a0.Route.M.From.B 6), .int .u8 (ar a0.Route.M.From.B 7), .int .u8 (ar a0.Route.M.From.B 8), .int .u8 (ar a0.Route.M.From.B 9), .int .u8 (ar a0.Route.M.From.B 10), .int .u8 (ar a0.Route.M.From.B 11), .int .u8 (ar a0.Route.M.From.B 12), .int .u8 (ar a0.Route.M.From.B 13), .int .u8 (ar a0.Route.M.From.B 14), .int .u8 (ar a0.Route.M.From.B 15), .string (bstr a0.Route.M.Key), .int .u8 (ar a0.Route.U.RD 0), .int .u8 (ar a0.Route.U.RD 1), .int .u8 (ar a0.Route.U.RD 2), .int .u8 (ar a0.Route.U.RD 3), .int .u8 (ar a0.Route.U.RD 4), .int .u8 (ar a0.Route.U.RD 5), .int .u8 (ar a0.Route.U.RD 6), .int .u8 (ar a0.Route.U.RD 7), .int .i64 a0.Route.U.Prefix.Addr.Size, .int .u8 (ar a0.Route.U.Prefix.Addr.B 0), .int .u8 (ar a0.Route.U.Prefix.Addr.B 1), .int .u8 (ar a0.Route.U.Prefix.Addr.B 2), .int .u8 (ar a0.Route.U.Prefix.Addr.B 3), .int .u8 (ar a0.Route.U.Prefix.Addr.B 4), .int .u8 (ar a0.Route.U.Prefix.Addr.B 5), .int .u8 (ar a0.Route.U.Prefix.Addr.B 6), .int .u8 (ar a0.Route.U.Prefix.Addr.B 7), .int .u8 (ar a0.Route.U.Prefix.Addr.B 8), .int .u8 (ar a0.Route.U.Prefix.Addr.B 9), .int .u8 (ar a0.Route.U.Prefix.Addr.B 10), .int .u8 (ar a0.Route.U.Prefix.Addr.B 11), .int .u8 (ar a0.Route.U.Prefix.Addr.B 12), .int .u8 (ar a0.Route.U.Prefix.Addr.B 13), .int .u8 (ar a0.Route.U.Prefix.Addr.B 14), .int .u8 (ar a0.Route.U.Prefix.Addr.B 15), .int .i64 a0.Route.U.Prefix.Bits, .int .i64 a0.Route.U.Label, .int .i64 a0.Route.Next.Size, .int .u8 (ar a0.Route.Next.B 0), .int .u8 (ar a0.Route.Next.B 1), .int .u8 (ar a0.Route.Next.B 2), .int .u8 (ar a0.Route.Next.B 3), .int .u8 (ar a0.Route.Next.B 4), .int .u8 (ar a0.Route.Next.B 5), .int .u8 (ar a0.Route.Next.B 6), .int .u8 (ar a0.Route.Next.B 7), .int .u8 (ar a0.Route.Next.B 8), .int .u8 (ar a0.Route.Next.B 9), .int .u8 (ar a0.Route.Next.B 10), .int .u8 (ar a0.Route.Next.B 11), .int .u8 (ar a0.Route.Next.B 12), .int .u8 (ar a0.Route.Next.B 13), .int .u8 (ar a0.Route.Next.B 14), .int .u8 (ar a0.Route.Next.B 15)] [.int .i64 a0.Peer, .int .i64 a0.Id.Size, .int .u8 (ar a0.Id.B 0), .int .u8 (ar a0.Id.B 1), .int .u8 (ar a0.Id.B 2), .int .u8 (ar a0.Id.B 3), .int .u8 (ar a0.Id.B 4), .int .u8 (ar a0.Id.B 5), .int .u8 (ar a0.Id.B 6), .int .u8 (ar a0.Id.B 7), .int .u8 (ar a0.Id.B 8), .int .u8 (ar a0.Id.B 9), .int .u8 (ar a0.Id.B 10), .int .u8 (ar a0.Id.B 11), .int .u8 (ar a0.Id.B 12), .int .u8 (ar a0.Id.B 13), .int .u8 (ar a0.Id.B 14), .int .u8 (ar a0.Id.B 15)] (by kernel_rfl))) hS fun a ha => ?_
  refine tkp 3 0 (.pointer (some ⟨g16, 0, none⟩)) ha (by rfl) (by kernel_rfl) (by kernel_rfl) (by kernel_rfl) (by rfl) (by rfl) (by rfl) (by exact fun _ _ _ h => h) (by kernel_rfl) hS fun a ha => ?_
  refine tkp 4 0 (.pointer (some ⟨g16, 0 + 108, none⟩)) ha (by rfl) (by kernel_rfl) (by kernel_rfl) (by kernel_rfl) (by rfl) (by rfl) (by rfl) (by exact fun _ _ _ h => h) (by kernel_rfl) hS fun a ha => ?_
  refine tk 5 ha (by rfl) (by kernel_rfl) (by kernel_rfl) (by kernel_rfl) (by rfl) (by rfl) (by rfl) (by exact fun _ _ _ h => h) (v := .agg (cS_api_Attrs a1.Route.Attrs ao5 cap5 ao6 cap6 ao7 cap7 ao8 cap8).toArray) (fun w' hs => ldA_run (cs := (cS_api_Attrs a1.Route.Attrs ao5 cap5 ao6 cap6 ao7 cap7 ao8 cap8)) ha rfl (by kernel_rfl) (cells_sub (fun j v hv => cell_keep hs okS z_hn19 (z_hE18 j v hv)) (all := (cS_api_Choice a1 ao5 cap5 ao6 cap6 ao7 cap7 ao8 cap8)) [.int .i64 a1.Route.Size, .int .i64 a1.Route.Safi, .int .i64 a1.Route.M.Kind, .int .u8 (ar a1.Route.M.RD 0), .int .u8 (ar a1.Route.M.RD 1), .int .u8 (ar a1.Route.M.RD 2), .int .u8 (ar a1.Route.M.RD 3), .int .u8 (ar a1.Route.M.RD 4), .int .u8 (ar a1.Route.M.RD 5), .int .u8 (ar a1.Route.M.RD 6), .int .u8 (ar a1.Route.M.RD 7), .int .i64 a1.Route.M.AS, .int .i64 a1.Route.M.Source.Size, .int .u8 (ar a1.Route.M.Source.B 0), .int .u8 (ar a1.Route.M.Source.B 1), .int .u8 (ar a1.Route.M.Source.B 2), .int .u8 (ar a1.Route.M.Source.B 3), .int .u8 (ar a1.Route.M.Source.B 4), .int .u8 (ar a1.Route.M.Source.B 5), .int .u8 (ar a1.Route.M.Source.B 6), .int .u8 (ar a1.Route.M.Source.B 7), .int .u8 (ar a1.Route.M.Source.B 8), .int .u8 (ar a1.Route.M.Source.B 9), .int .u8 (ar a1.Route.M.Source.B 10), .int .u8 (ar a1.Route.M.Source.B 11), .int .u8 (ar a1.Route.M.Source.B 12), .int .u8 (ar a1.Route.M.Source.B 13), .int .u8 (ar a1.Route.M.Source.B 14), .int .u8 (ar a1.Route.M.Source.B 15), .int .i64 a1.Route.M.Group.Size, .int .u8 (ar a1.Route.M.Group.B 0), .int .u8 (ar a1.Route.M.Group.B 1), .int .u8 (ar a1.Route.M.Group.B 2), .int .u8 (ar a1.Route.M.Group.B 3), .int .u8 (ar a1.Route.M.Group.B 4), .int .u8 (ar a1.Route.M.Group.B 5), .int .u8 (ar a1.Route.M.Group.B 6), .int .u8 (ar a1.Route.M.Group.B 7), .int .u8 (ar a1.Route.M.Group.B 8), .int .u8 (ar a1.Route.M.Group.B 9), .int .u8 (ar a1.Route.M.Group.B 10), .int .u8 (ar a1.Route.M.Group.B 11), .int .u8 (ar a1.Route.M.Group.B 12), .int .u8 (ar a1.Route.M.Group.B 13), .int .u8 (ar a1.Route.M.Group.B 14), .int .u8 (ar a1.Route.M.Group.B 15), .int .i64 a1.Route.M.From.Size, .int .u8 (ar a1.Route.M.From.B 0), .int .u8 (ar a1.Route.M.From.B 1), .int .u8 (ar a1.Route.M.From.B 2), .int .u8 (ar a1.Route.M.From.B 3), .int .u8 (ar a1.Route.M.From.B 4), .int .u8 (ar a1.Route.M.From.B 5), .int .u8 (ar a1.Route.M.From.B 6), .int .u8 (ar a1.Route.M.From.B 7), .int .u8 (ar a1.Route.M.From.B 8), .int .u8 (ar a1.Route.M.From.B 9), .int .u8 (ar a1.Route.M.From.B 10), .int .u8 (ar a1.Route.M.From.B 11), .int .u8 (ar a1.Route.M.From.B 12), .int .u8 (ar a1.Route.M.From.B 13), .int .u8 (ar a1.Route.M.From.B 14), .int .u8 (ar a1.Route.M.From.B 15), .string (bstr a1.Route.M.Key), .int .u8 (ar a1.Route.U.RD 0), .int .u8 (ar a1.Route.U.RD 1), .int .u8 (ar a1.Route.U.RD 2), .int .u8 (ar a1.Route.U.RD 3), .int .u8 (ar a1.Route.U.RD 4), .int .u8 (ar a1.Route.U.RD 5), .int .u8 (ar a1.Route.U.RD 6), .int .u8 (ar a1.Route.U.RD 7), .int .i64 a1.Route.U.Prefix.Addr.Size, .int .u8 (ar a1.Route.U.Prefix.Addr.B 0), .int .u8 (ar a1.Route.U.Prefix.Addr.B 1), .int .u8 (ar a1.Route.U.Prefix.Addr.B 2), .int .u8 (ar a1.Route.U.Prefix.Addr.B 3), .int .u8 (ar a1.Route.U.Prefix.Addr.B 4), .int .u8 (ar a1.Route.U.Prefix.Addr.B 5), .int .u8 (ar a1.Route.U.Prefix.Addr.B 6), .int .u8 (ar a1.Route.U.Prefix.Addr.B 7), .int .u8 (ar a1.Route.U.Prefix.Addr.B 8), .int .u8 (ar a1.Route.U.Prefix.Addr.B 9), .int .u8 (ar a1.Route.U.Prefix.Addr.B 10), .int .u8 (ar a1.Route.U.Prefix.Addr.B 11), .int .u8 (ar a1.Route.U.Prefix.Addr.B 12), .int .u8 (ar a1.Route.U.Prefix.Addr.B 13), .int .u8 (ar a1.Route.U.Prefix.Addr.B 14), .int .u8 (ar a1.Route.U.Prefix.Addr.B 15), .int .i64 a1.Route.U.Prefix.Bits, .int .i64 a1.Route.U.Label, .int .i64 a1.Route.Next.Size, .int .u8 (ar a1.Route.Next.B 0), .int .u8 (ar a1.Route.Next.B 1), .int .u8 (ar a1.Route.Next.B 2), .int .u8 (ar a1.Route.Next.B 3), .int .u8 (ar a1.Route.Next.B 4), .int .u8 (ar a1.Route.Next.B 5), .int .u8 (ar a1.Route.Next.B 6), .int .u8 (ar a1.Route.Next.B 7), .int .u8 (ar a1.Route.Next.B 8), .int .u8 (ar a1.Route.Next.B 9), .int .u8 (ar a1.Route.Next.B 10), .int .u8 (ar a1.Route.Next.B 11), .int .u8 (ar a1.Route.Next.B 12), .int .u8 (ar a1.Route.Next.B 13), .int .u8 (ar a1.Route.Next.B 14), .int .u8 (ar a1.Route.Next.B 15)] [.int .i64 a1.Peer, .int .i64 a1.Id.Size, .int .u8 (ar a1.Id.B 0), .int .u8 (ar a1.Id.B 1), .int .u8 (ar a1.Id.B 2), .int .u8 (ar a1.Id.B 3), .int .u8 (ar a1.Id.B 4), .int .u8 (ar a1.Id.B 5), .int .u8 (ar a1.Id.B 6), .int .u8 (ar a1.Id.B 7), .int .u8 (ar a1.Id.B 8), .int .u8 (ar a1.Id.B 9), .int .u8 (ar a1.Id.B 10), .int .u8 (ar a1.Id.B 11), .int .u8 (ar a1.Id.B 12), .int .u8 (ar a1.Id.B 13), .int .u8 (ar a1.Id.B 14), .int .u8 (ar a1.Id.B 15)] (by kernel_rfl))) hS fun a ha => ?_
  refine acs [6, 7] (by kernel_rfl) (by simp) fun i hi => ?_
  simp only [List.mem_cons, List.not_mem_nil, or_false] at hi
  rcases hi with rfl | rfl
  · refine ⟨_, rfl, fun K64 hK64 => ?_⟩
    refine al (cs := (cS_api_Attrs (⟨(0 : Int), ([] : List S_api_Segment), (0 : Int), (0 : Int), (⟨(0 : Int), (List.replicate 16 (0 : Int))⟩ : S_api_Addr), ([] : List S_api_Addr), ([] : List (List Int)), ([] : List S_api_Tunnel)⟩ : S_api_Attrs) none 0 none 0 none 0 none 0)) (z := .agg (cS_api_Attrs (⟨(0 : Int), ([] : List S_api_Segment), (0 : Int), (0 : Int), (⟨(0 : Int), (List.replicate 16 (0 : Int))⟩ : S_api_Addr), ([] : List S_api_Addr), ([] : List (List Int)), ([] : List S_api_Tunnel)⟩ : S_api_Attrs) none 0 none 0 none 0 none 0).toArray) ha (fun w => by kernel_rfl) rfl rfl rfl rfl fun a w65 gd5 hN66 ha => ?_
    have o1 : Ok [] (M) w21.heap.size := Ok.nil _ _
    have o2 : Ok ([gd5] ++ (M)) (M) w21.heap.size := (Ok.app (hN66.ok _) (fun _ h => .inl (h)))
    have f1 := f1.chg hN66.chg o1 o2
    have f2 := f2.chg hN66.chg o1 o2
    have f3 := f3.chg hN66.chg o1 o2
    have f4 := f4.chg hN66.chg o1 o2
    have f5 := f5.chg hN66.chg o1 o2
    have f6 := f6.chg hN66.chg o1 o2
    have f7 := f7.chg hN66.chg o1 o2
    have f8 := f8.chg hN66.chg o1 o2
    have q_hn14 : g11 ∉ [gd5] ++ (M) := fun h => (o2 g11 h).elim hn14 (fun h => absurd (lt_cell (hE13 0 _ rfl)) (Nat.not_lt.2 h))
    have hE13 : ∀ j v, (cS_api_Choice a0 ao1 cap1 ao2 cap2 ao3 cap3 ao4 cap4)[j]? = some v → w65.cell? ⟨g11, 0 + j, none⟩ = some v := fun j v hv => (cell_keep hN66.chg o1 hn14 (hE13 j v hv))
    have hn14 := q_hn14
    have q_hn19 : g16 ∉ [gd5] ++ (M) := fun h => (o2 g16 h).elim hn19 (fun h => absurd (lt_cell (hE18 0 _ rfl)) (Nat.not_lt.2 h))
    have hE18 : ∀ j v, (cS_api_Choice a1 ao5 cap5 ao6 cap6 ao7 cap7 ao8 cap8)[j]? = some v → w65.cell? ⟨g16, 0 + j, none⟩ = some v := fun j v hv => (cell_keep hN66.chg o1 hn19 (hE18 j v hv))
    have hn19 := q_hn19
    have nw : Ok ([gd5]) (M) w21.heap.size := (hN66.ok _)
    have p_i9005_M : ∀ x ∈ [gd5], x ∉ M := fun x hx hy => absurd (hM x (hy)) (Nat.not_lt.2 ((hN66.ge1) x hx))
    have e_i9005 : ∀ x ∈ [gd5], w.heap.size ≤ x := fun x hx => Nat.le_trans hC.size ((hN66.ge1) x hx)
    have hM : MS ([gd5] ++ (M)) w65 := (MS.app hN66.ms (fun x h => hM.chg hN66.chg x (h)))
    have hC := hC.trans hN66.chg (Ok.nil _ _)
    have d_i9005 : ∀ x ∈ [gd5], w15.heap.size ≤ x := fun x hx => Nat.le_trans hS.size ((hN66.ge1) x hx)
    have hS := hS.trans hN66.chg (Ok.nil _ _)
    have hBgd5 : Box w65 gd5 (cS_api_Attrs (⟨(0 : Int), ([] : List S_api_Segment), (0 : Int), (0 : Int), (⟨(0 : Int), (List.replicate 16 (0 : Int))⟩ : S_api_Addr), ([] : List S_api_Addr), ([] : List (List Int)), ([] : List S_api_Tunnel)⟩ : S_api_Attrs) none 0 none 0 none 0 none 0) := hN66.box
    refine ae hK64 hS ?_; clear hK64 K64
    refine ac 7 (by kernel_rfl) (by rfl) fun K67 hK67 => ?_
    refine al (cs := (cS_api_Attrs (⟨(0 : Int), ([] : List S_api_Segment), (0 : Int), (0 : Int), (⟨(0 : Int), (List.replicate 16 (0 : Int))⟩ : S_api_Addr), ([] : List S_api_Addr), ([] : List (List Int)), ([] : List S_api_Tunnel)⟩ : S_api_Attrs) none 0 none 0 none 0 none 0)) (z := .agg (cS_api_Attrs (⟨(0 : Int), ([] : List S_api_Segment), (0 : Int), (0 : Int), (⟨(0 : Int), (List.replicate 16 (0 : Int))⟩ : S_api_Addr), ([] : List S_api_Addr), ([] : List (List Int)), ([] : List S_api_Tunnel)⟩ : S_api_Attrs) none 0 none 0 none 0 none 0).toArray) ha (fun w => by kernel_rfl) rfl rfl rfl rfl fun a w68 gd6 hN69 ha => ?_
    have o1 : Ok [] ([gd5] ++ (M)) w65.heap.size := Ok.nil _ _
    have o2 : Ok ([gd6] ++ ([gd5] ++ (M))) ([gd5] ++ (M)) w65.heap.size := (Ok.app (hN69.ok _) (Ok.app (fun _ h => .inl (ml h)) (fun _ h => .inl (mr (h)))))
    have f1 := f1.chg hN69.chg o1 o2
    have f2 := f2.chg hN69.chg o1 o2
    have f3 := f3.chg hN69.chg o1 o2
    have f4 := f4.chg hN69.chg o1 o2
    have f5 := f5.chg hN69.chg o1 o2
    have f6 := f6.chg hN69.chg o1 o2
    have f7 := f7.chg hN69.chg o1 o2
    have f8 := f8.chg hN69.chg o1 o2
    have hBgd5 := hBgd5.chg hN69.chg (fun h => nomatch h)
    have q_hn14 : g11 ∉ [gd6] ++ ([gd5] ++ (M)) := fun h => (o2 g11 h).elim hn14 (fun h => absurd (lt_cell (hE13 0 _ rfl)) (Nat.not_lt.2 h))
    have hE13 : ∀ j v, (cS_api_Choice a0 ao1 cap1 ao2 cap2 ao3 cap3 ao4 cap4)[j]? = some v → w68.cell? ⟨g11, 0 + j, none⟩ = some v := fun j v hv => (cell_keep hN69.chg o1 hn14 (hE13 j v hv))
    have hn14 := q_hn14
    have q_hn19 : g16 ∉ [gd6] ++ ([gd5] ++ (M)) := fun h => (o2 g16 h).elim hn19 (fun h => absurd (lt_cell (hE18 0 _ rfl)) (Nat.not_lt.2 h))
    have hE18 : ∀ j v, (cS_api_Choice a1 ao5 cap5 ao6 cap6 ao7 cap7 ao8 cap8)[j]? = some v → w68.cell? ⟨g16, 0 + j, none⟩ = some v := fun j v hv => (cell_keep hN69.chg o1 hn19 (hE18 j v hv))
    have hn19 := q_hn19
    have nw : Ok ([gd6]) ([gd5] ++ (M)) w65.heap.size := (hN69.ok _)
    have p_i9006_i9005 : ∀ x ∈ [gd6], x ∉ ([gd5]) := fun x hx hy => absurd (hM x (ml hy)) (Nat.not_lt.2 ((hN69.ge1) x hx))
    have p_i9006_M : ∀ x ∈ [gd6], x ∉ M := fun x hx hy => absurd (hM x (mr (hy))) (Nat.not_lt.2 ((hN69.ge1) x hx))
    have e_i9006 : ∀ x ∈ [gd6], w.heap.size ≤ x := fun x hx => Nat.le_trans hC.size ((hN69.ge1) x hx)
    have hM : MS ([gd6] ++ ([gd5] ++ (M))) w68 := (MS.app hN69.ms (MS.app (fun x h => hM.chg hN69.chg x (ml h)) (fun x h => hM.chg hN69.chg x (mr (h)))))
    have hC := hC.trans hN69.chg (Ok.nil _ _)
    have d_i9006 : ∀ x ∈ [gd6], w15.heap.size ≤ x := fun x hx => Nat.le_trans hS.size ((hN69.ge1) x hx)
    have hS := hS.trans hN69.chg (Ok.nil _ _)
    have hBgd6 : Box w68 gd6 (cS_api_Attrs (⟨(0 : Int), ([] : List S_api_Segment), (0 : Int), (0 : Int), (⟨(0 : Int), (List.replicate 16 (0 : Int))⟩ : S_api_Addr), ([] : List S_api_Addr), ([] : List (List Int)), ([] : List S_api_Tunnel)⟩ : S_api_Attrs) none 0 none 0 none 0 none 0) := hN69.box
    refine ae hK67 hS ?_; clear hK67 K67
    refine ac 8 (by kernel_rfl) (by rfl) fun K70 hK70 => ?_
    refine stA (l := (cS_api_Attrs a0.Route.Attrs ao1 cap1 ao2 cap2 ao3 cap3 ao4 cap4)) ha rfl rfl rfl (by kernel_rfl) rfl rfl hBgd5 rfl fun a w71 ha hb2 hc72 _ => ?_
    have o1 : Ok [gd5] ([gd6] ++ ([gd5] ++ (M))) w68.heap.size := (fun _ h => .inl (mr (ml h)))
    have o2 : Ok ([gd6] ++ ([gd5] ++ (M))) ([gd6] ++ ([gd5] ++ (M))) w68.heap.size := (Ok.app (fun _ h => .inl (ml h)) (Ok.app (fun _ h => .inl (mr (ml h))) (fun _ h => .inl (mr (mr (h))))))
    have f1 := f1.chg hc72 o1 o2
    have f2 := f2.chg hc72 o1 o2
    have f3 := f3.chg hc72 o1 o2
    have f4 := f4.chg hc72 o1 o2
    have f5 := f5.chg hc72 o1 o2
    have f6 := f6.chg hc72 o1 o2
    have f7 := f7.chg hc72 o1 o2
    have f8 := f8.chg hc72 o1 o2
    have hBgd6 := hBgd6.chg hc72 (p_i9006_i9005 gd6 (by simp))
    have q_hn14 : g11 ∉ [gd6] ++ ([gd5] ++ (M)) := fun h => (o2 g11 h).elim hn14 (fun h => absurd (lt_cell (hE13 0 _ rfl)) (Nat.not_lt.2 h))
    have hE13 : ∀ j v, (cS_api_Choice a0 ao1 cap1 ao2 cap2 ao3 cap3 ao4 cap4)[j]? = some v → w71.cell? ⟨g11, 0 + j, none⟩ = some v := fun j v hv => (cell_keep hc72 o1 hn14 (hE13 j v hv))
    have hn14 := q_hn14
    have q_hn19 : g16 ∉ [gd6] ++ ([gd5] ++ (M)) := fun h => (o2 g16 h).elim hn19 (fun h => absurd (lt_cell (hE18 0 _ rfl)) (Nat.not_lt.2 h))
    have hE18 : ∀ j v, (cS_api_Choice a1 ao5 cap5 ao6 cap6 ao7 cap7 ao8 cap8)[j]? = some v → w71.cell? ⟨g16, 0 + j, none⟩ = some v := fun j v hv => (cell_keep hc72 o1 hn19 (hE18 j v hv))
    have hn19 := q_hn19
    have hM : MS ([gd6] ++ ([gd5] ++ (M))) w71 := (MS.app (fun x h => hM.chg hc72 x (ml h)) (MS.app (fun x h => hM.chg hc72 x (mr (ml h))) (fun x h => hM.chg hc72 x (mr (mr (h))))))
    have hC := hC.trans hc72 (fun x h => .inr (e_i9005 x h))
    have hS := hS.trans hc72 (fun x h => .inr (d_i9005 x h))
    have hBgd5 : Box w71 gd5 (cS_api_Attrs a0.Route.Attrs ao1 cap1 ao2 cap2 ao3 cap3 ao4 cap4) := hb2
    refine ae hK70 hS ?_; clear hK70 K70
    refine ac 9 (by kernel_rfl) (by rfl) fun K73 hK73 => ?_
    refine stA (l := (cS_api_Attrs a1.Route.Attrs ao5 cap5 ao6 cap6 ao7 cap7 ao8 cap8)) ha rfl rfl rfl (by kernel_rfl) rfl rfl hBgd6 rfl fun a w74 ha hb2 hc75 _ => ?_
    have o1 : Ok [gd6] ([gd6] ++ ([gd5] ++ (M))) w71.heap.size := (fun _ h => .inl (ml h))
    have o2 : Ok ([gd6] ++ ([gd5] ++ (M))) ([gd6] ++ ([gd5] ++ (M))) w71.heap.size := (Ok.app (fun _ h => .inl (ml h)) (Ok.app (fun _ h => .inl (mr (ml h))) (fun _ h => .inl (mr (mr (h))))))
    have f1 := f1.chg hc75 o1 o2
    have f2 := f2.chg hc75 o1 o2
    have f3 := f3.chg hc75 o1 o2
    have f4 := f4.chg hc75 o1 o2
    have f5 := f5.chg hc75 o1 o2
    have f6 := f6.chg hc75 o1 o2
    have f7 := f7.chg hc75 o1 o2
    have f8 := f8.chg hc75 o1 o2
    have hBgd5 := hBgd5.chg hc75 ((fun x hx hy => p_i9006_i9005 x hy hx) gd5 (by simp))
    have q_hn14 : g11 ∉ [gd6] ++ ([gd5] ++ (M)) := fun h => (o2 g11 h).elim hn14 (fun h => absurd (lt_cell (hE13 0 _ rfl)) (Nat.not_lt.2 h))
    have hE13 : ∀ j v, (cS_api_Choice a0 ao1 cap1 ao2 cap2 ao3 cap3 ao4 cap4)[j]? = some v → w74.cell? ⟨g11, 0 + j, none⟩ = some v := fun j v hv => (cell_keep hc75 o1 hn14 (hE13 j v hv))
    have hn14 := q_hn14
    have q_hn19 : g16 ∉ [gd6] ++ ([gd5] ++ (M)) := fun h => (o2 g16 h).elim hn19 (fun h => absurd (lt_cell (hE18 0 _ rfl)) (Nat.not_lt.2 h))
    have hE18 : ∀ j v, (cS_api_Choice a1 ao5 cap5 ao6 cap6 ao7 cap7 ao8 cap8)[j]? = some v → w74.cell? ⟨g16, 0 + j, none⟩ = some v := fun j v hv => (cell_keep hc75 o1 hn19 (hE18 j v hv))
    have hn19 := q_hn19
    have hM : MS ([gd6] ++ ([gd5] ++ (M))) w74 := (MS.app (fun x h => hM.chg hc75 x (ml h)) (MS.app (fun x h => hM.chg hc75 x (mr (ml h))) (fun x h => hM.chg hc75 x (mr (mr (h))))))
    have hC := hC.trans hc75 (fun x h => .inr (e_i9006 x h))
    have hS := hS.trans hc75 (fun x h => .inr (d_i9006 x h))
    have hBgd6 : Box w74 gd6 (cS_api_Attrs a1.Route.Attrs ao5 cap5 ao6 cap6 ao7 cap7 ao8 cap8) := hb2
    refine ae hK73 hS ?_; clear hK73 K73
    refine dn (by kernel_rfl) ?_
    obtain rfl := Option.some.inj H
    exact J23 _ _ gd5 gd6 (ha.sel (by kernel_rfl)) f1 f2 f3 f4 f5 f6 f7 f8 hBgd5 hBgd6 hE13 hn14 hE18 hn19 e_i9006 p_i9006_i9005 p_i9006_M e_i9005 p_i9005_M hC hM
  · refine ⟨_, rfl, fun K76 hK76 => ?_⟩
    refine al (cs := (cS_api_Attrs (⟨(0 : Int), ([] : List S_api_Segment), (0 : Int), (0 : Int), (⟨(0 : Int), (List.replicate 16 (0 : Int))⟩ : S_api_Addr), ([] : List S_api_Addr), ([] : List (List Int)), ([] : List S_api_Tunnel)⟩ : S_api_Attrs) none 0 none 0 none 0 none 0)) (z := .agg (cS_api_Attrs (⟨(0 : Int), ([] : List S_api_Segment), (0 : Int), (0 : Int), (⟨(0 : Int), (List.replicate 16 (0 : Int))⟩ : S_api_Addr), ([] : List S_api_Addr), ([] : List (List Int)), ([] : List S_api_Tunnel)⟩ : S_api_Attrs) none 0 none 0 none 0 none 0).toArray) ha (fun w => by kernel_rfl) rfl rfl rfl rfl fun a w77 gd6 hN78 ha => ?_
    have o1 : Ok [] (M) w21.heap.size := Ok.nil _ _
    have o2 : Ok ([gd6] ++ (M)) (M) w21.heap.size := (Ok.app (hN78.ok _) (fun _ h => .inl (h)))
    have f1 := f1.chg hN78.chg o1 o2
    have f2 := f2.chg hN78.chg o1 o2
    have f3 := f3.chg hN78.chg o1 o2
    have f4 := f4.chg hN78.chg o1 o2
    have f5 := f5.chg hN78.chg o1 o2
    have f6 := f6.chg hN78.chg o1 o2
    have f7 := f7.chg hN78.chg o1 o2
    have f8 := f8.chg hN78.chg o1 o2
    have q_hn14 : g11 ∉ [gd6] ++ (M) := fun h => (o2 g11 h).elim hn14 (fun h => absurd (lt_cell (hE13 0 _ rfl)) (Nat.not_lt.2 h))
    have hE13 : ∀ j v, (cS_api_Choice a0 ao1 cap1 ao2 cap2 ao3 cap3 ao4 cap4)[j]? = some v → w77.cell? ⟨g11, 0 + j, none⟩ = some v := fun j v hv => (cell_keep hN78.chg o1 hn14 (hE13 j v hv))
    have hn14 := q_hn14
    have q_hn19 : g16 ∉ [gd6] ++ (M) := fun h => (o2 g16 h).elim hn19 (fun h => absurd (lt_cell (hE18 0 _ rfl)) (Nat.not_lt.2 h))
    have hE18 : ∀ j v, (cS_api_Choice a1 ao5 cap5 ao6 cap6 ao7 cap7 ao8 cap8)[j]? = some v → w77.cell? ⟨g16, 0 + j, none⟩ = some v := fun j v hv => (cell_keep hN78.chg o1 hn19 (hE18 j v hv))
    have hn19 := q_hn19
    have nw : Ok ([gd6]) (M) w21.heap.size := (hN78.ok _)
    have p_i9006_M : ∀ x ∈ [gd6], x ∉ M := fun x hx hy => absurd (hM x (hy)) (Nat.not_lt.2 ((hN78.ge1) x hx))
    have e_i9006 : ∀ x ∈ [gd6], w.heap.size ≤ x := fun x hx => Nat.le_trans hC.size ((hN78.ge1) x hx)
    have hM : MS ([gd6] ++ (M)) w77 := (MS.app hN78.ms (fun x h => hM.chg hN78.chg x (h)))
    have hC := hC.trans hN78.chg (Ok.nil _ _)
    have d_i9006 : ∀ x ∈ [gd6], w15.heap.size ≤ x := fun x hx => Nat.le_trans hS.size ((hN78.ge1) x hx)
    have hS := hS.trans hN78.chg (Ok.nil _ _)
    have hBgd6 : Box w77 gd6 (cS_api_Attrs (⟨(0 : Int), ([] : List S_api_Segment), (0 : Int), (0 : Int), (⟨(0 : Int), (List.replicate 16 (0 : Int))⟩ : S_api_Addr), ([] : List S_api_Addr), ([] : List (List Int)), ([] : List S_api_Tunnel)⟩ : S_api_Attrs) none 0 none 0 none 0 none 0) := hN78.box
    refine ae hK76 hS ?_; clear hK76 K76
    refine ac 6 (by kernel_rfl) (by rfl) fun K79 hK79 => ?_
    refine al (cs := (cS_api_Attrs (⟨(0 : Int), ([] : List S_api_Segment), (0 : Int), (0 : Int), (⟨(0 : Int), (List.replicate 16 (0 : Int))⟩ : S_api_Addr), ([] : List S_api_Addr), ([] : List (List Int)), ([] : List S_api_Tunnel)⟩ : S_api_Attrs) none 0 none 0 none 0 none 0)) (z := .agg (cS_api_Attrs (⟨(0 : Int), ([] : List S_api_Segment), (0 : Int), (0 : Int), (⟨(0 : Int), (List.replicate 16 (0 : Int))⟩ : S_api_Addr), ([] : List S_api_Addr), ([] : List (List Int)), ([] : List S_api_Tunnel)⟩ : S_api_Attrs) none 0 none 0 none 0 none 0).toArray) ha (fun w => by kernel_rfl) rfl rfl rfl rfl fun a w80 gd5 hN81 ha => ?_
    have o1 : Ok [] ([gd6] ++ (M)) w77.heap.size := Ok.nil _ _
    have o2 : Ok ([gd5] ++ ([gd6] ++ (M))) ([gd6] ++ (M)) w77.heap.size := (Ok.app (hN81.ok _) (Ok.app (fun _ h => .inl (ml h)) (fun _ h => .inl (mr (h)))))
    have f1 := f1.chg hN81.chg o1 o2
    have f2 := f2.chg hN81.chg o1 o2
    have f3 := f3.chg hN81.chg o1 o2
    have f4 := f4.chg hN81.chg o1 o2
    have f5 := f5.chg hN81.chg o1 o2
    have f6 := f6.chg hN81.chg o1 o2
    have f7 := f7.chg hN81.chg o1 o2
    have f8 := f8.chg hN81.chg o1 o2
    have hBgd6 := hBgd6.chg hN81.chg (fun h => nomatch h)
    have q_hn14 : g11 ∉ [gd5] ++ ([gd6] ++ (M)) := fun h => (o2 g11 h).elim hn14 (fun h => absurd (lt_cell (hE13 0 _ rfl)) (Nat.not_lt.2 h))
    have hE13 : ∀ j v, (cS_api_Choice a0 ao1 cap1 ao2 cap2 ao3 cap3 ao4 cap4)[j]? = some v → w80.cell? ⟨g11, 0 + j, none⟩ = some v := fun j v hv => (cell_keep hN81.chg o1 hn14 (hE13 j v hv))
    have hn14 := q_hn14
    have q_hn19 : g16 ∉ [gd5] ++ ([gd6] ++ (M)) := fun h => (o2 g16 h).elim hn19 (fun h => absurd (lt_cell (hE18 0 _ rfl)) (Nat.not_lt.2 h))
    have hE18 : ∀ j v, (cS_api_Choice a1 ao5 cap5 ao6 cap6 ao7 cap7 ao8 cap8)[j]? = some v → w80.cell? ⟨g16, 0 + j, none⟩ = some v := fun j v hv => (cell_keep hN81.chg o1 hn19 (hE18 j v hv))
    have hn19 := q_hn19
    have nw : Ok ([gd5]) ([gd6] ++ (M)) w77.heap.size := (hN81.ok _)
    have p_i9006_i9005 : ∀ x ∈ [gd6], x ∉ ([gd5]) := fun x hy hx => absurd (hM x (ml hy)) (Nat.not_lt.2 ((hN81.ge1) x hx))
    have p_i9005_M : ∀ x ∈ [gd5], x ∉ M := fun x hx hy => absurd (hM x (mr (hy))) (Nat.not_lt.2 ((hN81.ge1) x hx))
    have e_i9005 : ∀ x ∈ [gd5], w.heap.size ≤ x := fun x hx => Nat.le_trans hC.size ((hN81.ge1) x hx)
    have hM : MS ([gd5] ++ ([gd6] ++ (M))) w80 := (MS.app hN81.ms (MS.app (fun x h => hM.chg hN81.chg x (ml h)) (fun x h => hM.chg hN81.chg x (mr (h)))))
    have hC := hC.trans hN81.chg (Ok.nil _ _)
    have d_i9005 : ∀ x ∈ [gd5], w15.heap.size ≤ x := fun x hx => Nat.le_trans hS.size ((hN81.ge1) x hx)
    have hS := hS.trans hN81.chg (Ok.nil _ _)
    have hBgd5 : Box w80 gd5 (cS_api_Attrs (⟨(0 : Int), ([] : List S_api_Segment), (0 : Int), (0 : Int), (⟨(0 : Int), (List.replicate 16 (0 : Int))⟩ : S_api_Addr), ([] : List S_api_Addr), ([] : List (List Int)), ([] : List S_api_Tunnel)⟩ : S_api_Attrs) none 0 none 0 none 0 none 0) := hN81.box
    refine ae hK79 hS ?_; clear hK79 K79
    refine ac 8 (by kernel_rfl) (by rfl) fun K82 hK82 => ?_
    refine stA (l := (cS_api_Attrs a0.Route.Attrs ao1 cap1 ao2 cap2 ao3 cap3 ao4 cap4)) ha rfl rfl rfl (by kernel_rfl) rfl rfl hBgd5 rfl fun a w83 ha hb2 hc84 _ => ?_
    have o1 : Ok [gd5] ([gd5] ++ ([gd6] ++ (M))) w80.heap.size := (fun _ h => .inl (ml h))
    have o2 : Ok ([gd5] ++ ([gd6] ++ (M))) ([gd5] ++ ([gd6] ++ (M))) w80.heap.size := (Ok.app (fun _ h => .inl (ml h)) (Ok.app (fun _ h => .inl (mr (ml h))) (fun _ h => .inl (mr (mr (h))))))
    have f1 := f1.chg hc84 o1 o2
    have f2 := f2.chg hc84 o1 o2
    have f3 := f3.chg hc84 o1 o2
    have f4 := f4.chg hc84 o1 o2
    have f5 := f5.chg hc84 o1 o2
    have f6 := f6.chg hc84 o1 o2
    have f7 := f7.chg hc84 o1 o2
    have f8 := f8.chg hc84 o1 o2
    have hBgd6 := hBgd6.chg hc84 (p_i9006_i9005 gd6 (by simp))
    have q_hn14 : g11 ∉ [gd5] ++ ([gd6] ++ (M)) := fun h => (o2 g11 h).elim hn14 (fun h => absurd (lt_cell (hE13 0 _ rfl)) (Nat.not_lt.2 h))
    have hE13 : ∀ j v, (cS_api_Choice a0 ao1 cap1 ao2 cap2 ao3 cap3 ao4 cap4)[j]? = some v → w83.cell? ⟨g11, 0 + j, none⟩ = some v := fun j v hv => (cell_keep hc84 o1 hn14 (hE13 j v hv))
    have hn14 := q_hn14
    have q_hn19 : g16 ∉ [gd5] ++ ([gd6] ++ (M)) := fun h => (o2 g16 h).elim hn19 (fun h => absurd (lt_cell (hE18 0 _ rfl)) (Nat.not_lt.2 h))
    have hE18 : ∀ j v, (cS_api_Choice a1 ao5 cap5 ao6 cap6 ao7 cap7 ao8 cap8)[j]? = some v → w83.cell? ⟨g16, 0 + j, none⟩ = some v := fun j v hv => (cell_keep hc84 o1 hn19 (hE18 j v hv))
    have hn19 := q_hn19
    have hM : MS ([gd5] ++ ([gd6] ++ (M))) w83 := (MS.app (fun x h => hM.chg hc84 x (ml h)) (MS.app (fun x h => hM.chg hc84 x (mr (ml h))) (fun x h => hM.chg hc84 x (mr (mr (h))))))
    have hC := hC.trans hc84 (fun x h => .inr (e_i9005 x h))
    have hS := hS.trans hc84 (fun x h => .inr (d_i9005 x h))
    have hBgd5 : Box w83 gd5 (cS_api_Attrs a0.Route.Attrs ao1 cap1 ao2 cap2 ao3 cap3 ao4 cap4) := hb2
    refine ae hK82 hS ?_; clear hK82 K82
    refine ac 9 (by kernel_rfl) (by rfl) fun K85 hK85 => ?_
    refine stA (l := (cS_api_Attrs a1.Route.Attrs ao5 cap5 ao6 cap6 ao7 cap7 ao8 cap8)) ha rfl rfl rfl (by kernel_rfl) rfl rfl hBgd6 rfl fun a w86 ha hb2 hc87 _ => ?_
    have o1 : Ok [gd6] ([gd5] ++ ([gd6] ++ (M))) w83.heap.size := (fun _ h => .inl (mr (ml h)))
    have o2 : Ok ([gd5] ++ ([gd6] ++ (M))) ([gd5] ++ ([gd6] ++ (M))) w83.heap.size := (Ok.app (fun _ h => .inl (ml h)) (Ok.app (fun _ h => .inl (mr (ml h))) (fun _ h => .inl (mr (mr (h))))))
    have f1 := f1.chg hc87 o1 o2
    have f2 := f2.chg hc87 o1 o2
    have f3 := f3.chg hc87 o1 o2
    have f4 := f4.chg hc87 o1 o2
    have f5 := f5.chg hc87 o1 o2
    have f6 := f6.chg hc87 o1 o2
    have f7 := f7.chg hc87 o1 o2
    have f8 := f8.chg hc87 o1 o2
    have hBgd5 := hBgd5.chg hc87 ((fun x hx hy => p_i9006_i9005 x hy hx) gd5 (by simp))
    have q_hn14 : g11 ∉ [gd5] ++ ([gd6] ++ (M)) := fun h => (o2 g11 h).elim hn14 (fun h => absurd (lt_cell (hE13 0 _ rfl)) (Nat.not_lt.2 h))
    have hE13 : ∀ j v, (cS_api_Choice a0 ao1 cap1 ao2 cap2 ao3 cap3 ao4 cap4)[j]? = some v → w86.cell? ⟨g11, 0 + j, none⟩ = some v := fun j v hv => (cell_keep hc87 o1 hn14 (hE13 j v hv))
    have hn14 := q_hn14
    have q_hn19 : g16 ∉ [gd5] ++ ([gd6] ++ (M)) := fun h => (o2 g16 h).elim hn19 (fun h => absurd (lt_cell (hE18 0 _ rfl)) (Nat.not_lt.2 h))
    have hE18 : ∀ j v, (cS_api_Choice a1 ao5 cap5 ao6 cap6 ao7 cap7 ao8 cap8)[j]? = some v → w86.cell? ⟨g16, 0 + j, none⟩ = some v := fun j v hv => (cell_keep hc87 o1 hn19 (hE18 j v hv))
    have hn19 := q_hn19
    have hM : MS ([gd5] ++ ([gd6] ++ (M))) w86 := (MS.app (fun x h => hM.chg hc87 x (ml h)) (MS.app (fun x h => hM.chg hc87 x (mr (ml h))) (fun x h => hM.chg hc87 x (mr (mr (h))))))
    have hC := hC.trans hc87 (fun x h => .inr (e_i9006 x h))
    have hS := hS.trans hc87 (fun x h => .inr (d_i9006 x h))
    have hBgd6 : Box w86 gd6 (cS_api_Attrs a1.Route.Attrs ao5 cap5 ao6 cap6 ao7 cap7 ao8 cap8) := hb2
    refine ae hK85 hS ?_; clear hK85 K85
    refine dn (by kernel_rfl) ?_
    obtain rfl := Option.some.inj H
    have o1 : Ok [] ([gd5] ++ ([gd6] ++ (M))) w86.heap.size := Ok.nil _ _
    have o2 : Ok ([gd6] ++ ([gd5] ++ (M))) ([gd5] ++ ([gd6] ++ (M))) w86.heap.size := (Ok.app (fun _ h => .inl (mr (ml h))) (Ok.app (fun _ h => .inl (ml h)) (fun _ h => .inl (mr (mr (h))))))
    have f1 := f1.chg (Chg.refl [] _) o1 o2
    have f2 := f2.chg (Chg.refl [] _) o1 o2
    have f3 := f3.chg (Chg.refl [] _) o1 o2
    have f4 := f4.chg (Chg.refl [] _) o1 o2
    have f5 := f5.chg (Chg.refl [] _) o1 o2
    have f6 := f6.chg (Chg.refl [] _) o1 o2
    have f7 := f7.chg (Chg.refl [] _) o1 o2
    have f8 := f8.chg (Chg.refl [] _) o1 o2
    have hBgd6 := hBgd6.chg (Chg.refl [] _) (fun h => nomatch h)
    have hBgd5 := hBgd5.chg (Chg.refl [] _) (fun h => nomatch h)
    have q_hn14 : g11 ∉ [gd6] ++ ([gd5] ++ (M)) := fun h => (o2 g11 h).elim hn14 (fun h => absurd (lt_cell (hE13 0 _ rfl)) (Nat.not_lt.2 h))
    have hE13 : ∀ j v, (cS_api_Choice a0 ao1 cap1 ao2 cap2 ao3 cap3 ao4 cap4)[j]? = some v → w86.cell? ⟨g11, 0 + j, none⟩ = some v := fun j v hv => (cell_keep (Chg.refl [] _) o1 hn14 (hE13 j v hv))
    have hn14 := q_hn14
    have q_hn19 : g16 ∉ [gd6] ++ ([gd5] ++ (M)) := fun h => (o2 g16 h).elim hn19 (fun h => absurd (lt_cell (hE18 0 _ rfl)) (Nat.not_lt.2 h))
    have hE18 : ∀ j v, (cS_api_Choice a1 ao5 cap5 ao6 cap6 ao7 cap7 ao8 cap8)[j]? = some v → w86.cell? ⟨g16, 0 + j, none⟩ = some v := fun j v hv => (cell_keep (Chg.refl [] _) o1 hn19 (hE18 j v hv))
    have hn19 := q_hn19
    have hM : MS ([gd6] ++ ([gd5] ++ (M))) w86 := (MS.app (fun x h => hM.chg (Chg.refl [] _) x (mr (ml h))) (MS.app (fun x h => hM.chg (Chg.refl [] _) x (ml h)) (fun x h => hM.chg (Chg.refl [] _) x (mr (mr (h))))))
    have hC := hC.trans (Chg.refl [] _) (Ok.nil _ _)
    exact J23 _ _ gd5 gd6 (ha.sel (by kernel_rfl)) f1 f2 f3 f4 f5 f6 f7 f8 hBgd5 hBgd6 hE13 hn14 hE18 hn19 e_i9006 p_i9006_i9005 p_i9006_M e_i9005 p_i9005_M hC hM
def decide_Best.l0 (k : Nat) (a0 : List S_api_Choice) : Nat → Int → Int → Option (Int)
  | 0, _, _ => none
  | kk + 1, x7, x8 => (if (decide (x8 < (a0.length : Int))) = true then (if 0 ≤ x8 ∧ x8 < (a0.length : Int) then ((if (decide (x7 < (0 : Int))) = true then some (true : Bool) else (if 0 ≤ x7 ∧ x7 < (a0.length : Int) then (decide_Compare.f k (rd a0 x8) (rd a0 x7)).bind fun t49 => some (decide (t49 < (0 : Int)) : Bool) else none))).bind fun s33 => (if s33 = true then decide_Best.l0 k a0 kk x8 (IntKind.i64.wrap (x8 + (1 : Int))) else decide_Best.l0 k a0 kk x7 (IntKind.i64.wrap (x8 + (1 : Int)))) else none) else some (x7 : Int))
def decide_Best.f (k : Nat) (a0 : List S_api_Choice) : Option (Int) := (decide_Best.l0 k a0 k (-1 : Int) (0 : Int)).bind fun s6 => some ((s6 : Int))
set_option maxRecDepth 100000 in
theorem decide_Best.walk (w : World) (M : List Nat) (hM : MS M w) (a0 : List S_api_Choice) (ao1 : Option Addr) (cap1 : Nat) (f1 : RSl rS_api_Choice 42 w M ao1 cap1 a0) (k : Nat) (r : Int) (H : decide_Best.f k a0 = some r) :
    To Try.prog 10 [.slice ao1 a0.length cap1] w fun v w' => v = .int .i64 r ∧ Chg [] w w' ∧ MS (M) w' := by
  unfold decide_Best.f at H
  refine ent Try.func10 rfl [(0, .slice ao1 a0.length cap1)] rfl (by rfl) fun a ha => ?_
  have hC : Chg [] w w := Chg.refl _ _
  refine wp_seq_k fun K2 hK2 => ?_
  refine wp_region_lit ?_
  refine seg ha 1 [(0, .slice ao1 a0.length cap1)] (by kernel_rfl) fun a ha => ?_
  refine hK2 _ _ ?_; clear hK2 K2
  refine wp_seq_k fun K3 hK3 => ?_
  refine wp_region_lit ?_
  refine seg ha 1 [(0, .slice ao1 a0.length cap1), (3, .int .i64 (-1 : Int))] (by kernel_rfl) fun a ha => ?_
  refine hK3 _ _ ?_; clear hK3 K3
  refine wp_seq_k fun K4 hK4 => ?_
  refine wp_seq_k fun K5 hK5 => ?_
  refine wp_region_lit ?_
  refine seg ha 3 [(0, .slice ao1 a0.length cap1), (3, .int .i64 (-1 : Int)), (6, .slice ao1 a0.length cap1), (7, .int .i64 (a0.length : Int)), (8, .int .i64 (0 : Int))] (by kernel_rfl) fun a ha => ?_
  refine hK5 _ _ ?_; clear hK5 K5
  refine wp_block ?_
  obtain ⟨s6, H6, H⟩ := bind_some H
  have J6 : ∀ (a : Act) (wx6 : World), Has a Try.f10.ntmps [(3, .int .i64 s6)] → (Chg [] w wx6) → (MS (M) wx6) → K4 a wx6 := by
    intro a wx6 ha hC hM
    refine hK4 _ _ ?_; clear hK4 K4
    refine wp_seq_k fun K9 hK9 => ?_
    refine wp_region_lit ?_
    refine seg ha 2 [(2, .int .i64 s6)] (by kernel_rfl) fun a ha => ?_
    refine hK9 _ _ ?_; clear hK9 K9
    refine wp_ret ?_
    try simp only [Exit.then, Exit.inBlock]
    obtain rfl := Option.some.inj H
    refine rt1 ha rfl rfl ?_
    exact ⟨rfl, hC, hM⟩
  have Hc6 := H
  have H := H6
  refine wp_loop_ghost (fun kk a w6 => ∃ (x7 : Int) (x8 : Int), decide_Best.l0 k a0 kk x7 x8 = some s6 ∧ Has a Try.f10.ntmps [(0, .slice ao1 a0.length cap1), (3, .int .i64 x7), (6, .slice ao1 a0.length cap1), (7, .int .i64 (a0.length : Int)), (8, .int .i64 x8)] ∧ (RSl rS_api_Choice 42 w6 (M) ao1 cap1 a0) ∧ (Chg [] w w6) ∧ (MS (M) w6)) k ?_ ?_
  · skip
    exact ⟨(-1 : Int), (0 : Int), H, (ha.sel (by kernel_rfl)), f1, hC, hM⟩
  · rintro kk a w6 ⟨x7, x8, H, ha, f1, hC, hM⟩
    obtain _ | kk := kk
    · exact nomatch (show none = some _ from H)
    rw [decide_Best.l0] at H
    refine wp_seq_k fun K10 hK10 => ?_
    refine wp_region_lit ?_
    refine seg ha 1 [(0, .slice ao1 a0.length cap1), (3, .int .i64 x7), (6, .slice ao1 a0.length cap1), (7, .int .i64 (a0.length : Int)), (8, .int .i64 x8), (9, .bool (decide (x8 < (a0.length : Int))))] (by kernel_rfl) fun a ha => ?_
    refine hK10 _ _ ?_; clear hK10 K10
    refine wp_seq_k fun K11 hK11 => ?_
    refine cnd ha rfl (fun hc12 => ?_) (fun hc12 => ?_)
    · have H := ite_t hc12 H
      refine wp_skip ?_
      refine hK11 _ _ ?_; clear hK11 K11
      refine wp_seq_k fun K13 hK13 => ?_
      refine wp_block ?_
      refine wp_seq_k fun K14 hK14 => ?_
      refine wp_region_lit ?_
      refine seg ha 1 [(0, .slice ao1 a0.length cap1), (3, .int .i64 x7), (6, .slice ao1 a0.length cap1), (7, .int .i64 (a0.length : Int)), (8, .int .i64 x8), (10, .int .i64 x8)] (by kernel_rfl) fun a ha => ?_
      obtain ⟨⟨hx15, hx15'⟩, H⟩ := ite_some H
      refine ix (r := rS_api_Choice) ha (by kernel_rfl) (by kernel_rfl) rfl rfl rfl rfl rfl f1 hx15 hx15' fun a ge16 oe17 cs18 hn21 hR19 hE20 ha => ?_
      rw [rd_get] at hR19
      obtain ⟨ao22, cap22, ao23, cap23, ao24, cap24, ao25, cap25, rfl, f22, f23, f24, f25⟩ := rS_api_Choice.open hR19
      refine ldA (cs := (cS_api_Choice (rd a0 x8) ao22 cap22 ao23 cap23 ao24 cap24 ao25 cap25)) ha rfl (by kernel_rfl) rfl rfl rfl (cells_sub hE20 (all := (cS_api_Choice (rd a0 x8) ao22 cap22 ao23 cap23 ao24 cap24 ao25 cap25)) [] [] (by kernel_rfl)) fun a ha => ?_
      refine al (cs := (cS_api_Choice (⟨(⟨(0 : Int), (0 : Int), (⟨(0 : Int), (List.replicate 8 (0 : Int)), (0 : Int), (⟨(0 : Int), (List.replicate 16 (0 : Int))⟩ : S_api_Addr), (⟨(0 : Int), (List.replicate 16 (0 : Int))⟩ : S_api_Addr), (⟨(0 : Int), (List.replicate 16 (0 : Int))⟩ : S_api_Addr), ([] : List UInt8)⟩ : S_api_Mroute), (⟨(List.replicate 8 (0 : Int)), (⟨(⟨(0 : Int), (List.replicate 16 (0 : Int))⟩ : S_api_Addr), (0 : Int)⟩ : S_api_Prefix), (0 : Int)⟩ : S_api_Uroute), (⟨(0 : Int), (List.replicate 16 (0 : Int))⟩ : S_api_Addr), (⟨(0 : Int), ([] : List S_api_Segment), (0 : Int), (0 : Int), (⟨(0 : Int), (List.replicate 16 (0 : Int))⟩ : S_api_Addr), ([] : List S_api_Addr), ([] : List (List Int)), ([] : List S_api_Tunnel)⟩ : S_api_Attrs)⟩ : S_api_Route), (0 : Int), (⟨(0 : Int), (List.replicate 16 (0 : Int))⟩ : S_api_Addr)⟩ : S_api_Choice) none 0 none 0 none 0 none 0)) (z := .agg (cS_api_Choice (⟨(⟨(0 : Int), (0 : Int), (⟨(0 : Int), (List.replicate 8 (0 : Int)), (0 : Int), (⟨(0 : Int), (List.replicate 16 (0 : Int))⟩ : S_api_Addr), (⟨(0 : Int), (List.replicate 16 (0 : Int))⟩ : S_api_Addr), (⟨(0 : Int), (List.replicate 16 (0 : Int))⟩ : S_api_Addr), ([] : List UInt8)⟩ : S_api_Mroute), (⟨(List.replicate 8 (0 : Int)), (⟨(⟨(0 : Int), (List.replicate 16 (0 : Int))⟩ : S_api_Addr), (0 : Int)⟩ : S_api_Prefix), (0 : Int)⟩ : S_api_Uroute), (⟨(0 : Int), (List.replicate 16 (0 : Int))⟩ : S_api_Addr), (⟨(0 : Int), ([] : List S_api_Segment), (0 : Int), (0 : Int), (⟨(0 : Int), (List.replicate 16 (0 : Int))⟩ : S_api_Addr), ([] : List S_api_Addr), ([] : List (List Int)), ([] : List S_api_Tunnel)⟩ : S_api_Attrs)⟩ : S_api_Route), (0 : Int), (⟨(0 : Int), (List.replicate 16 (0 : Int))⟩ : S_api_Addr)⟩ : S_api_Choice) none 0 none 0 none 0 none 0).toArray) ha (fun w => by kernel_rfl) rfl rfl rfl rfl fun a w26 g27 hN28 ha => ?_
      have o1 : Ok [] (M) w6.heap.size := Ok.nil _ _
      have o2 : Ok ([g27] ++ (M)) (M) w6.heap.size := (Ok.app (hN28.ok _) (fun _ h => .inl (h)))
      have f1 := f1.chg hN28.chg o1 o2
      have f22 := f22.chg hN28.chg o1 o2
      have f23 := f23.chg hN28.chg o1 o2
      have f24 := f24.chg hN28.chg o1 o2
      have f25 := f25.chg hN28.chg o1 o2
      have nw : Ok ([g27]) (M) w6.heap.size := (hN28.ok _)
      have p_i29_M : ∀ x ∈ [g27], x ∉ M := fun x hx hy => absurd (hM x (hy)) (Nat.not_lt.2 ((hN28.ge1) x hx))
      have e_i29 : ∀ x ∈ [g27], w.heap.size ≤ x := fun x hx => Nat.le_trans hC.size ((hN28.ge1) x hx)
      have hM : MS ([g27] ++ (M)) w26 := (MS.app hN28.ms (fun x h => hM.chg hN28.chg x (h)))
      have hC := hC.trans hN28.chg (Ok.nil _ _)
      have hBg27 : Box w26 g27 (cS_api_Choice (⟨(⟨(0 : Int), (0 : Int), (⟨(0 : Int), (List.replicate 8 (0 : Int)), (0 : Int), (⟨(0 : Int), (List.replicate 16 (0 : Int))⟩ : S_api_Addr), (⟨(0 : Int), (List.replicate 16 (0 : Int))⟩ : S_api_Addr), (⟨(0 : Int), (List.replicate 16 (0 : Int))⟩ : S_api_Addr), ([] : List UInt8)⟩ : S_api_Mroute), (⟨(List.replicate 8 (0 : Int)), (⟨(⟨(0 : Int), (List.replicate 16 (0 : Int))⟩ : S_api_Addr), (0 : Int)⟩ : S_api_Prefix), (0 : Int)⟩ : S_api_Uroute), (⟨(0 : Int), (List.replicate 16 (0 : Int))⟩ : S_api_Addr), (⟨(0 : Int), ([] : List S_api_Segment), (0 : Int), (0 : Int), (⟨(0 : Int), (List.replicate 16 (0 : Int))⟩ : S_api_Addr), ([] : List S_api_Addr), ([] : List (List Int)), ([] : List S_api_Tunnel)⟩ : S_api_Attrs)⟩ : S_api_Route), (0 : Int), (⟨(0 : Int), (List.replicate 16 (0 : Int))⟩ : S_api_Addr)⟩ : S_api_Choice) none 0 none 0 none 0 none 0) := hN28.box
      refine seg ha 1 [(0, .slice ao1 a0.length cap1), (3, .int .i64 x7), (4, .int .i64 x8), (5, .pointer (some ⟨g27, 0, none⟩)), (6, .slice ao1 a0.length cap1), (7, .int .i64 (a0.length : Int)), (8, .int .i64 x8), (12, .agg (cS_api_Choice (rd a0 x8) ao22 cap22 ao23 cap23 ao24 cap24 ao25 cap25).toArray)] (by kernel_rfl) fun a ha => ?_
      refine stA (l := (cS_api_Choice (rd a0 x8) ao22 cap22 ao23 cap23 ao24 cap24 ao25 cap25)) ha rfl rfl rfl (by kernel_rfl) rfl rfl hBg27 rfl fun a w30 ha hb2 hc31 _ => ?_
      have o1 : Ok [g27] ([g27] ++ (M)) w26.heap.size := (fun _ h => .inl (ml h))
      have o2 : Ok ([g27] ++ (M)) ([g27] ++ (M)) w26.heap.size := (Ok.app (fun _ h => .inl (ml h)) (fun _ h => .inl (mr (h))))
      have f1 := f1.chg hc31 o1 o2
      have f22 := f22.chg hc31 o1 o2
      have f23 := f23.chg hc31 o1 o2
      have f24 := f24.chg hc31 o1 o2
      have f25 := f25.chg hc31 o1 o2
      have hM : MS ([g27] ++ (M)) w30 := (MS.app (fun x h => hM.chg hc31 x (ml h)) (fun x h => hM.chg hc31 x (mr (h))))
      have hC := hC.trans hc31 (fun x h => .inr (e_i29 x h))
      have hBg27 : Box w30 g27 (cS_api_Choice (rd a0 x8) ao22 cap22 ao23 cap23 ao24 cap24 ao25 cap25) := hb2
      refine hK14 _ _ ?_; clear hK14 K14
      refine wp_seq_k fun K32 hK32 => ?_
      refine drq0 (fun w' => Chg [] w30 w') (by kernel_rfl) (by kernel_rfl) (fun _ h => h) ?_
      obtain ⟨s33, H33, H⟩ := bind_some H
      have J33 : ∀ (a : Act) (w33 : World), Has a Try.f10.ntmps [(0, .slice ao1 a0.length cap1), (3, .int .i64 x7), (4, .int .i64 x8), (6, .slice ao1 a0.length cap1), (7, .int .i64 (a0.length : Int)), (8, .int .i64 x8), (23, .bool s33)] → (RSl rS_api_Choice 42 w33 ([g27] ++ (M)) ao1 cap1 a0) → (RSl rS_api_Segment 58 w33 ([g27] ++ (M)) ao22 cap22 ((((rd a0 x8).Route).Attrs).Path)) → (RSl rS_api_Addr 26 w33 ([g27] ++ (M)) ao23 cap23 ((((rd a0 x8).Route).Attrs).Clusters)) → (RSl (rArr .u8 8) 81 w33 ([g27] ++ (M)) ao24 cap24 ((((rd a0 x8).Route).Attrs).Exts)) → (RSl rS_api_Tunnel 70 w33 ([g27] ++ (M)) ao25 cap25 ((((rd a0 x8).Route).Attrs).Tunnels)) → (Box w33 g27 (cS_api_Choice (rd a0 x8) ao22 cap22 ao23 cap23 ao24 cap24 ao25 cap25)) → (Chg [] w w33) → (MS ([g27] ++ (M)) w33) → K32 a w33 := by
        intro a w33 ha f1 f22 f23 f24 f25 hBg27 hC hM
        refine hK32 _ _ ?_; clear hK32 K32
        refine cnd ha rfl (fun hc34 => ?_) (fun hc34 => ?_)
        · have H := ite_t hc34 H
          refine wp_region_lit ?_
          refine seg ha 2 [(0, .slice ao1 a0.length cap1), (3, .int .i64 x8), (6, .slice ao1 a0.length cap1), (7, .int .i64 (a0.length : Int)), (8, .int .i64 x8)] (by kernel_rfl) fun a ha => ?_
          refine hK13 _ _ ?_; clear hK13 K13
          refine wp_region_lit ?_
          refine seg ha 2 [(0, .slice ao1 a0.length cap1), (3, .int .i64 x8), (6, .slice ao1 a0.length cap1), (7, .int .i64 (a0.length : Int)), (8, .int .i64 (IntKind.i64.wrap (x8 + (1 : Int))))] (by kernel_rfl) fun a ha => ?_
          have o1 : Ok [] ([g27] ++ (M)) w33.heap.size := Ok.nil _ _
          have o2 : Ok (M) ([g27] ++ (M)) w33.heap.size := (fun _ h => .inl (mr (h)))
          have f1 := f1.chg (Chg.refl [] _) o1 o2
          have f22 := f22.chg (Chg.refl [] _) o1 o2
          have f23 := f23.chg (Chg.refl [] _) o1 o2
          have f24 := f24.chg (Chg.refl [] _) o1 o2
          have f25 := f25.chg (Chg.refl [] _) o1 o2
          have hBg27 := hBg27.chg (Chg.refl [] _) (fun h => nomatch h)
          have hM : MS (M) w33 := (fun x h => hM.chg (Chg.refl [] _) x (mr (h)))
          have hC := hC.trans (Chg.refl [] _) (Ok.nil _ _)
          exact ⟨kk, Nat.lt_succ_self _, ⟨x8, IntKind.i64.wrap (x8 + (1 : Int)), H, (ha.sel (by kernel_rfl)), f1, hC, hM⟩⟩
        · have H := ite_f hc34 H
          refine wp_skip ?_
          refine hK13 _ _ ?_; clear hK13 K13
          refine wp_region_lit ?_
          refine seg ha 2 [(0, .slice ao1 a0.length cap1), (3, .int .i64 x7), (6, .slice ao1 a0.length cap1), (7, .int .i64 (a0.length : Int)), (8, .int .i64 (IntKind.i64.wrap (x8 + (1 : Int))))] (by kernel_rfl) fun a ha => ?_
          have o1 : Ok [] ([g27] ++ (M)) w33.heap.size := Ok.nil _ _
          have o2 : Ok (M) ([g27] ++ (M)) w33.heap.size := (fun _ h => .inl (mr (h)))
          have f1 := f1.chg (Chg.refl [] _) o1 o2
          have f22 := f22.chg (Chg.refl [] _) o1 o2
          have f23 := f23.chg (Chg.refl [] _) o1 o2
          have f24 := f24.chg (Chg.refl [] _) o1 o2
          have f25 := f25.chg (Chg.refl [] _) o1 o2
          have hBg27 := hBg27.chg (Chg.refl [] _) (fun h => nomatch h)
          have hM : MS (M) w33 := (fun x h => hM.chg (Chg.refl [] _) x (mr (h)))
          have hC := hC.trans (Chg.refl [] _) (Ok.nil _ _)
          exact ⟨kk, Nat.lt_succ_self _, ⟨x7, IntKind.i64.wrap (x8 + (1 : Int)), H, (ha.sel (by kernel_rfl)), f1, hC, hM⟩⟩
      have H := H33
      refine qp 0 (.int .i64 x7) ha rfl rfl rfl (by kernel_rfl) fun a ha => ?_
      refine qp 0 (.bool (decide (x7 < (0 : Int)))) ha rfl rfl rfl (by kernel_rfl) fun a ha => ?_
      refine qp 0 (.bool (decide (x7 < (0 : Int)))) ha rfl rfl rfl (by kernel_rfl) fun a ha => ?_
      have ha := ha.sel (env' := [(15, .bool (decide (x7 < (0 : Int)))), (0, .slice ao1 a0.length cap1), (3, .int .i64 x7), (4, .int .i64 x8), (5, .pointer (some ⟨g27, 0, none⟩)), (6, .slice ao1 a0.length cap1), (7, .int .i64 (a0.length : Int)), (8, .int .i64 x8)]) (by kernel_rfl)
      rcases Bool.eq_false_or_eq_true (decide (x7 < (0 : Int))) with hb35 | hb35
      · have ha := ha.lit hb35
        have H := ite_t hb35 H
        refine qo ha rfl rfl rfl fun a ha => ?_
        refine qo ha rfl rfl rfl fun a ha => ?_
        refine qo ha rfl rfl rfl fun a ha => ?_
        refine qo ha rfl rfl rfl fun a ha => ?_
        refine qo ha rfl rfl rfl fun a ha => ?_
        refine qo ha rfl rfl rfl fun a ha => ?_
        refine qo ha rfl rfl rfl fun a ha => ?_
        refine qp 3 (.bool true) ha rfl rfl rfl (by kernel_rfl) fun a ha => ?_
        refine wpQuiet_nil ?_
        intro w36 hc37
        have o1 : Ok [] ([g27] ++ (M)) w30.heap.size := Ok.nil _ _
        have o2 : Ok ([g27] ++ (M)) ([g27] ++ (M)) w30.heap.size := (Ok.app (fun _ h => .inl (ml h)) (fun _ h => .inl (mr (h))))
        have f1 := f1.chg hc37 o1 o2
        have f22 := f22.chg hc37 o1 o2
        have f23 := f23.chg hc37 o1 o2
        have f24 := f24.chg hc37 o1 o2
        have f25 := f25.chg hc37 o1 o2
        have hBg27 := hBg27.chg hc37 (fun h => nomatch h)
        have hM : MS ([g27] ++ (M)) w36 := (MS.app (fun x h => hM.chg hc37 x (ml h)) (fun x h => hM.chg hc37 x (mr (h))))
        have hC := hC.trans hc37 (Ok.nil _ _)
        refine wpl_end ?_
        obtain rfl := Option.some.inj H
        exact J33 _ _ (ha.sel (by kernel_rfl)) f1 f22 f23 f24 f25 hBg27 hC hM
      · have ha := ha.lit hb35
        have H := ite_f hb35 H
        refine qv (v := .agg (cS_api_Choice (rd a0 x8) ao22 cap22 ao23 cap23 ao24 cap24 ao25 cap25).toArray) ha rfl rfl rfl (fun w' hs => ldA_run (cs := (cS_api_Choice (rd a0 x8) ao22 cap22 ao23 cap23 ao24 cap24 ao25 cap25)) ha rfl (by kernel_rfl) (cells_sub (Box.cells (Box.chg hBg27 hs (fun h => nomatch h))) (all := (cS_api_Choice (rd a0 x8) ao22 cap22 ao23 cap23 ao24 cap24 ao25 cap25)) [] [] (by kernel_rfl))) fun a ha => ?_
        refine qp 0 (.slice ao1 a0.length cap1) ha rfl rfl rfl (by kernel_rfl) fun a ha => ?_
        refine qp 0 (.int .i64 x7) ha rfl rfl rfl (by kernel_rfl) fun a ha => ?_
        obtain ⟨⟨hx38, hx38'⟩, H⟩ := ite_some H
        obtain ⟨ge39, oe400, cs41, hx38eq, hn44, hR42, hE43⟩ := RSl.elem f1 (Int.toNat x7) (by omega)
        rw [rd_get] at hR42
        obtain ⟨ao45, cap45, ao46, cap46, ao47, cap47, ao48, cap48, rfl, f45, f46, f47, f48⟩ := rS_api_Choice.open hR42
        refine qv (v := .pointer (some ⟨ge39, (oe400 + (Int.toNat x7) * rS_api_Choice.sz), none⟩)) ha rfl rfl rfl (fun w' hs => ix_run (r := rS_api_Choice) (T := 42) ha (by kernel_rfl) (by kernel_rfl) (by rfl) (by rfl) hx38eq hx38 hx38') fun a ha => ?_
        refine qv (v := .agg (cS_api_Choice (rd a0 x7) ao45 cap45 ao46 cap46 ao47 cap47 ao48 cap48).toArray) ha rfl rfl rfl (fun w' hs => ldA_run (cs := (cS_api_Choice (rd a0 x7) ao45 cap45 ao46 cap46 ao47 cap47 ao48 cap48)) ha rfl (by kernel_rfl) (cells_sub (fun j v hv => hs.keep (hE43 j v hv)) (all := (cS_api_Choice (rd a0 x7) ao45 cap45 ao46 cap46 ao47 cap47 ao48 cap48)) [] [] (by kernel_rfl))) fun a ha => ?_
        obtain ⟨t49, H49, H⟩ := bind_some H
        refine qc (.int .i64 t49) ha (by rfl) (by kernel_rfl) (by rfl) (by rfl) (by rfl) (fun w' hs => (decide_Compare.walk w' _ (hM.chg hs) (rd a0 x8) ao22 cap22 (RSl.chg f22 hs (Ok.nil _ _) (Ok.refl _ _)) ao23 cap23 (RSl.chg f23 hs (Ok.nil _ _) (Ok.refl _ _)) ao24 cap24 (RSl.chg f24 hs (Ok.nil _ _) (Ok.refl _ _)) ao25 cap25 (RSl.chg f25 hs (Ok.nil _ _) (Ok.refl _ _)) (rd a0 x7) ao45 cap45 (RSl.chg f45 hs (Ok.nil _ _) (Ok.refl _ _)) ao46 cap46 (RSl.chg f46 hs (Ok.nil _ _) (Ok.refl _ _)) ao47 cap47 (RSl.chg f47 hs (Ok.nil _ _) (Ok.refl _ _)) ao48 cap48 (RSl.chg f48 hs (Ok.nil _ _) (Ok.refl _ _)) k _ H49).mono fun v w'' ⟨hv, hc, _⟩ => ⟨hv, hs.trans hc (Ok.nil _ _)⟩) fun a ha => ?_
        refine qp 0 (.bool (decide (t49 < (0 : Int)))) ha rfl rfl rfl (by kernel_rfl) fun a ha => ?_
        refine qp 4 (.bool (decide (t49 < (0 : Int)))) ha rfl rfl rfl (by kernel_rfl) fun a ha => ?_
        refine wpQuiet_nil ?_
        intro w50 hc51
        have o1 : Ok [] ([g27] ++ (M)) w30.heap.size := Ok.nil _ _
        have o2 : Ok ([g27] ++ (M)) ([g27] ++ (M)) w30.heap.size := (Ok.app (fun _ h => .inl (ml h)) (fun _ h => .inl (mr (h))))
        have f1 := f1.chg hc51 o1 o2
        have f22 := f22.chg hc51 o1 o2
        have f23 := f23.chg hc51 o1 o2
        have f24 := f24.chg hc51 o1 o2
        have f25 := f25.chg hc51 o1 o2
        have f45 := f45.chg hc51 o1 o2
        have f46 := f46.chg hc51 o1 o2
        have f47 := f47.chg hc51 o1 o2
        have f48 := f48.chg hc51 o1 o2
        have hBg27 := hBg27.chg hc51 (fun h => nomatch h)
        have q_hn44 : ge39 ∉ [g27] ++ (M) := fun h => (o2 ge39 h).elim hn44 (fun h => absurd (lt_cell (hE43 0 _ rfl)) (Nat.not_lt.2 h))
        have hE43 : ∀ j v, (cS_api_Choice (rd a0 x7) ao45 cap45 ao46 cap46 ao47 cap47 ao48 cap48)[j]? = some v → w50.cell? ⟨ge39, (oe400 + (Int.toNat x7) * rS_api_Choice.sz) + j, none⟩ = some v := fun j v hv => (cell_keep hc51 o1 hn44 (hE43 j v hv))
        have hn44 := q_hn44
        have hM : MS ([g27] ++ (M)) w50 := (MS.app (fun x h => hM.chg hc51 x (ml h)) (fun x h => hM.chg hc51 x (mr (h))))
        have hC := hC.trans hc51 (Ok.nil _ _)
        refine wpl_end ?_
        obtain rfl := Option.some.inj H
        exact J33 _ _ (ha.sel (by kernel_rfl)) f1 f22 f23 f24 f25 hBg27 hC hM
    · have H := ite_f hc12 H
      refine wp_exit ?_
      simp only [Exit.then, Exit.inBlock, ↓reduceIte, Nat.reduceEqDiff]
      obtain rfl := Option.some.inj H
      exact J6 _ _ (ha.sel (by kernel_rfl)) hC hM
end Go.E
