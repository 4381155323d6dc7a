/- What the functions that the law reaches compute, and the walks that show it. -/
import Derived.Test.YtnbpoeiipgcogaaGreatDoorEngP
import Derived.Test.YtnbpoeiipgcogaaGreatDoorEngO
import Derived.Test.YtnbpoeiipgcogaaGreatDoorEngX
import Derived.Test.YtnbpoeiipgcogaaGreatDoorEngQ
import Derived.Test.YtnbpoeiipgcogaaGreatDoorProg
set_option linter.unusedVariables false
set_option linter.unusedSimpArgs false
namespace Go.E
open Go.RowKit Go.Proofs
structure S_api_Segment where
  Set : Bool
  AS : List Int
  deriving DecidableEq, Inhabited
def cS_api_Segment (x : S_api_Segment) (ao1 : Option Addr) (cap1 : Nat) : List Value := ([.bool x.Set] : List Value) ++ (([.slice ao1 x.AS.length cap1] : List Value))
def rS_api_Segment : Rep S_api_Segment := rIso (fun x : S_api_Segment => (x.Set, x.AS)) (rPair rBool (rSl 3 (rInt .i64)))
theorem rS_api_Segment.open {w : World} {M : List Nat} {cs : List Value} {x : S_api_Segment} (h : rS_api_Segment.R w M cs x) : ∃ (ao1 : Option Addr) (cap1 : Nat), cs = cS_api_Segment x ao1 cap1 ∧ RSl (rInt .i64) 3 w M ao1 cap1 x.AS := by
  obtain ⟨c0, k0, e0, h0, h1⟩ := h
  obtain rfl := h0
  obtain ⟨ao1, cap1, rfl, f1⟩ := h1
  subst e0
  exact ⟨ao1, cap1, rfl, f1⟩
theorem rS_api_Segment.mk {w : World} {M : List Nat} (x : S_api_Segment) {ao1 : Option Addr} {cap1 : Nat} (f1 : RSl (rInt .i64) 3 w M ao1 cap1 x.AS) : rS_api_Segment.R w M (cS_api_Segment x ao1 cap1) x := ⟨_, _, rfl, rfl, ⟨ao1, cap1, rfl, f1⟩⟩
def okS_api_Segment (x : S_api_Segment) : Prop := okB x.Set ∧ (okL 8 (okI .i64)) x.AS
structure S_api_Addr where
  Size : Int
  B : List Int
  deriving DecidableEq, Inhabited
def cS_api_Addr (x : S_api_Addr) : List Value := ([.int .i64 x.Size] : List Value) ++ (cA .u8 16 x.B)
def rS_api_Addr : Rep S_api_Addr := rIso (fun x : S_api_Addr => (x.Size, x.B)) (rPair (rInt .i64) (rArr .u8 16))
theorem rS_api_Addr.open {w : World} {M : List Nat} {cs : List Value} {x : S_api_Addr} (h : rS_api_Addr.R w M cs x) : cs = cS_api_Addr x := by
  obtain ⟨c0, k0, e0, h0, h1⟩ := h
  obtain rfl := h0
  obtain rfl := h1
  subst e0
  exact rfl
theorem rS_api_Addr.mk {w : World} {M : List Nat} (x : S_api_Addr) : rS_api_Addr.R w M (cS_api_Addr x) x := ⟨_, _, rfl, rfl, rfl⟩
def okS_api_Addr (x : S_api_Addr) : Prop := (okI .i64) x.Size ∧ (okA .u8 16) x.B
structure S_api_Tunnel where
  Leaf : Bool
  Kind : Int
  Label : Int
  Root : S_api_Addr
  Id : List Int
  deriving DecidableEq, Inhabited
def cS_api_Tunnel (x : S_api_Tunnel) (ao1 : Option Addr) (cap1 : Nat) : List Value := ([.bool x.Leaf] : List Value) ++ (([.int .i64 x.Kind] : List Value) ++ (([.int .i64 x.Label] : List Value) ++ (cS_api_Addr x.Root ++ (([.slice ao1 x.Id.length cap1] : List Value)))))
def rS_api_Tunnel : Rep S_api_Tunnel := rIso (fun x : S_api_Tunnel => (x.Leaf, (x.Kind, (x.Label, (x.Root, x.Id))))) (rPair rBool (rPair (rInt .i64) (rPair (rInt .i64) (rPair rS_api_Addr (rSl 5 (rInt .u8))))))
theorem rS_api_Tunnel.open {w : World} {M : List Nat} {cs : List Value} {x : S_api_Tunnel} (h : rS_api_Tunnel.R w M cs x) : ∃ (ao1 : Option Addr) (cap1 : Nat), cs = cS_api_Tunnel x ao1 cap1 ∧ RSl (rInt .u8) 5 w M ao1 cap1 x.Id := by
  obtain ⟨c0, k0, e0, h0, ⟨c1, k1, e1, h1, ⟨c2, k2, e2, h2, ⟨c3, k3, e3, h3, h4⟩⟩⟩⟩ := h
  have h3 := rS_api_Addr.open h3
  obtain rfl := h0
  obtain rfl := h1
  obtain rfl := h2
  obtain rfl := h3
  obtain ⟨ao1, cap1, rfl, f1⟩ := h4
  subst e3
  subst e2
  subst e1
  subst e0
  exact ⟨ao1, cap1, rfl, f1⟩
theorem rS_api_Tunnel.mk {w : World} {M : List Nat} (x : S_api_Tunnel) {ao1 : Option Addr} {cap1 : Nat} (f1 : RSl (rInt .u8) 5 w M ao1 cap1 x.Id) : rS_api_Tunnel.R w M (cS_api_Tunnel x ao1 cap1) x := ⟨_, _, rfl, rfl, ⟨_, _, rfl, rfl, ⟨_, _, rfl, rfl, ⟨_, _, rfl, (rS_api_Addr.mk x.Root), ⟨ao1, cap1, rfl, f1⟩⟩⟩⟩⟩
def okS_api_Tunnel (x : S_api_Tunnel) : Prop := okB x.Leaf ∧ (okI .i64) x.Kind ∧ (okI .i64) x.Label ∧ (okS_api_Addr) x.Root ∧ (okL 1 (okI .u8)) x.Id
structure S_api_Attrs where
  Origin : Int
  Path : List S_api_Segment
  Med : Int
  Pref : Int
  Originator : S_api_Addr
  Clusters : List S_api_Addr
  Exts : List (List Int)
  Tunnels : List S_api_Tunnel
  deriving DecidableEq, Inhabited
def cS_api_Attrs (x : S_api_Attrs) (ao1 : Option Addr) (cap1 : Nat) (ao2 : Option Addr) (cap2 : Nat) (ao3 : Option Addr) (cap3 : Nat) (ao4 : Option Addr) (cap4 : Nat) : List Value := ([.int .i64 x.Origin] : List Value) ++ (([.slice ao1 x.Path.length cap1] : List Value) ++ (([.int .i64 x.Med] : List Value) ++ (([.int .i64 x.Pref] : List Value) ++ (cS_api_Addr x.Originator ++ (([.slice ao2 x.Clusters.length cap2] : List Value) ++ (([.slice ao3 x.Exts.length cap3] : List Value) ++ (([.slice ao4 x.Tunnels.length cap4] : List Value))))))))
def rS_api_Attrs : Rep S_api_Attrs := rIso (fun x : S_api_Attrs => (x.Origin, (x.Path, (x.Med, (x.Pref, (x.Originator, (x.Clusters, (x.Exts, x.Tunnels)))))))) (rPair (rInt .i64) (rPair (rSl 101 rS_api_Segment) (rPair (rInt .i64) (rPair (rInt .i64) (rPair rS_api_Addr (rPair (rSl 25 rS_api_Addr) (rPair (rSl 124 (rArr .u8 8)) (rSl 96 rS_api_Tunnel))))))))
theorem rS_api_Attrs.open {w : World} {M : List Nat} {cs : List Value} {x : S_api_Attrs} (h : rS_api_Attrs.R w M cs x) : ∃ (ao1 : Option Addr) (cap1 : Nat) (ao2 : Option Addr) (cap2 : Nat) (ao3 : Option Addr) (cap3 : Nat) (ao4 : Option Addr) (cap4 : Nat), cs = cS_api_Attrs x ao1 cap1 ao2 cap2 ao3 cap3 ao4 cap4 ∧ RSl rS_api_Segment 101 w M ao1 cap1 x.Path ∧ RSl rS_api_Addr 25 w M ao2 cap2 x.Clusters ∧ RSl (rArr .u8 8) 124 w M ao3 cap3 x.Exts ∧ RSl rS_api_Tunnel 96 w M ao4 cap4 x.Tunnels := by
  obtain ⟨c0, k0, e0, h0, ⟨c1, k1, e1, h1, ⟨c2, k2, e2, h2, ⟨c3, k3, e3, h3, ⟨c4, k4, e4, h4, ⟨c5, k5, e5, h5, ⟨c6, k6, e6, h6, h7⟩⟩⟩⟩⟩⟩⟩ := h
  have h4 := rS_api_Addr.open h4
  obtain rfl := h0
  obtain ⟨ao1, cap1, rfl, f1⟩ := h1
  obtain rfl := h2
  obtain rfl := h3
  obtain rfl := h4
  obtain ⟨ao2, cap2, rfl, f2⟩ := h5
  obtain ⟨ao3, cap3, rfl, f3⟩ := h6
  obtain ⟨ao4, cap4, rfl, f4⟩ := h7
  subst e6
  subst e5
  subst e4
  subst e3
  subst e2
  subst e1
  subst e0
  exact ⟨ao1, cap1, ao2, cap2, ao3, cap3, ao4, cap4, rfl, f1, f2, f3, f4⟩
theorem rS_api_Attrs.mk {w : World} {M : List Nat} (x : S_api_Attrs) {ao1 : Option Addr} {cap1 : Nat} {ao2 : Option Addr} {cap2 : Nat} {ao3 : Option Addr} {cap3 : Nat} {ao4 : Option Addr} {cap4 : Nat} (f1 : RSl rS_api_Segment 101 w M ao1 cap1 x.Path) (f2 : RSl rS_api_Addr 25 w M ao2 cap2 x.Clusters) (f3 : RSl (rArr .u8 8) 124 w M ao3 cap3 x.Exts) (f4 : RSl rS_api_Tunnel 96 w M ao4 cap4 x.Tunnels) : rS_api_Attrs.R w M (cS_api_Attrs x ao1 cap1 ao2 cap2 ao3 cap3 ao4 cap4) x := ⟨_, _, rfl, rfl, ⟨_, _, rfl, ⟨ao1, cap1, rfl, f1⟩, ⟨_, _, rfl, rfl, ⟨_, _, rfl, rfl, ⟨_, _, rfl, (rS_api_Addr.mk x.Originator), ⟨_, _, rfl, ⟨ao2, cap2, rfl, f2⟩, ⟨_, _, rfl, ⟨ao3, cap3, rfl, f3⟩, ⟨ao4, cap4, rfl, f4⟩⟩⟩⟩⟩⟩⟩⟩
def okS_api_Attrs (x : S_api_Attrs) : Prop := (okI .i64) x.Origin ∧ (okL 32 (okS_api_Segment)) x.Path ∧ (okI .i64) x.Med ∧ (okI .i64) x.Pref ∧ (okS_api_Addr) x.Originator ∧ (okL 24 (okS_api_Addr)) x.Clusters ∧ (okL 8 (okA .u8 8)) x.Exts ∧ (okL 72 (okS_api_Tunnel)) x.Tunnels
structure S_api_Mroute where
  Kind : Int
  RD : List Int
  AS : Int
  Source : S_api_Addr
  Group : S_api_Addr
  From : S_api_Addr
  Key : List UInt8
  deriving DecidableEq, Inhabited
def cS_api_Mroute (x : S_api_Mroute) : List Value := ([.int .i64 x.Kind] : List Value) ++ (cA .u8 8 x.RD ++ (([.int .i64 x.AS] : List Value) ++ (cS_api_Addr x.Source ++ (cS_api_Addr x.Group ++ (cS_api_Addr x.From ++ (([.string (bstr x.Key)] : List Value)))))))
def rS_api_Mroute : Rep S_api_Mroute := rIso (fun x : S_api_Mroute => (x.Kind, (x.RD, (x.AS, (x.Source, (x.Group, (x.From, x.Key))))))) (rPair (rInt .i64) (rPair (rArr .u8 8) (rPair (rInt .i64) (rPair rS_api_Addr (rPair rS_api_Addr (rPair rS_api_Addr rStr))))))
theorem rS_api_Mroute.open {w : World} {M : List Nat} {cs : List Value} {x : S_api_Mroute} (h : rS_api_Mroute.R w M cs x) : cs = cS_api_Mroute x := by
  obtain ⟨c0, k0, e0, h0, ⟨c1, k1, e1, h1, ⟨c2, k2, e2, h2, ⟨c3, k3, e3, h3, ⟨c4, k4, e4, h4, ⟨c5, k5, e5, h5, h6⟩⟩⟩⟩⟩⟩ := h
  have h3 := rS_api_Addr.open h3
  have h4 := rS_api_Addr.open h4
  have h5 := rS_api_Addr.open h5
  obtain rfl := h0
  obtain rfl := h1
  obtain rfl := h2
  obtain rfl := h3
  obtain rfl := h4
  obtain rfl := h5
  obtain rfl := h6
  subst e5
  subst e4
  subst e3
  subst e2
  subst e1
  subst e0
  exact rfl
theorem rS_api_Mroute.mk {w : World} {M : List Nat} (x : S_api_Mroute) : rS_api_Mroute.R w M (cS_api_Mroute x) x := ⟨_, _, rfl, rfl, ⟨_, _, rfl, rfl, ⟨_, _, rfl, rfl, ⟨_, _, rfl, (rS_api_Addr.mk x.Source), ⟨_, _, rfl, (rS_api_Addr.mk x.Group), ⟨_, _, rfl, (rS_api_Addr.mk x.From), rfl⟩⟩⟩⟩⟩⟩
def okS_api_Mroute (x : S_api_Mroute) : Prop := (okI .i64) x.Kind ∧ (okA .u8 8) x.RD ∧ (okI .i64) x.AS ∧ (okS_api_Addr) x.Source ∧ (okS_api_Addr) x.Group ∧ (okS_api_Addr) x.From ∧ okS x.Key
structure S_api_Prefix where
  Addr : S_api_Addr
  Bits : Int
  deriving DecidableEq, Inhabited
def cS_api_Prefix (x : S_api_Prefix) : List Value := cS_api_Addr x.Addr ++ (([.int .i64 x.Bits] : List Value))
def rS_api_Prefix : Rep S_api_Prefix := rIso (fun x : S_api_Prefix => (x.Addr, x.Bits)) (rPair rS_api_Addr (rInt .i64))
theorem rS_api_Prefix.open {w : World} {M : List Nat} {cs : List Value} {x : S_api_Prefix} (h : rS_api_Prefix.R w M cs x) : cs = cS_api_Prefix x := by
  obtain ⟨c0, k0, e0, h0, h1⟩ := h
  have h0 := rS_api_Addr.open h0
  obtain rfl := h0
  obtain rfl := h1
  subst e0
  exact rfl
theorem rS_api_Prefix.mk {w : World} {M : List Nat} (x : S_api_Prefix) : rS_api_Prefix.R w M (cS_api_Prefix x) x := ⟨_, _, rfl, (rS_api_Addr.mk x.Addr), rfl⟩
def okS_api_Prefix (x : S_api_Prefix) : Prop := (okS_api_Addr) x.Addr ∧ (okI .i64) x.Bits
structure S_api_Uroute where
  RD : List Int
  Prefix : S_api_Prefix
  Label : Int
  deriving DecidableEq, Inhabited
def cS_api_Uroute (x : S_api_Uroute) : List Value := cA .u8 8 x.RD ++ (cS_api_Prefix x.Prefix ++ (([.int .i64 x.Label] : List Value)))
def rS_api_Uroute : Rep S_api_Uroute := rIso (fun x : S_api_Uroute => (x.RD, (x.Prefix, x.Label))) (rPair (rArr .u8 8) (rPair rS_api_Prefix (rInt .i64)))
theorem rS_api_Uroute.open {w : World} {M : List Nat} {cs : List Value} {x : S_api_Uroute} (h : rS_api_Uroute.R w M cs x) : cs = cS_api_Uroute x := by
  obtain ⟨c0, k0, e0, h0, ⟨c1, k1, e1, h1, h2⟩⟩ := h
  have h1 := rS_api_Prefix.open h1
  obtain rfl := h0
  obtain rfl := h1
  obtain rfl := h2
  subst e1
  subst e0
  exact rfl
theorem rS_api_Uroute.mk {w : World} {M : List Nat} (x : S_api_Uroute) : rS_api_Uroute.R w M (cS_api_Uroute x) x := ⟨_, _, rfl, rfl, ⟨_, _, rfl, (rS_api_Prefix.mk x.Prefix), rfl⟩⟩
def okS_api_Uroute (x : S_api_Uroute) : Prop := (okA .u8 8) x.RD ∧ (okS_api_Prefix) x.Prefix ∧ (okI .i64) x.Label
structure S_api_Table where
  Size : Int
  Safi : Int
  Next : S_api_Addr
  M : List S_api_Mroute
  U : List S_api_Uroute
  deriving DecidableEq, Inhabited
def cS_api_Table (x : S_api_Table) (ao1 : Option Addr) (cap1 : Nat) (ao2 : Option Addr) (cap2 : Nat) : List Value := ([.int .i64 x.Size] : List Value) ++ (([.int .i64 x.Safi] : List Value) ++ (cS_api_Addr x.Next ++ (([.slice ao1 x.M.length cap1] : List Value) ++ (([.slice ao2 x.U.length cap2] : List Value)))))
def rS_api_Table : Rep S_api_Table := rIso (fun x : S_api_Table => (x.Size, (x.Safi, (x.Next, (x.M, x.U))))) (rPair (rInt .i64) (rPair (rInt .i64) (rPair rS_api_Addr (rPair (rSl 105 rS_api_Mroute) (rSl 135 rS_api_Uroute)))))
theorem rS_api_Table.open {w : World} {M : List Nat} {cs : List Value} {x : S_api_Table} (h : rS_api_Table.R w M cs x) : ∃ (ao1 : Option Addr) (cap1 : Nat) (ao2 : Option Addr) (cap2 : Nat), cs = cS_api_Table x ao1 cap1 ao2 cap2 ∧ RSl rS_api_Mroute 105 w M ao1 cap1 x.M ∧ RSl rS_api_Uroute 135 w M ao2 cap2 x.U := by
  obtain ⟨c0, k0, e0, h0, ⟨c1, k1, e1, h1, ⟨c2, k2, e2, h2, ⟨c3, k3, e3, h3, h4⟩⟩⟩⟩ := h
  have h2 := rS_api_Addr.open h2
  obtain rfl := h0
  obtain rfl := h1
  obtain rfl := h2
  obtain ⟨ao1, cap1, rfl, f1⟩ := h3
  obtain ⟨ao2, cap2, rfl, f2⟩ := h4
  subst e3
  subst e2
  subst e1
  subst e0
  exact ⟨ao1, cap1, ao2, cap2, rfl, f1, f2⟩
theorem rS_api_Table.mk {w : World} {M : List Nat} (x : S_api_Table) {ao1 : Option Addr} {cap1 : Nat} {ao2 : Option Addr} {cap2 : Nat} (f1 : RSl rS_api_Mroute 105 w M ao1 cap1 x.M) (f2 : RSl rS_api_Uroute 135 w M ao2 cap2 x.U) : rS_api_Table.R w M (cS_api_Table x ao1 cap1 ao2 cap2) x := ⟨_, _, rfl, rfl, ⟨_, _, rfl, rfl, ⟨_, _, rfl, (rS_api_Addr.mk x.Next), ⟨_, _, rfl, ⟨ao1, cap1, rfl, f1⟩, ⟨ao2, cap2, rfl, f2⟩⟩⟩⟩⟩
def okS_api_Table (x : S_api_Table) : Prop := (okI .i64) x.Size ∧ (okI .i64) x.Safi ∧ (okS_api_Addr) x.Next ∧ (okL 112 (okS_api_Mroute)) x.M ∧ (okL 48 (okS_api_Uroute)) x.U
structure S_api_Update where
  Attrs : S_api_Attrs
  Reach : List S_api_Table
  Unreach : List S_api_Table
  deriving DecidableEq, Inhabited
def cS_api_Update (x : S_api_Update) (ao1 : Option Addr) (cap1 : Nat) (ao2 : Option Addr) (cap2 : Nat) (ao3 : Option Addr) (cap3 : Nat) (ao4 : Option Addr) (cap4 : Nat) (ao5 : Option Addr) (cap5 : Nat) (ao6 : Option Addr) (cap6 : Nat) : List Value := cS_api_Attrs x.Attrs ao1 cap1 ao2 cap2 ao3 cap3 ao4 cap4 ++ (([.slice ao5 x.Reach.length cap5] : List Value) ++ (([.slice ao6 x.Unreach.length cap6] : List Value)))
def rS_api_Update : Rep S_api_Update := rIso (fun x : S_api_Update => (x.Attrs, (x.Reach, x.Unreach))) (rPair rS_api_Attrs (rPair (rSl 55 rS_api_Table) (rSl 55 rS_api_Table)))
theorem rS_api_Update.open {w : World} {M : List Nat} {cs : List Value} {x : S_api_Update} (h : rS_api_Update.R w M cs x) : ∃ (ao1 : Option Addr) (cap1 : Nat) (ao2 : Option Addr) (cap2 : Nat) (ao3 : Option Addr) (cap3 : Nat) (ao4 : Option Addr) (cap4 : Nat) (ao5 : Option Addr) (cap5 : Nat) (ao6 : Option Addr) (cap6 : Nat), cs = cS_api_Update x ao1 cap1 ao2 cap2 ao3 cap3 ao4 cap4 ao5 cap5 ao6 cap6 ∧ RSl rS_api_Segment 101 w M ao1 cap1 x.Attrs.Path ∧ RSl rS_api_Addr 25 w M ao2 cap2 x.Attrs.Clusters ∧ RSl (rArr .u8 8) 124 w M ao3 cap3 x.Attrs.Exts ∧ RSl rS_api_Tunnel 96 w M ao4 cap4 x.Attrs.Tunnels ∧ RSl rS_api_Table 55 w M ao5 cap5 x.Reach ∧ RSl rS_api_Table 55 w M ao6 cap6 x.Unreach := by
  obtain ⟨c0, k0, e0, h0, ⟨c1, k1, e1, h1, h2⟩⟩ := h
  have h0 := rS_api_Attrs.open h0
  obtain ⟨ao1, cap1, ao2, cap2, ao3, cap3, ao4, cap4, rfl, f1, f2, f3, f4⟩ := h0
  obtain ⟨ao5, cap5, rfl, f5⟩ := h1
  obtain ⟨ao6, cap6, rfl, f6⟩ := h2
  subst e1
  subst e0
  exact ⟨ao1, cap1, ao2, cap2, ao3, cap3, ao4, cap4, ao5, cap5, ao6, cap6, rfl, f1, f2, f3, f4, f5, f6⟩
theorem rS_api_Update.mk {w : World} {M : List Nat} (x : S_api_Update) {ao1 : Option Addr} {cap1 : Nat} {ao2 : Option Addr} {cap2 : Nat} {ao3 : Option Addr} {cap3 : Nat} {ao4 : Option Addr} {cap4 : Nat} {ao5 : Option Addr} {cap5 : Nat} {ao6 : Option Addr} {cap6 : Nat} (f1 : RSl rS_api_Segment 101 w M ao1 cap1 x.Attrs.Path) (f2 : RSl rS_api_Addr 25 w M ao2 cap2 x.Attrs.Clusters) (f3 : RSl (rArr .u8 8) 124 w M ao3 cap3 x.Attrs.Exts) (f4 : RSl rS_api_Tunnel 96 w M ao4 cap4 x.Attrs.Tunnels) (f5 : RSl rS_api_Table 55 w M ao5 cap5 x.Reach) (f6 : RSl rS_api_Table 55 w M ao6 cap6 x.Unreach) : rS_api_Update.R w M (cS_api_Update x ao1 cap1 ao2 cap2 ao3 cap3 ao4 cap4 ao5 cap5 ao6 cap6) x := ⟨_, _, rfl, (rS_api_Attrs.mk x.Attrs f1 f2 f3 f4), ⟨_, _, rfl, ⟨ao5, cap5, rfl, f5⟩, ⟨ao6, cap6, rfl, f6⟩⟩⟩
def okS_api_Update (x : S_api_Update) : Prop := (okS_api_Attrs) x.Attrs ∧ (okL 88 (okS_api_Table)) x.Reach ∧ (okL 88 (okS_api_Table)) x.Unreach
structure S_api_Note where
  Code : Int
  Sub : Int
  Data : List Int
  deriving DecidableEq, Inhabited
def cS_api_Note (x : S_api_Note) (ao1 : Option Addr) (cap1 : Nat) : List Value := ([.int .i64 x.Code] : List Value) ++ (([.int .i64 x.Sub] : List Value) ++ (([.slice ao1 x.Data.length cap1] : List Value)))
def rS_api_Note : Rep S_api_Note := rIso (fun x : S_api_Note => (x.Code, (x.Sub, x.Data))) (rPair (rInt .i64) (rPair (rInt .i64) (rSl 5 (rInt .u8))))
theorem rS_api_Note.open {w : World} {M : List Nat} {cs : List Value} {x : S_api_Note} (h : rS_api_Note.R w M cs x) : ∃ (ao1 : Option Addr) (cap1 : Nat), cs = cS_api_Note x ao1 cap1 ∧ RSl (rInt .u8) 5 w M ao1 cap1 x.Data := by
  obtain ⟨c0, k0, e0, h0, ⟨c1, k1, e1, h1, h2⟩⟩ := h
  obtain rfl := h0
  obtain rfl := h1
  obtain ⟨ao1, cap1, rfl, f1⟩ := h2
  subst e1
  subst e0
  exact ⟨ao1, cap1, rfl, f1⟩
theorem rS_api_Note.mk {w : World} {M : List Nat} (x : S_api_Note) {ao1 : Option Addr} {cap1 : Nat} (f1 : RSl (rInt .u8) 5 w M ao1 cap1 x.Data) : rS_api_Note.R w M (cS_api_Note x ao1 cap1) x := ⟨_, _, rfl, rfl, ⟨_, _, rfl, rfl, ⟨ao1, cap1, rfl, f1⟩⟩⟩
def okS_api_Note (x : S_api_Note) : Prop := (okI .i64) x.Code ∧ (okI .i64) x.Sub ∧ (okL 1 (okI .u8)) x.Data
structure S_cursor_rest where
  left : List Int
  bad : Bool
  deriving DecidableEq, Inhabited
def cS_cursor_rest (x : S_cursor_rest) (ao1 : Option Addr) (cap1 : Nat) : List Value := ([.slice ao1 x.left.length cap1] : List Value) ++ (([.bool x.bad] : List Value))
def rS_cursor_rest : Rep S_cursor_rest := rIso (fun x : S_cursor_rest => (x.left, x.bad)) (rPair (rSl 5 (rInt .u8)) rBool)
theorem rS_cursor_rest.open {w : World} {M : List Nat} {cs : List Value} {x : S_cursor_rest} (h : rS_cursor_rest.R w M cs x) : ∃ (ao1 : Option Addr) (cap1 : Nat), cs = cS_cursor_rest x ao1 cap1 ∧ RSl (rInt .u8) 5 w M ao1 cap1 x.left := by
  obtain ⟨c0, k0, e0, h0, h1⟩ := h
  obtain ⟨ao1, cap1, rfl, f1⟩ := h0
  obtain rfl := h1
  subst e0
  exact ⟨ao1, cap1, rfl, f1⟩
theorem rS_cursor_rest.mk {w : World} {M : List Nat} (x : S_cursor_rest) {ao1 : Option Addr} {cap1 : Nat} (f1 : RSl (rInt .u8) 5 w M ao1 cap1 x.left) : rS_cursor_rest.R w M (cS_cursor_rest x ao1 cap1) x := ⟨_, _, rfl, ⟨ao1, cap1, rfl, f1⟩, rfl⟩
def okS_cursor_rest (x : S_cursor_rest) : Prop := (okL 1 (okI .u8)) x.left ∧ okB x.bad
structure S_cursor_Reader where
  rest : S_cursor_rest
  deriving DecidableEq, Inhabited
def cS_cursor_Reader (x : S_cursor_Reader) (ao1 : Option Addr) (cap1 : Nat) : List Value := cS_cursor_rest x.rest ao1 cap1
def rS_cursor_Reader : Rep S_cursor_Reader := rIso (fun x : S_cursor_Reader => x.rest) rS_cursor_rest
theorem rS_cursor_Reader.open {w : World} {M : List Nat} {cs : List Value} {x : S_cursor_Reader} (h : rS_cursor_Reader.R w M cs x) : ∃ (ao1 : Option Addr) (cap1 : Nat), cs = cS_cursor_Reader x ao1 cap1 ∧ RSl (rInt .u8) 5 w M ao1 cap1 x.rest.left := by
  have h0 := h
  have h0 := rS_cursor_rest.open h0
  obtain ⟨ao1, cap1, rfl, f1⟩ := h0
  exact ⟨ao1, cap1, rfl, f1⟩
theorem rS_cursor_Reader.mk {w : World} {M : List Nat} (x : S_cursor_Reader) {ao1 : Option Addr} {cap1 : Nat} (f1 : RSl (rInt .u8) 5 w M ao1 cap1 x.rest.left) : rS_cursor_Reader.R w M (cS_cursor_Reader x ao1 cap1) x := (rS_cursor_rest.mk x.rest f1)
def okS_cursor_Reader (x : S_cursor_Reader) : Prop := (okS_cursor_rest) x.rest
structure S_api_Raw where
  Flags : Int
  Kind : Int
  Value : List Int
  deriving DecidableEq, Inhabited
def cS_api_Raw (x : S_api_Raw) (ao1 : Option Addr) (cap1 : Nat) : List Value := ([.int .i64 x.Flags] : List Value) ++ (([.int .i64 x.Kind] : List Value) ++ (([.slice ao1 x.Value.length cap1] : List Value)))
def rS_api_Raw : Rep S_api_Raw := rIso (fun x : S_api_Raw => (x.Flags, (x.Kind, x.Value))) (rPair (rInt .i64) (rPair (rInt .i64) (rSl 5 (rInt .u8))))
theorem rS_api_Raw.open {w : World} {M : List Nat} {cs : List Value} {x : S_api_Raw} (h : rS_api_Raw.R w M cs x) : ∃ (ao1 : Option Addr) (cap1 : Nat), cs = cS_api_Raw x ao1 cap1 ∧ RSl (rInt .u8) 5 w M ao1 cap1 x.Value := by
  obtain ⟨c0, k0, e0, h0, ⟨c1, k1, e1, h1, h2⟩⟩ := h
  obtain rfl := h0
  obtain rfl := h1
  obtain ⟨ao1, cap1, rfl, f1⟩ := h2
  subst e1
  subst e0
  exact ⟨ao1, cap1, rfl, f1⟩
theorem rS_api_Raw.mk {w : World} {M : List Nat} (x : S_api_Raw) {ao1 : Option Addr} {cap1 : Nat} (f1 : RSl (rInt .u8) 5 w M ao1 cap1 x.Value) : rS_api_Raw.R w M (cS_api_Raw x ao1 cap1) x := ⟨_, _, rfl, rfl, ⟨_, _, rfl, rfl, ⟨ao1, cap1, rfl, f1⟩⟩⟩
def okS_api_Raw (x : S_api_Raw) : Prop := (okI .i64) x.Flags ∧ (okI .i64) x.Kind ∧ (okL 1 (okI .u8)) x.Value

def bytes_Clone.f (a0:List Int):Option (List Int):=if a0.length≤140737488355328 then some a0 else none
theorem bytes_Clone.walk (w:World) (M:List Nat) (hM:MS M w) (a0:List Int) (ao1:Option Addr) (cap1:Nat) (f1:RSl (rInt .u8) 5 w M ao1 cap1 a0) (r:List Int) (H:bytes_Clone.f a0=some r) :
    To Tryz.prog 66 [.slice ao1 a0.length cap1] w fun v w'=>∃ (ao2:Option Addr) (cap2:Nat),v=.slice ao2 r.length cap2∧(Own (rInt .u8) 5 w' (blkL ao2++M) ao2 cap2 r)∧(∀ x∈blkL ao2,w.heap.size≤x)∧Chg [] w w'∧MS (blkL ao2++M) w':=by
  unfold bytes_Clone.f at H;obtain ⟨hb,H⟩:=ite_some H;obtain rfl:=oj H;refine ent Tryz.func66 rfl [(0,.slice ao1 a0.length cap1)] rfl rfl fun a ha=>?_;refine wp_seq_k fun K hK=>?_;refine wp_region_lit ?_;refine sd ha 1 [] [] fun a ha=>?_;refine hK _ _ ?_;clear hK K;refine wp_seq_k fun K hK=>?_;refine wsr fun K2 hK2=>?_;refine sd ha 2 [] [(4,.bool ao1.isNone)] fun a ha=>?_;refine hK2 _ _ ?_;clear hK2 K2;refine cnd ha rfl (fun hc=>?_) (fun hc=>?_)
  · refine wsr fun K2 hK2=>?_;refine sf ha 1 [(2,.slice none 0 0)] fun a ha=>?_;refine hK2 _ _ ?_;clear hK2 K2;refine wp_ret ?_;have hx:a0=[]:=by
      rcases f1 with ⟨_,_,h | ⟨g,o,cur,fr,e,_⟩⟩
      · exact h
      · subst e;simp at hc
    simp only [Exit.then];refine rt1 ha rfl rfl ?_;exact ⟨none,0,by rw [hx];rfl,by rw [hx];exact Own.nil,(fun _ h=>nomatch h),Chg.refl _ _,hM⟩
  · refine wp_skip ?_;refine hK _ _ ?_;clear hK K;refine wp_seq_k fun K hK=>?_;refine wp_region_lit ?_;refine bsl (vals:=[]) (T:=5) ha rfl [] (fun w=>by kernel_rfl) rfl rfl rfl fun a w1 g hN ha=>?_;refine sd ha 1 [4] [(5,.slice (some ⟨g,0,none⟩) 0 0),(6,.slice ao1 a0.length cap1)] fun a ha=>?_;have hO:Own (rInt .u8) 5 w1 ([g]++M) (some ⟨g,0,none⟩) 0 []:=hN.own rfl (Nat.zero_le _);have h1:RSl (rInt .u8) 5 w1 ([g]++M) ao1 cap1 a0:=f1.chg hN.chg (Ok.nil _ _) (Ok.app (hN.ok _) (Ok.refl _ _));refine app (r:=rInt .u8) (xs:=[]) ha (ElemT.mk' (bytes:=1) (by kernel_rfl)) rfl rfl rfl rfl rfl hO h1.src (by simpa using hb) (by decide) fun a w2 ao2 cap2 hO2 hc2 hok hlt ha=>?_;refine sf ha 1 [(2,.slice ao2 ([]++a0).length cap2)] fun a ha=>?_;refine hK _ _ ?_;clear hK K;refine wp_ret ?_;refine rt1 ha rfl rfl ⟨ao2,cap2,rfl,?_,?_,?_,?_⟩
    · exact hO2.chg (Chg.refl [] _) (Ok.nil _ _) (Ok.app (fun g hg=>.inl (ml hg)) (fun g hg=>.inl (mr (mr hg)))) (fun _ _ hh=>nomatch hh) (fun g hg=>ml hg)
    · intro x hx;rcases hok x hx with h | h
      · simp [blkL] at h;subst h;exact hN.ge
      · exact Nat.le_trans hN.chg.size h
    · exact hN.chg.trans hc2 (Ok.one (.inr hN.ge))
    · exact MS.app hlt ((hM.chg hN.chg).chg hc2)

def cursor_Open.f (a0:List Int):Option (S_cursor_Reader):=(bytes_Clone.f a0).bind fun t4=>some (((⟨(⟨t4,false⟩:S_cursor_rest)⟩:S_cursor_Reader):S_cursor_Reader))
set_option maxRecDepth 100000 in
theorem cursor_Open.walk (w:World) (M:List Nat) (hM:MS M w) (a0:List Int) (ao1:Option Addr) (cap1:Nat) (f1:RSl (rInt .u8) 5 w M ao1 cap1 a0) (r:S_cursor_Reader) (H:cursor_Open.f a0=some r) :
    To Tryz.prog 46 [.slice ao1 a0.length cap1] w fun v w'=>∃ (g10:Nat) (ao12:Option Addr) (cap12:Nat),v=.pointer (some ⟨g10,0,none⟩)∧(RSl (rInt .u8) 5 w' ([g10]++(M)) ao12 cap12 r.rest.left)∧(Box w' g10 (cS_cursor_Reader r ao12 cap12))∧(∀ x∈[g10],w.heap.size≤x)∧Chg [] w w'∧MS ([g10]++(M)) w':=by
 unfold cursor_Open.f at H;refine ent Tryz.func46 rfl [(0,.slice ao1 a0.length cap1)] rfl (by rfl) fun a ha=>?_;have hC:Chg [] w w:=Chg.refl _ _;refine sqd ha 1 [] [] fun a ha=>?_;refine wsr fun K3 hK3=>?_;refine sf ha 1 [(3,.slice ao1 a0.length cap1)] fun a ha=>?_;obtain ⟨t4,H4,H⟩:=bind_some H;refine cL ha (bytes_Clone.walk w _ hM a0 ao1 cap1 f1 _ H4) ?_;rintro _ w4 ⟨ao5,cap5,rfl,f5,ne_i5,hc4,hMn⟩ a ha;have p_i5_M:=pn (B:=M) hM ne_i5 fun _ hy=>hy;have hM:MS (blkL ao5++(M)) w4:=(MS.app (fun x h=>hMn x (ml h)) (hM.chg hc4))
 have hC:=hC.t0 hc4;refine oP (.agg (cS_cursor_rest (⟨t4,false⟩:S_cursor_rest) ao5 cap5).toArray) ha fun a ha=>?_;refine oP (.agg (cS_cursor_Reader (⟨(⟨t4,false⟩:S_cursor_rest)⟩:S_cursor_Reader) ao5 cap5).toArray) ha fun a ha=>?_;have fz:=f5.toRSl (M':=M) (fun _ h=>.inl (mr (h))) (fun x hx hm=>p_i5_M x hx hm);have hM:MS M w4:=hM.sb fun _ h=>mr (h);have f5:=fz;refine bx (cs:=(cS_cursor_Reader (⟨(⟨t4,false⟩:S_cursor_rest)⟩:S_cursor_Reader) ao5 cap5)) ha rfl rfl rfl rfl rfl fun a w6 g7 hN8 ha=>?_;have o1:=oN M w4;have o2:=oA hN8 M;have f5:=f5.chg hN8.chg o1 o2;have e_i9:=eN hC (hN8.ge1);have hM:=MS.app hN8.ms (hM.chg hN8.chg);have hC:=hC.t0 hN8.chg;have hBg7:=hN8.box;refine sf ha 1 [(2,pt g7 0)] fun a ha=>?_;refine hK3 _ _ ?_;refine wrt ?_;obtain rfl:=oj H;refine rt1 ha rfl rfl ?_;exact ⟨g7,ao5,cap5,rfl,f5,hBg7,e_i9,hC,hM⟩
def cursor_rest_next.f (a0:S_cursor_rest) (a1:Int):Option (List Int×S_cursor_rest):=((if a0.bad=true then some (true:Bool) else (if (decide (a1 < (0:Int)))=true then some (true:Bool) else some (decide (a1 > (a0.left.length:Int)):Bool)))).bind fun s5=>(if s5=true then some ((([]:List Int):List Int),((⟨a0.left,true⟩:S_cursor_rest):S_cursor_rest)) else (if 0≤(0:Int)∧(0:Int)≤a1∧a1≤(a0.left.length:Int) then (if 0≤a1∧a1≤(a0.left.length:Int)∧(a0.left.length:Int)≤(a0.left.length:Int) then some ((((a0.left.take (Int.toNat a1)).drop (Int.toNat (0:Int))):List Int),((⟨((a0.left.take (Int.toNat (a0.left.length:Int))).drop (Int.toNat a1)),a0.bad⟩:S_cursor_rest):S_cursor_rest)) else none) else none))
set_option maxRecDepth 100000 in
theorem cursor_rest_next.walk (w:World) (M:List Nat) (hM:MS M w) (gp0:Nat) (a0:S_cursor_rest) (ao1:Option Addr) (cap1:Nat) (f1:RSl (rInt .u8) 5 w M ao1 cap1 a0.left) (hBgp0:Box w gp0 (cS_cursor_rest a0 ao1 cap1)) (hg_gp0:gp0∈M) (a1:Int) (r:List Int×S_cursor_rest) (H:cursor_rest_next.f a0 a1=some r) :
    To Tryz.prog 98 [.pointer (some ⟨gp0,0,none⟩),.int .i64 a1] w fun v w'=>∃ (ao22:Option Addr) (cap22:Nat) (ao23:Option Addr) (cap23:Nat),v=.slice ao22 r.1.length cap22∧(RSl (rInt .u8) 5 w' (M) ao22 cap22 r.1)∧(RSl (rInt .u8) 5 w' (M) ao23 cap23 r.2.left)∧(Box w' gp0 (cS_cursor_rest r.2 ao23 cap23))∧Chg [gp0] w w'∧MS (M) w':=by
 unfold cursor_rest_next.f at H;refine ent Tryz.func98 rfl [(0,.pointer (some ⟨gp0,0,none⟩)),(1,.int .i64 a1)] rfl (by rfl) fun a ha=>?_;have hC:Chg [gp0] w w:=Chg.refl _ _;refine sqd ha 1 [] [] fun a ha=>?_;refine wp_seq_k fun K3 hK3=>?_;refine wsr fun K4 hK4=>?_;obtain ⟨s5,H5,H⟩:=bind_some H;have J5:∀ (a:Act) (w5:World),Has a Tryz.f98.ntmps [(0,pt gp0 0),(1,.int .i64 a1),(22,.bool s5)]→(RSl (rInt .u8) 5 w5 (M) ao1 cap1 a0.left)→(Box w5 gp0 (cS_cursor_rest a0 ao1 cap1))→(Chg [gp0] w w5)→(MS (M) w5)→K4 a w5:=by
  intro a w5 ha f1 hBgp0 hC hM;refine hK4 _ _ ?_;refine cnH H ha (fun hc6 H=>?_) (fun hc6 H=>?_)
  ·refine wsr fun K7 hK7=>?_;refine sf ha 3 [(25,pt gp0 1)] fun a ha=>?_;refine st ha rfl rfl rfl (by kernel_rfl) rfl rfl hBgp0 (Nat.le_of_ble_eq_true (by kernel_rfl)) fun a w8 ha hb2 hc9 _=>?_;have o1:Ok [gp0] (M) w5.heap.size:=Ok.one (.inl (hg_gp0));have o2:=oR M w5;have f1:=f1.chg hc9 o1 o2;have hM:=hM.chg hc9;have hC:=hC.trans hc9 (Ok.one (.inl (by simp)));have hBgp0:Box w8 gp0 (cS_cursor_rest (⟨a0.left,true⟩:S_cursor_rest) ao1 cap1):=hb2;refine hK7 _ _ ?_;refine sq ha 1 [(4,.slice none 0 0)] fun a ha=>?_;refine wrt ?_;obtain rfl:=oj H;refine rt1 ha rfl rfl ?_;exact ⟨none,0,ao1,cap1,rfl,(RSl.nil (Nat.zero_le _)),f1,hBgp0,hC,hM⟩
  ·refine wp_skip ?_;refine hK3 _ _ ?_;refine wsr fun K11 hK11=>?_;refine sd ha 3 [22] [(28,pt gp0 0)] fun a ha=>?_;refine ld (v:=.slice ao1 a0.left.length cap1) ha rfl (by kernel_rfl) rfl rfl rfl (hBgp0.cell' (o:=0) rfl (by kernel_rfl)) fun a ha=>?_;refine sd ha 1 [28] [(29,.slice ao1 a0.left.length cap1),(30,.int .i64 a1)] fun a ha=>?_;obtain ⟨⟨hx12,hx12',hx12''⟩,H⟩:=ite_some H;refine slc (r:=(rInt .u8)) (l:=(0:Int)) (h:=a1) ha (by kernel_rfl) (by kernel_rfl) rfl rfl rfl rfl rfl rfl f1 hx12 hx12' hx12'' fun a ao13 cap13 f13 ha=>?_;refine sd ha 1 [29,30] [(5,.slice ao13 ((a0.left.take (Int.toNat a1)).drop (Int.toNat (0:Int))).length cap13)] fun a ha=>?_;refine hK11 _ _ ?_;refine wsr fun K14 hK14=>?_;refine sd ha 4 [0] [(32,pt gp0 0),(35,pt gp0 0)] fun a ha=>?_;refine ld (v:=.slice ao1 a0.left.length cap1) ha rfl (by kernel_rfl) rfl rfl rfl (hBgp0.cell' (o:=0) rfl (by kernel_rfl)) fun a ha=>?_;refine sd ha 1 [1,35] [(36,.slice ao1 a0.left.length cap1),(37,.int .i64 a1)] fun a ha=>?_;obtain ⟨⟨hx15,hx15',hx15''⟩,H⟩:=ite_some H;refine slc (r:=(rInt .u8)) (l:=a1) (h:=(a0.left.length:Int)) ha (by kernel_rfl) (by kernel_rfl) rfl rfl rfl rfl rfl rfl f1 hx15 hx15' hx15'' fun a ao16 cap16 f16 ha=>?_;refine sd ha 2 [32,36,37] [(38,.slice ao16 ((a0.left.take (Int.toNat (a0.left.length:Int))).drop (Int.toNat a1)).length cap16),(40,pt gp0 0)] fun a ha=>?_;refine st ha rfl rfl rfl (by kernel_rfl) rfl rfl hBgp0 (Nat.le_of_ble_eq_true (by kernel_rfl)) fun a w17 ha hb2 hc18 _=>?_;have o1:Ok [gp0] (M) w5.heap.size:=Ok.one (.inl (hg_gp0));have o2:=oR M w5;have f13:=f13.chg hc18 o1 o2;have f16:=f16.chg hc18 o1 o2;have hM:=hM.chg hc18;have hC:=hC.trans hc18 (Ok.one (.inl (by simp)));have hBgp0:Box w17 gp0 (cS_cursor_rest (⟨((a0.left.take (Int.toNat (a0.left.length:Int))).drop (Int.toNat a1)),a0.bad⟩:S_cursor_rest) ao16 cap16):=hb2;refine hK14 _ _ ?_;refine sq ha 2 [(4,.slice ao13 ((a0.left.take (Int.toNat a1)).drop (Int.toNat (0:Int))).length cap13)] fun a ha=>?_;refine wrt ?_;obtain rfl:=oj H;refine rt1 ha rfl rfl ?_;exact ⟨ao13,cap13,ao16,cap16,rfl,f13,f16,hBgp0,hC,hM⟩
 have H:=H5;refine sd ha 3 [] [(8,pt gp0 1)] fun a ha=>?_;refine ld (v:=.bool a0.bad) ha rfl (by kernel_rfl) rfl rfl rfl (hBgp0.cell' (o:=1) rfl (by kernel_rfl)) fun a ha=>?_;refine sd ha 1 [8] [(10,.bool a0.bad)] fun a ha=>?_;rcases Bool.eq_false_or_eq_true (a0.bad) with hb20 | hb20
 ·have ha:=ha.lit hb20;have H:=ite_t hb20 H;refine sgd ha 12 [1,1,3,0,1,1,1,1,1,1,1,3] [10] [(22,.bool true)] fun a ha=>?_;obtain rfl:=oj H;exact J5 _ _ (ha.sel (by kernel_rfl)) f1 hBgp0 hC hM
 ·have ha:=ha.lit hb20;have H:=ite_f hb20 H;refine sgd ha 4 [2,2,4,0] [10] [(14,.bool (decide (a1 < (0:Int))))] fun a ha=>?_;rcases Bool.eq_false_or_eq_true (decide (a1 < (0:Int))) with hb21 | hb21
  ·have ha:=ha.lit hb21;have H:=ite_t hb21 H;refine sgd ha 8 [1,1,1,1,1,1,1,3] [14] [(22,.bool true)] fun a ha=>?_;obtain rfl:=oj H;exact J5 _ _ (ha.sel (by kernel_rfl)) f1 hBgp0 hC hM
  ·have ha:=ha.lit hb21;have H:=ite_f hb21 H;refine sgd ha 4 [2,2,2,2] [] [(14,.bool false),(15,.int .i64 a1),(18,pt gp0 0)] fun a ha=>?_;refine ld (v:=.slice ao1 a0.left.length cap1) ha rfl (by kernel_rfl) rfl rfl rfl (hBgp0.cell' (o:=0) rfl (by kernel_rfl)) fun a ha=>?_;refine sgd ha 3 [2,2,4] [14,15,18] [(22,.bool (decide (a1 > (a0.left.length:Int))))] fun a ha=>?_;obtain rfl:=oj H;exact J5 _ _ (ha.sel (by kernel_rfl)) f1 hBgp0 hC hM
def cursor_Reader_Num.l0 (t8:List Int×S_cursor_rest):Nat→Int→Int→Option (Int)
  | 0,_,_=>none
  | kk+1,x12,x13=>(if (decide (x13 < (t8.1.length:Int)))=true then (if 0≤x13∧x13 < (t8.1.length:Int) then cursor_Reader_Num.l0 t8 kk (IntKind.i64.wrap (BitVec.ofInt IntKind.i64.bits (IntKind.i64.wrap (x12*2^(min (8:Int).toNat IntKind.i64.bits))) ||| BitVec.ofInt IntKind.i64.bits (IntKind.i64.wrap (rd t8.1 x13))).toNat) (IntKind.i64.wrap (x13+(1:Int))) else none) else some (x12:Int))
def cursor_Reader_Num.f (k:Nat) (a0:S_cursor_Reader) (a1:Int):Option (Int×S_cursor_Reader):=((if (if (decide (a1 < (1:Int)))=true then true else (decide (a1 > (4:Int))))=true then some ((-1:Int):Int) else some (a1:Int))).bind fun s4=>(cursor_rest_next.f a0.rest s4).bind fun t8=>(cursor_Reader_Num.l0 t8 k (0:Int) (0:Int)).bind fun s11=>some ((s11:Int),((⟨t8.2⟩:S_cursor_Reader):S_cursor_Reader))
set_option maxRecDepth 100000 in
theorem cursor_Reader_Num.walk (w:World) (M:List Nat) (hM:MS M w) (gp0:Nat) (a0:S_cursor_Reader) (ao1:Option Addr) (cap1:Nat) (f1:RSl (rInt .u8) 5 w M ao1 cap1 a0.rest.left) (hBgp0:Box w gp0 (cS_cursor_Reader a0 ao1 cap1)) (hg_gp0:gp0∈M) (a1:Int) (k:Nat) (r:Int×S_cursor_Reader) (H:cursor_Reader_Num.f k a0 a1=some r) :
    To Tryz.prog 48 [.pointer (some ⟨gp0,0,none⟩),.int .i64 a1] w fun v w'=>∃ (ao29:Option Addr) (cap29:Nat),v=.int .i64 r.1∧(RSl (rInt .u8) 5 w' (M) ao29 cap29 r.2.rest.left)∧(Box w' gp0 (cS_cursor_Reader r.2 ao29 cap29))∧Chg [gp0] w w'∧MS (M) w':=by
 unfold cursor_Reader_Num.f at H;refine ent Tryz.func48 rfl [(0,.pointer (some ⟨gp0,0,none⟩)),(1,.int .i64 a1)] rfl (by rfl) fun a ha=>?_;have hC:Chg [gp0] w w:=Chg.refl _ _;refine sqd ha 1 [] [] fun a ha=>?_;refine wp_seq_k fun K3 hK3=>?_;obtain ⟨s4,H4,H⟩:=bind_some H;have J4:∀ (a:Act) (w4:World),Has a Tryz.f48.ntmps [(0,pt gp0 0),(1,.int .i64 s4)]→(RSl (rInt .u8) 5 w4 (M) ao1 cap1 a0.rest.left)→(Box w4 gp0 (cS_cursor_Reader a0 ao1 cap1))→(Chg [gp0] w w4)→(MS (M) w4)→K3 a w4:=by
  intro a w4 ha f1 hBgp0 hC hM;refine hK3 _ _ ?_;refine sqd ha 1 [] [(5,.int .i64 0)] fun a ha=>?_;refine wp_seq_k fun K6 hK6=>?_;refine wsr fun K7 hK7=>?_;refine sd ha 4 [0,1] [(16,pt gp0 0),(17,.int .i64 s4)] fun a ha=>?_;obtain ⟨t8,H8,H⟩:=bind_some H;refine cL ha (cursor_rest_next.walk w4 _ hM gp0 a0.rest ao1 cap1 f1 hBgp0 (hg_gp0) s4 _ H8) ?_;rintro _ w8 ⟨ao9,cap9,ao10,cap10,rfl,f9,f10,qhBgp0,hc8,hMn⟩ a ha;have hM:=hM.chg hc8;have hC:=hC.trans hc8 (Ok.one (.inl (by simp)));have hBgp0:=qhBgp0;refine sd ha 2 [16,17] [(18,.slice ao9 t8.1.length cap9),(19,.int .i64 (t8.1.length:Int)),(20,.int .i64 0)] fun a ha=>?_;refine hK7 _ _ ?_;refine wp_block ?_;obtain ⟨s11,H11,H⟩:=bind_some H;have J11:∀ (a:Act) (wx11:World),Has a Tryz.f48.ntmps [(5,.int .i64 s11)]→(RSl (rInt .u8) 5 wx11 (M) ao10 cap10 t8.2.left)→(Box wx11 gp0 (cS_cursor_Reader (⟨t8.2⟩:S_cursor_Reader) ao10 cap10))→(Chg [gp0] w wx11)→(MS (M) wx11)→K6 a wx11:=by
   intro a wx11 ha f10 hBgp0 hC hM;refine hK6 _ _ ?_;refine sq ha 2 [(4,.int .i64 s11)] fun a ha=>?_;refine wrt ?_;obtain rfl:=oj H;refine rt1 ha rfl rfl ?_;exact ⟨ao10,cap10,rfl,f10,hBgp0,hC,hM⟩
  have Hc11:=H;have H:=H11;refine wp_loop_ghost (fun kk a w11=>∃ (x12:Int) (x13:Int),cursor_Reader_Num.l0 t8 kk x12 x13=some s11∧Has a Tryz.f48.ntmps [(5,.int .i64 x12),(18,.slice ao9 t8.1.length cap9),(19,.int .i64 (t8.1.length:Int)),(20,.int .i64 x13)]∧(RSl (rInt .u8) 5 w11 (M) ao9 cap9 t8.1)∧(RSl (rInt .u8) 5 w11 (M) ao10 cap10 t8.2.left)∧(Box w11 gp0 (cS_cursor_Reader (⟨t8.2⟩:S_cursor_Reader) ao10 cap10))∧(Chg [gp0] w w11)∧(MS (M) w11)) k ?_ ?_
  ·skip;exact ⟨(0:Int),(0:Int),H,(ha.sel (by kernel_rfl)),f9,f10,hBgp0,hC,hM⟩
  ·rintro kk a w11 ⟨x12,x13,H,ha,f9,f10,hBgp0,hC,hM⟩;obtain _ | kk:=kk
   ·exact nomatch (show none=some _ from H)
   rw [cursor_Reader_Num.l0] at H;refine sqd ha 1 [] [(21,.bool (decide (x13 < (t8.1.length:Int))))] fun a ha=>?_;refine wp_seq_k fun K16 hK16=>?_;refine cnH H ha (fun hc17 H=>?_) (fun hc17 H=>?_)
   ·refine wp_skip ?_;refine hK16 _ _ ?_;refine wp_seq_k fun K18 hK18=>?_;refine wp_block ?_;refine wsr fun K19 hK19=>?_;obtain ⟨⟨hx20,hx20'⟩,H⟩:=ite_some H;refine ix (r:=(rInt .u8)) ha (by kernel_rfl) (by kernel_rfl) rfl rfl rfl rfl rfl f9 hx20 hx20' fun a ge21 oe22 cs23 hn26 hR24 hE25 ha=>?_;rw [rd_get] at hR24;obtain rfl:=hR24;have hE25:Cs w11 ge21 oe22 ([.int .u8 (rd t8.1 x13)]:List Value):=hE25;refine ld ha rfl (by kernel_rfl) rfl rfl rfl (hE25 0 (.int .u8 (rd t8.1 x13)) (by kernel_rfl)) fun a ha=>?_;refine sd ha 1 [21] [(7,.int .u8 (rd t8.1 x13))] fun a ha=>?_;refine hK19 _ _ ?_;refine wp_region_lit ?_;refine sd ha 6 [7] [(5,.int .i64 (IntKind.i64.wrap (BitVec.ofInt IntKind.i64.bits (IntKind.i64.wrap (x12*2^(min (8:Int).toNat IntKind.i64.bits))) ||| BitVec.ofInt IntKind.i64.bits (IntKind.i64.wrap (rd t8.1 x13))).toNat))] fun a ha=>?_;refine hK18 _ _ ?_;refine wp_region_lit ?_;refine sd ha 2 [] [(20,.int .i64 (IntKind.i64.wrap (x13+(1:Int))))] fun a ha=>?_;exact ⟨kk,Nat.lt_succ_self _,⟨IntKind.i64.wrap (BitVec.ofInt IntKind.i64.bits (IntKind.i64.wrap (x12*2^(min (8:Int).toNat IntKind.i64.bits))) ||| BitVec.ofInt IntKind.i64.bits (IntKind.i64.wrap (rd t8.1 x13))).toNat,IntKind.i64.wrap (x13+(1:Int)),H,(ha.sel (by kernel_rfl)),f9,f10,hBgp0,hC,hM⟩⟩
   ·refine wx ?_;obtain rfl:=oj H;exact J11 _ _ (ha.sel (by kernel_rfl)) f10 hBgp0 hC hM
 have H:=H4;refine sqd ha 6 [] [(13,.bool (if (decide (a1 < (1:Int)))=true then true else (decide (a1 > (4:Int)))))] fun a ha=>?_;refine cnH H ha (fun hc28 H=>?_) (fun hc28 H=>?_)
 ·refine wp_region_lit ?_;refine sd ha 1 [13] [(1,.int .i64 (-1))] fun a ha=>?_;obtain rfl:=oj H;exact J4 _ _ (ha.sel (by kernel_rfl)) f1 hBgp0 hC hM
 ·refine wp_skip ?_;obtain rfl:=oj H;exact J4 _ _ (ha.sel (by kernel_rfl)) f1 hBgp0 hC hM
def cursor_Reader_Take.f (a0:S_cursor_Reader) (a1:Int):Option (List Int×S_cursor_Reader):=(cursor_rest_next.f a0.rest a1).bind fun t4=>(bytes_Clone.f t4.1).bind fun t7=>some ((t7:List Int),((⟨t4.2⟩:S_cursor_Reader):S_cursor_Reader))
set_option maxRecDepth 100000 in
theorem cursor_Reader_Take.walk (w:World) (M:List Nat) (hM:MS M w) (gp0:Nat) (a0:S_cursor_Reader) (ao1:Option Addr) (cap1:Nat) (f1:RSl (rInt .u8) 5 w M ao1 cap1 a0.rest.left) (hBgp0:Box w gp0 (cS_cursor_Reader a0 ao1 cap1)) (hg_gp0:gp0∈M) (a1:Int) (r:List Int×S_cursor_Reader) (H:cursor_Reader_Take.f a0 a1=some r) :
    To Tryz.prog 47 [.pointer (some ⟨gp0,0,none⟩),.int .i64 a1] w fun v w'=>∃ (ao9:Option Addr) (cap9:Nat) (ao10:Option Addr) (cap10:Nat),v=.slice ao9 r.1.length cap9∧(Own (rInt .u8) 5 w' (blkL ao9++(M)) ao9 cap9 r.1)∧(RSl (rInt .u8) 5 w' (blkL ao9++(M)) ao10 cap10 r.2.rest.left)∧(Box w' gp0 (cS_cursor_Reader r.2 ao10 cap10))∧(∀ x∈blkL ao9,w.heap.size≤x)∧Chg [gp0] w w'∧MS (blkL ao9++(M)) w':=by
 unfold cursor_Reader_Take.f at H;refine ent Tryz.func47 rfl [(0,.pointer (some ⟨gp0,0,none⟩)),(1,.int .i64 a1)] rfl (by rfl) fun a ha=>?_;have hC:Chg [gp0] w w:=Chg.refl _ _;refine sqd ha 1 [] [] fun a ha=>?_;refine wsr fun K3 hK3=>?_;refine sf ha 4 [(7,pt gp0 0),(8,.int .i64 a1)] fun a ha=>?_;obtain ⟨t4,H4,H⟩:=bind_some H;refine cL ha (cursor_rest_next.walk w _ hM gp0 a0.rest ao1 cap1 f1 hBgp0 (hg_gp0) a1 _ H4) ?_;rintro _ w4 ⟨ao5,cap5,ao6,cap6,rfl,f5,f6,qhBgp0,hc4,hMn⟩ a ha;have hM:=hM.chg hc4;have hC:=hC.trans hc4 (Ok.one (.inl (by simp)));have hBgp0:=qhBgp0;obtain ⟨t7,H7,H⟩:=bind_some H;refine cL ha (bytes_Clone.walk w4 _ hM t4.1 ao5 cap5 f5 _ H7) ?_;rintro _ w7 ⟨ao8,cap8,rfl,f8,ne_i8,hc7,hMn⟩ a ha;have o1:=oN M w4;have o2:Ok (blkL ao8++(M)) (M) w4.heap.size:=(Ok.app (fun x h=>.inr (ne_i8 x h)) (Ok.refl _ _))
 have f6:=f6.chg hc7 o1 o2;have hBgp0:=hBgp0.c0 hc7;have e_i8:=eN hC ne_i8;have hM:MS (blkL ao8++(M)) w7:=(MS.app (fun x h=>hMn x (ml h)) (hM.chg hc7))
 have hC:=hC.t0 hc7;refine sf ha 1 [(4,.slice ao8 t7.length cap8)] fun a ha=>?_;refine hK3 _ _ ?_;refine wrt ?_;obtain rfl:=oj H;refine rt1 ha rfl rfl ?_;exact ⟨ao8,cap8,ao6,cap6,rfl,f8,f6,hBgp0,e_i8,hC,hM⟩
def cursor_rest_Left.f (a0:S_cursor_rest):Option (Int):=(if a0.bad=true then some (((0:Int):Int)) else some (((a0.left.length:Int):Int)))
set_option maxRecDepth 100000 in
theorem cursor_rest_Left.walk (w:World) (M:List Nat) (hM:MS M w) (gp0:Nat) (a0:S_cursor_rest) (ao1:Option Addr) (cap1:Nat) (f1:RSl (rInt .u8) 5 w M ao1 cap1 a0.left) (hBgp0:Box w gp0 (cS_cursor_rest a0 ao1 cap1)) (hg_gp0:gp0∈M) (r:Int) (H:cursor_rest_Left.f a0=some r) :
    To Tryz.prog 99 [.pointer (some ⟨gp0,0,none⟩)] w fun v w'=>v=.int .i64 r∧Chg [] w w'∧MS (M) w':=by
 unfold cursor_rest_Left.f at H;refine ent Tryz.func99 rfl [(0,.pointer (some ⟨gp0,0,none⟩))] rfl (by rfl) fun a ha=>?_;have hC:Chg [] w w:=Chg.refl _ _;refine sqd ha 1 [] [] fun a ha=>?_;refine wp_seq_k fun K3 hK3=>?_;refine wsr fun K4 hK4=>?_;refine sd ha 3 [] [(5,pt gp0 1)] fun a ha=>?_;refine ld (v:=.bool a0.bad) ha rfl (by kernel_rfl) rfl rfl rfl (hBgp0.cell' (o:=1) rfl (by kernel_rfl)) fun a ha=>?_;refine hK4 _ _ ?_;refine cnH H ha (fun hc5 H=>?_) (fun hc5 H=>?_)
 ·refine sq ha 1 [(2,.int .i64 0)] fun a ha=>?_;refine wrt ?_;obtain rfl:=oj H;refine rt1 ha rfl rfl ?_;exact ⟨rfl,hC,hM⟩
 ·refine wp_skip ?_;refine hK3 _ _ ?_;refine wsr fun K7 hK7=>?_;refine sf ha 3 [(9,pt gp0 0)] fun a ha=>?_;refine ld (v:=.slice ao1 a0.left.length cap1) ha rfl (by kernel_rfl) rfl rfl rfl (hBgp0.cell' (o:=0) rfl (by kernel_rfl)) fun a ha=>?_;refine sf ha 2 [(2,.int .i64 (a0.left.length:Int))] fun a ha=>?_;refine hK7 _ _ ?_;refine wrt ?_;obtain rfl:=oj H;refine rt1 ha rfl rfl ?_;exact ⟨rfl,hC,hM⟩
def cursor_rest_Bad.f (a0:S_cursor_rest):Option (Bool):=some ((a0.bad:Bool))
set_option maxRecDepth 100000 in
theorem cursor_rest_Bad.walk (w:World) (M:List Nat) (hM:MS M w) (gp0:Nat) (a0:S_cursor_rest) (ao1:Option Addr) (cap1:Nat) (f1:RSl (rInt .u8) 5 w M ao1 cap1 a0.left) (hBgp0:Box w gp0 (cS_cursor_rest a0 ao1 cap1)) (hg_gp0:gp0∈M) (r:Bool) (H:cursor_rest_Bad.f a0=some r) :
    To Tryz.prog 50 [.pointer (some ⟨gp0,0,none⟩)] w fun v w'=>v=.bool r∧Chg [] w w'∧MS (M) w':=by
 unfold cursor_rest_Bad.f at H;refine ent Tryz.func50 rfl [(0,.pointer (some ⟨gp0,0,none⟩))] rfl (by rfl) fun a ha=>?_;have hC:Chg [] w w:=Chg.refl _ _;refine sqd ha 1 [] [] fun a ha=>?_;refine wsr fun K3 hK3=>?_;refine sf ha 3 [(5,pt gp0 1)] fun a ha=>?_;refine ld (v:=.bool a0.bad) ha rfl (by kernel_rfl) rfl rfl rfl (hBgp0.cell' (o:=1) rfl (by kernel_rfl)) fun a ha=>?_;refine sf ha 1 [(2,.bool a0.bad)] fun a ha=>?_;refine hK3 _ _ ?_;refine wrt ?_;obtain rfl:=oj H;refine rt1 ha rfl rfl ?_;exact ⟨rfl,hC,hM⟩
def attr_Split.l0 (k:Nat):Nat→(List S_api_Raw)→(List Int)→Bool→Option ((List S_api_Raw×Int) ⊕ (List S_api_Raw×List Int×Bool))
  | 0,_,_,_=>none
  | kk+1,x13,x14,x15=>(cursor_rest_Left.f (⟨x14,x15⟩:S_cursor_rest)).bind fun t22=>(if (decide (t22 > (0:Int)))=true then (if ((x13.length:Int)==(64:Int))=true then some (.inl ((([]:List S_api_Raw):List S_api_Raw),((2:Int):Int))) else (cursor_Reader_Num.f k (⟨(⟨x14,x15⟩:S_cursor_rest)⟩:S_cursor_Reader) (1:Int)).bind fun t30=>(cursor_Reader_Num.f k t30.2 (1:Int)).bind fun t33=>((if ((IntKind.i64.wrap (BitVec.ofInt IntKind.i64.bits t30.1 &&& BitVec.ofInt IntKind.i64.bits (16:Int)).toNat) != (0:Int))=true then some ((2:Int):Int) else some ((1:Int):Int))).bind fun s43=>(cursor_Reader_Num.f k t33.2 s43).bind fun t45=>(cursor_Reader_Take.f t45.2 t45.1).bind fun t48=>(cursor_rest_Bad.f t48.2.rest).bind fun t55=>(if t55=true then some (.inl ((([]:List S_api_Raw):List S_api_Raw),((3:Int):Int))) else (if (x13.length+([(⟨IntKind.i64.wrap (BitVec.ofInt IntKind.i64.bits t30.1 &&& ~~~ BitVec.ofInt IntKind.i64.bits (16:Int)).toNat,t33.1,t48.1⟩:S_api_Raw)]:List S_api_Raw).length)*40≤140737488355328 then attr_Split.l0 k kk (x13++([(⟨IntKind.i64.wrap (BitVec.ofInt IntKind.i64.bits t30.1 &&& ~~~ BitVec.ofInt IntKind.i64.bits (16:Int)).toNat,t33.1,t48.1⟩:S_api_Raw)]:List S_api_Raw)) t48.2.rest.left t48.2.rest.bad else none))) else some (.inr ((x13:List S_api_Raw),(x14:List Int),(x15:Bool))))
def attr_Split.f (k:Nat) (a0:List Int):Option (List S_api_Raw×Int):=(cursor_Open.f a0).bind fun t6=>(attr_Split.l0 k k ([]:List S_api_Raw) t6.rest.left t6.rest.bad).bind fun s10=>match s10 with | .inl r=>some r | .inr s10'=>some ((s10'.1:List S_api_Raw),((0:Int):Int))
set_option maxRecDepth 100000 in
theorem attr_Split.walk (w:World) (M:List Nat) (hM:MS M w) (a0:List Int) (ao1:Option Addr) (cap1:Nat) (f1:RSl (rInt .u8) 5 w M ao1 cap1 a0) (k:Nat) (r:List S_api_Raw×Int) (H:attr_Split.f k a0=some r) :
    To Tryz.prog 49 [.slice ao1 a0.length cap1] w fun v w'=>∃ (ao69:Option Addr) (cap69:Nat),v=.tuple #[.slice ao69 r.1.length cap69,.int .i64 r.2]∧(Own rS_api_Raw 65 w' (blkL ao69++(M)) ao69 cap69 r.1)∧(∀ x∈blkL ao69,w.heap.size≤x)∧Chg [] w w'∧MS (blkL ao69++(M)) w':=by
 unfold attr_Split.f at H;refine ent Tryz.func49 rfl [(0,.slice ao1 a0.length cap1)] rfl (by rfl) fun a ha=>?_;have hC:Chg [] w w:=Chg.refl _ _;refine sqd ha 2 [] [] fun a ha=>?_;refine sqd ha 1 [] [(4,.slice none 0 0)] fun a ha=>?_;refine wp_seq_k fun K4 hK4=>?_;refine wsr fun K5 hK5=>?_;refine sd ha 1 [0] [(10,.slice ao1 a0.length cap1)] fun a ha=>?_;obtain ⟨t6,H6,H⟩:=bind_some H;refine cL ha (cursor_Open.walk w _ hM a0 ao1 cap1 f1 _ H6) ?_;rintro _ w6 ⟨g7,ao9,cap9,rfl,f9,hBg7,ne_i8,hc6,hMn⟩ a ha;have o1:=oN M w;have o2:Ok ([g7]++(M)) (M) w.heap.size:=(Ok.app (fun x h=>.inr (ne_i8 x h)) (Ok.refl _ _))
 have e_i8:=eN hC ne_i8;have hM:MS ([g7]++(M)) w6:=(MS.app (fun x h=>hMn x (ml h)) (hM.chg hc6))
 have hC:=hC.t0 hc6;refine sd ha 1 [10] [(5,pt g7 0)] fun a ha=>?_;refine hK5 _ _ ?_;refine wp_block ?_;obtain ⟨s10,H10,H⟩:=bind_some H;have J10:∀ s10' (a:Act) (wx10:World) (ao16:Option Addr) (cap16:Nat) (ao17:Option Addr) (cap17:Nat),s10=.inr s10'→Has a Tryz.f49.ntmps [(4,.slice ao16 s10'.1.length cap16)]→(Own rS_api_Raw 65 wx10 (blkL ao16++([g7]++(M))) ao16 cap16 s10'.1)→(RSl (rInt .u8) 5 wx10 (blkL ao16++([g7]++(M))) ao17 cap17 s10'.2.1)→(Box wx10 g7 (cS_cursor_Reader (⟨(⟨s10'.2.1,s10'.2.2⟩:S_cursor_rest)⟩:S_cursor_Reader) ao17 cap17))→(∀ x∈blkL ao16,w.heap.size≤x)→(∀ x∈blkL ao16,x∉[g7])→(∀ x∈blkL ao16,x∉M)→(Chg [] w wx10)→(MS (blkL ao16++([g7]++(M))) wx10)→K4 a wx10:=by
  intro s10' a wx10 ao16 cap16 ao17 cap17 hs ha f16 f17 hBg7 e_i16 p_i16_i8 p_i16_M hC hM;subst hs;refine hK4 _ _ ?_;refine sq ha 3 [(2,.slice ao16 s10'.1.length cap16),(3,.int .i64 0)] fun a ha=>?_;refine wrt ?_;have o1:=oN (blkL ao16++([g7]++(M))) wx10;have o2:Ok (blkL ao16++(M)) (blkL ao16++([g7]++(M))) wx10.heap.size:=(Ok.app (fun _ h=>.inl (ml h)) (fun _ h=>.inl (mr (mr (h)))))
  have f16:=f16.chg (Chg.refl [] _) o1 o2 (fun _ _ h=>nomatch h) (fun _ h=>ml h);have hM:MS (blkL ao16++(M)) wx10:=(MS.app (fun x h=>hM.chg (Chg.refl [] _) x (ml h)) (fun x h=>hM.chg (Chg.refl [] _) x (mr (mr (h)))))
  obtain rfl:=oj H;refine rt2 ha rfl rfl rfl ?_;exact ⟨ao16,cap16,rfl,f16,e_i16,hC,hM⟩
 have Hc10:=H;have H:=H10;refine wp_loop_ghost (fun kk a w10=>∃ (x13:List S_api_Raw) (x14:List Int) (x15:Bool) (ao11:Option Addr) (cap11:Nat) (ao12:Option Addr) (cap12:Nat),attr_Split.l0 k kk x13 x14 x15=some s10∧Has a Tryz.f49.ntmps [(4,.slice ao11 x13.length cap11),(5,pt g7 0)]∧(Own rS_api_Raw 65 w10 (blkL ao11++([g7]++(M))) ao11 cap11 x13)∧(RSl (rInt .u8) 5 w10 (blkL ao11++([g7]++(M))) ao12 cap12 x14)∧(Box w10 g7 (cS_cursor_Reader (⟨(⟨x14,x15⟩:S_cursor_rest)⟩:S_cursor_Reader) ao12 cap12))∧(∀ x∈blkL ao11,w.heap.size≤x)∧(∀ x∈blkL ao11,x∉[g7])∧(∀ x∈blkL ao11,x∉M)∧(Chg [] w w10)∧(MS (blkL ao11++([g7]++(M))) w10)) k ?_ ?_
 ·skip;have o1:=oN ([g7]++(M)) w6;have o2:Ok (blkL none++([g7]++(M))) ([g7]++(M)) w6.heap.size:=(Ok.app (fun _ h=>nomatch h) (Ok.refl _ _))
  have f9:=f9.chg (Chg.refl [] _) o1 o2;have p_z19_i8:∀ x∈blkL none,x∉([g7]):=fun x hx hy=>absurd (hM x (ml hy)) (Nat.not_lt.2 ((fun _ h=>nomatch h) x hx));have p_z19_M:∀ x∈blkL none,x∉M:=fun x hx hy=>absurd (hM x (mr (hy))) (Nat.not_lt.2 ((fun _ h=>nomatch h) x hx));have e_z19:∀ x∈blkL none,w.heap.size≤x:=fun x hx=>Nat.le_trans hC.size ((fun _ h=>nomatch h) x hx);have hM:MS (blkL none++([g7]++(M))) w6:=(MS.app (fun _ h=>nomatch h) (hM.chg (Chg.refl [] _)))
  exact ⟨([]:List S_api_Raw),t6.rest.left,t6.rest.bad,none,0,ao9,cap9,H,(ha.sel (by kernel_rfl)),Own.nil,f9,hBg7,e_z19,p_z19_i8,p_z19_M,hC,hM⟩
 ·rintro kk a w10 ⟨x13,x14,x15,ao11,cap11,ao12,cap12,H,ha,f11,f12,hBg7,e_i11,p_i11_i8,p_i11_M,hC,hM⟩;obtain _ | kk:=kk
  ·exact nomatch (show none=some _ from H)
  rw [attr_Split.l0] at H;refine wp_seq_k fun K20 hK20=>?_;refine wsr fun K21 hK21=>?_;refine sd ha 3 [] [(14,pt g7 0)] fun a ha=>?_;obtain ⟨t22,H22,H⟩:=bind_some H;refine cL ha (cursor_rest_Left.walk w10 _ hM g7 (⟨x14,x15⟩:S_cursor_rest) ao12 cap12 f12 hBg7 (mr (ml (List.mem_singleton.2 rfl))) _ H22) ?_;rintro _ w22 ⟨rfl,hc22,hMn⟩ a ha;have o1:=oN (blkL ao11++([g7]++(M))) w10;have o2:=oR (blkL ao11++([g7]++(M))) w10;have f11:=f11.chg hc22 o1 o2 (fun _ _ h=>nomatch h) (fun _ h=>ml h);have f12:=f12.chg hc22 o1 o2;have hBg7:=hBg7.c0 hc22;have hM:=hM.chg hc22;have hC:=hC.t0 hc22;refine sd ha 1 [14] [(16,.bool (decide (t22 > (0:Int))))] fun a ha=>?_;refine hK21 _ _ ?_;refine cnH H ha (fun hc23 H=>?_) (fun hc23 H=>?_)
  ·refine wp_skip ?_;refine hK20 _ _ ?_;refine wp_block ?_;refine wp_seq_k fun K24 hK24=>?_;refine sqd ha 3 [16] [(19,.bool ((x13.length:Int)==(64:Int)))] fun a ha=>?_;refine cnH H ha (fun hc26 H=>?_) (fun hc26 H=>?_)
   ·refine sq ha 2 [(2,.slice none 0 0),(3,.int .i64 2)] fun a ha=>?_;refine wrt ?_;have o1:=oN (blkL ao11++([g7]++(M))) w22;have o2:Ok (blkL none++(M)) (blkL ao11++([g7]++(M))) w22.heap.size:=(Ok.app (fun _ h=>nomatch h) (fun _ h=>.inl (mr (mr (h)))))
    have f12:=f12.chg (Chg.refl [] _) o1 o2;have e_z28:∀ x∈blkL none,w.heap.size≤x:=fun x hx=>Nat.le_trans hC.size ((fun _ h=>nomatch h) x hx);have hM:MS (blkL none++(M)) w22:=(MS.app (fun _ h=>nomatch h) (fun x h=>hM.chg (Chg.refl [] _) x (mr (mr (h)))))
    obtain rfl:=oj H;have H:=(show some _=some _ from Hc10)
    obtain rfl:=oj H;refine rt2 ha rfl rfl rfl ?_;exact ⟨none,0,rfl,Own.nil,e_z28,hC,hM⟩
   ·refine wp_skip ?_;refine hK24 _ _ ?_;refine wsr fun K29 hK29=>?_;refine sd ha 1 [19] [(20,pt g7 0)] fun a ha=>?_;obtain ⟨t30,H30,H⟩:=bind_some H;refine cL ha (cursor_Reader_Num.walk w22 _ hM g7 (⟨(⟨x14,x15⟩:S_cursor_rest)⟩:S_cursor_Reader) ao12 cap12 f12 hBg7 (mr (ml (List.mem_singleton.2 rfl))) (1:Int) k _ H30) ?_;rintro _ w30 ⟨ao31,cap31,rfl,f31,qhBg7,hc30,hMn⟩ a ha;have o1:Ok [g7] (blkL ao11++([g7]++(M))) w22.heap.size:=(fun _ h=>.inl (mr (ml h)))
    have o2:=oR (blkL ao11++([g7]++(M))) w22;have f11:=f11.chg hc30 o1 o2 p_i11_i8 (fun _ h=>ml h);have hM:=hM.chg hc30;have hC:=hC.t1 hc30 e_i8;have hBg7:=qhBg7;refine sd ha 1 [20] [(6,.int .i64 t30.1)] fun a ha=>?_;refine hK29 _ _ ?_;refine wsr fun K32 hK32=>?_;refine sd ha 3 [] [(23,.int .i64 (IntKind.i64.wrap (BitVec.ofInt IntKind.i64.bits t30.1 &&& ~~~ BitVec.ofInt IntKind.i64.bits (16:Int)).toNat)),(24,pt g7 0)] fun a ha=>?_;obtain ⟨t33,H33,H⟩:=bind_some H;refine cL ha (cursor_Reader_Num.walk w30 _ hM g7 t30.2 ao31 cap31 f31 hBg7 (mr (ml (List.mem_singleton.2 rfl))) (1:Int) k _ H33) ?_;rintro _ w33 ⟨ao34,cap34,rfl,f34,qhBg7,hc33,hMn⟩ a ha;have o1:Ok [g7] (blkL ao11++([g7]++(M))) w30.heap.size:=(fun _ h=>.inl (mr (ml h)))
    have o2:=oR (blkL ao11++([g7]++(M))) w30;have f11:=f11.chg hc33 o1 o2 p_i11_i8 (fun _ h=>ml h);have hM:=hM.chg hc33;have hC:=hC.t1 hc33 e_i8;have hBg7:=qhBg7;refine oP (.agg (cS_api_Raw (⟨IntKind.i64.wrap (BitVec.ofInt IntKind.i64.bits t30.1 &&& ~~~ BitVec.ofInt IntKind.i64.bits (16:Int)).toNat,t33.1,([]:List Int)⟩:S_api_Raw) none 0).toArray) ha fun a ha=>?_;refine alE (cS_api_Raw (⟨(0:Int),(0:Int),([]:List Int)⟩:S_api_Raw) none 0) ha fun a w35 g36 hN37 ha=>?_;have o1:=oN (blkL ao11++([g7]++(M))) w33;have o2:=oA hN37 (blkL ao11++([g7]++(M)));have f11:=f11.chg hN37.chg o1 o2 (fun _ _ h=>nomatch h) (fun _ h=>mr (ml h));have f34:=f34.chg hN37.chg o1 o2;have hBg7:=hBg7.c0 hN37.chg;have p_i38_i11:=pn (B:=(blkL ao11)) hM (hN37.ge1) fun _ hy=>ml hy;have p_i38_i8:=pn (B:=[g7]) hM (hN37.ge1) fun _ hy=>mr (ml hy);have e_i38:=eN hC (hN37.ge1);have hM:=MS.app hN37.ms (hM.chg hN37.chg);have hC:=hC.t0 hN37.chg;have hBg36:=hN37.box;refine stE (cS_api_Raw (⟨IntKind.i64.wrap (BitVec.ofInt IntKind.i64.bits t30.1 &&& ~~~ BitVec.ofInt IntKind.i64.bits (16:Int)).toNat,t33.1,([]:List Int)⟩:S_api_Raw) none 0) ha hBg36 fun a w39 ha hBg36 hc40 _=>?_;have o1:Ok [g36] ([g36]++(blkL ao11++([g7]++(M)))) w35.heap.size:=(fun _ h=>.inl (ml h))
    have o2:=oR ([g36]++(blkL ao11++([g7]++(M)))) w35;have f11:=f11.chg hc40 o1 o2 (fun x (hx:x∈blkL ao11) (hy:x∈[g36])=>p_i38_i11 x hy hx) (fun _ h=>mr (ml h));have f34:=f34.chg hc40 o1 o2;have hBg7:=hBg7.chg hc40 ((fun x (hx:x∈[g7]) (hy:x∈[g36])=>p_i38_i8 x hy hx) g7 (by simp));have hM:=hM.chg hc40;have hC:=hC.t1 hc40 e_i38;refine hK32 _ _ ?_;refine sqd ha 1 [23,24] [(7,pt g36 0),(8,.int .i64 1)] fun a ha=>?_;refine wp_seq_k fun K42 hK42=>?_;obtain ⟨s43,H43,H⟩:=bind_some H;have J43:∀ (a:Act) (w43:World),Has a Tryz.f49.ntmps [(4,.slice ao11 x13.length cap11),(5,pt g7 0),(7,pt g36 0),(8,.int .i64 s43)]→(Own rS_api_Raw 65 w43 ([g36]++(blkL ao11++([g7]++(M)))) ao11 cap11 x13)→(RSl (rInt .u8) 5 w43 ([g36]++(blkL ao11++([g7]++(M)))) ao34 cap34 t33.2.rest.left)→(Box w43 g7 (cS_cursor_Reader t33.2 ao34 cap34))→(Box w43 g36 (cS_api_Raw (⟨IntKind.i64.wrap (BitVec.ofInt IntKind.i64.bits t30.1 &&& ~~~ BitVec.ofInt IntKind.i64.bits (16:Int)).toNat,t33.1,([]:List Int)⟩:S_api_Raw) none 0))→(Chg [] w w43)→(MS ([g36]++(blkL ao11++([g7]++(M)))) w43)→K42 a w43:=by
     intro a w43 ha f11 f34 hBg7 hBg36 hC hM;refine hK42 _ _ ?_;refine wsr fun K44 hK44=>?_;refine sd ha 2 [8] [(30,pt g7 0),(31,.int .i64 s43)] fun a ha=>?_;obtain ⟨t45,H45,H⟩:=bind_some H;refine cL ha (cursor_Reader_Num.walk w43 _ hM g7 t33.2 ao34 cap34 f34 hBg7 (mr (mr (ml (List.mem_singleton.2 rfl)))) s43 k _ H45) ?_;rintro _ w45 ⟨ao46,cap46,rfl,f46,qhBg7,hc45,hMn⟩ a ha;have o1:Ok [g7] ([g36]++(blkL ao11++([g7]++(M)))) w43.heap.size:=(fun _ h=>.inl (mr (mr (ml h))))
     have o2:=oR ([g36]++(blkL ao11++([g7]++(M)))) w43;have f11:=f11.chg hc45 o1 o2 p_i11_i8 (fun _ h=>mr (ml h));have hBg36:=hBg36.chg hc45 (p_i38_i8 g36 (by simp));have hM:=hM.chg hc45;have hC:=hC.t1 hc45 e_i8;have hBg7:=qhBg7;refine sd ha 1 [30,31] [(9,.int .i64 t45.1)] fun a ha=>?_;refine hK44 _ _ ?_;refine wsr fun K47 hK47=>?_;refine sd ha 2 [9] [(33,pt g7 0),(34,.int .i64 t45.1)] fun a ha=>?_;obtain ⟨t48,H48,H⟩:=bind_some H;refine cL ha (cursor_Reader_Take.walk w45 _ hM g7 t45.2 ao46 cap46 f46 hBg7 (mr (mr (ml (List.mem_singleton.2 rfl)))) t45.1 _ H48) ?_;rintro _ w48 ⟨ao49,cap49,ao50,cap50,rfl,f49,f50,qhBg7,ne_i49,hc48,hMn⟩ a ha;have o1:Ok [g7] ([g36]++(blkL ao11++([g7]++(M)))) w45.heap.size:=(fun _ h=>.inl (mr (mr (ml h))))
     have o2:Ok (blkL ao49++([g36]++(blkL ao11++([g7]++(M))))) ([g36]++(blkL ao11++([g7]++(M)))) w45.heap.size:=(Ok.app (fun x h=>.inr (ne_i49 x h)) (Ok.refl _ _))
     have f11:=f11.chg hc48 o1 o2 p_i11_i8 (fun _ h=>mr (mr (ml h)));have hBg36:=hBg36.chg hc48 (p_i38_i8 g36 (by simp));have p_i49_i38:=pn (B:=[g36]) hM ne_i49 fun _ hy=>ml hy;have p_i49_i11:=pn (B:=(blkL ao11)) hM ne_i49 fun _ hy=>mr (ml hy);have p_i49_i8:=pn (B:=[g7]) hM ne_i49 fun _ hy=>mr (mr (ml hy));have p_i49_M:=pn (B:=M) hM ne_i49 fun _ hy=>mr (mr (mr (hy)));have hM:MS (blkL ao49++([g36]++(blkL ao11++([g7]++(M))))) w48:=(MS.app (fun x h=>hMn x (ml h)) (hM.chg hc48))
     have hC:=hC.t1 hc48 e_i8;have hBg7:=qhBg7;refine sd ha 1 [33,34] [(35,.slice ao49 t48.1.length cap49),(36,pt g36 2)] fun a ha=>?_;refine st ha rfl rfl rfl (by kernel_rfl) rfl rfl hBg36 (Nat.le_of_ble_eq_true (by kernel_rfl)) fun a w51 ha hb2 hc52 _=>?_;have o1:Ok [g36] (blkL ao49++([g36]++(blkL ao11++([g7]++(M))))) w48.heap.size:=(fun _ h=>.inl (mr (ml h)))
     have o2:=oR (blkL ao49++([g36]++(blkL ao11++([g7]++(M))))) w48;have f11:=f11.chg hc52 o1 o2 (fun x (hx:x∈blkL ao11) (hy:x∈[g36])=>p_i38_i11 x hy hx) (fun _ h=>mr (mr (ml h)));have f49:=f49.chg hc52 o1 o2 p_i49_i38 (fun _ h=>ml h);have f50:=f50.chg hc52 o1 o2;have hBg7:=hBg7.chg hc52 ((fun x (hx:x∈[g7]) (hy:x∈[g36])=>p_i38_i8 x hy hx) g7 (by simp));have hM:=hM.chg hc52;have hC:=hC.t1 hc52 e_i38;have hBg36:Box w51 g36 (cS_api_Raw (⟨IntKind.i64.wrap (BitVec.ofInt IntKind.i64.bits t30.1 &&& ~~~ BitVec.ofInt IntKind.i64.bits (16:Int)).toNat,t33.1,t48.1⟩:S_api_Raw) ao49 cap49):=hb2;refine hK47 _ _ ?_;refine wp_seq_k fun K53 hK53=>?_;refine wsr fun K54 hK54=>?_;refine sd ha 3 [35,36] [(39,pt g7 0)] fun a ha=>?_;obtain ⟨t55,H55,H⟩:=bind_some H;refine cL ha (cursor_rest_Bad.walk w51 _ hM g7 t48.2.rest ao50 cap50 f50 hBg7 (mr (mr (mr (ml (List.mem_singleton.2 rfl))))) _ H55) ?_;rintro _ w55 ⟨rfl,hc55,hMn⟩ a ha;have o1:=oN (blkL ao49++([g36]++(blkL ao11++([g7]++(M))))) w51;have o2:=oR (blkL ao49++([g36]++(blkL ao11++([g7]++(M))))) w51;have f11:=f11.chg hc55 o1 o2 (fun _ _ h=>nomatch h) (fun _ h=>mr (mr (ml h)));have f50:=f50.chg hc55 o1 o2;have f49:=f49.chg hc55 o1 o2 (fun _ _ h=>nomatch h) (fun _ h=>ml h);have hBg7:=hBg7.c0 hc55;have hBg36:=hBg36.c0 hc55;have hM:=hM.chg hc55;have hC:=hC.t0 hc55;refine hK54 _ _ ?_;refine cnH H ha (fun hc56 H=>?_) (fun hc56 H=>?_)
     ·refine sq ha 2 [(2,.slice none 0 0),(3,.int .i64 3)] fun a ha=>?_;refine wrt ?_;have o1:=oN (blkL ao49++([g36]++(blkL ao11++([g7]++(M))))) w55;have o2:Ok (blkL none++(M)) (blkL ao49++([g36]++(blkL ao11++([g7]++(M))))) w55.heap.size:=(Ok.app (fun _ h=>nomatch h) (fun _ h=>.inl (mr (mr (mr (mr (h)))))))
      have f50:=f50.chg (Chg.refl [] _) o1 o2;have e_z58:∀ x∈blkL none,w.heap.size≤x:=fun x hx=>Nat.le_trans hC.size ((fun _ h=>nomatch h) x hx);have hM:MS (blkL none++(M)) w55:=(MS.app (fun _ h=>nomatch h) (fun x h=>hM.chg (Chg.refl [] _) x (mr (mr (mr (mr (h)))))))
      obtain rfl:=oj H;have H:=(show some _=some _ from Hc10)
      obtain rfl:=oj H;refine rt2 ha rfl rfl rfl ?_;exact ⟨none,0,rfl,Own.nil,e_z58,hC,hM⟩
     ·refine wp_skip ?_;refine hK53 _ _ ?_;refine wp_region_lit ?_;refine sd ha 1 [4,39] [(41,.slice ao11 x13.length cap11)] fun a ha=>?_;refine ldE (Box.cells hBg36) ha fun a ha=>?_;have fz:=f49.toRSl (M':=[g36]++(blkL ao11++([g7]++(M)))) (fun _ h=>.inl (mr (h))) (fun x hx hm=>(List.mem_append.1 hm).elim (fun h=>p_i49_i38 x hx h) (fun h=>(List.mem_append.1 h).elim (fun h=>p_i49_i11 x hx h) (fun h=>(List.mem_append.1 h).elim (fun h=>p_i49_i8 x hx h) (fun h=>p_i49_M x hx h))));have o1:=oN (blkL ao49++([g36]++(blkL ao11++([g7]++(M))))) w55;have o2:Ok ([g36]++(blkL ao11++([g7]++(M)))) (blkL ao49++([g36]++(blkL ao11++([g7]++(M))))) w55.heap.size:=(fun _ h=>.inl (mr (h)))
      have f11:=f11.chg (Chg.refl [] _) o1 o2 (fun _ _ h=>nomatch h) (fun _ h=>mr (ml h));have f50:=f50.chg (Chg.refl [] _) o1 o2;have hM:MS ([g36]++(blkL ao11++([g7]++(M)))) w55:=hM.sb fun _ h=>mr (h);have f49:=fz;refine bslA (vals:=([.agg (cS_api_Raw (⟨IntKind.i64.wrap (BitVec.ofInt IntKind.i64.bits t30.1 &&& ~~~ BitVec.ofInt IntKind.i64.bits (16:Int)).toNat,t33.1,t48.1⟩:S_api_Raw) ao49 cap49).toArray]:List Value)) (T:=65) (z:=.agg (cS_api_Raw (⟨(0:Int),(0:Int),([]:List Int)⟩:S_api_Raw) none 0).toArray) ha rfl (by kernel_rfl) rfl (by kernel_rfl) (s:=3) (by kernel_rfl) rfl rfl (fun w=>by kernel_rfl) (by kernel_rfl) rfl rfl rfl fun a w59 g60 hN61 ha=>?_;have hN61:=(show New _ _ _ (.cells (((cS_api_Raw (⟨IntKind.i64.wrap (BitVec.ofInt IntKind.i64.bits t30.1 &&& ~~~ BitVec.ofInt IntKind.i64.bits (16:Int)).toNat,t33.1,t48.1⟩:S_api_Raw) ao49 cap49)++([]:List Value))).toArray 65 (0,0)) from hN61)
      have o1:=oN ([g36]++(blkL ao11++([g7]++(M)))) w55;have o2:=oA hN61 ([g36]++(blkL ao11++([g7]++(M))));have f11:=f11.chg hN61.chg o1 o2 (fun _ _ h=>nomatch h) (fun _ h=>mr (mr (ml h)));have f49:=f49.chg hN61.chg o1 o2;have f50:=f50.chg hN61.chg o1 o2;have hBg7:=hBg7.c0 hN61.chg;have hM:=MS.app hN61.ms (hM.chg hN61.chg);have hC:=hC.t0 hN61.chg;have f63:Own rS_api_Raw 65 w59 ([g60]++([g36]++(blkL ao11++([g7]++(M))))) (some ⟨g60,0,none⟩) 1 ([(⟨IntKind.i64.wrap (BitVec.ofInt IntKind.i64.bits t30.1 &&& ~~~ BitVec.ofInt IntKind.i64.bits (16:Int)).toNat,t33.1,t48.1⟩:S_api_Raw)]:List S_api_Raw):=hN61.own ⟨(cS_api_Raw (⟨IntKind.i64.wrap (BitVec.ofInt IntKind.i64.bits t30.1 &&& ~~~ BitVec.ofInt IntKind.i64.bits (16:Int)).toNat,t33.1,t48.1⟩:S_api_Raw) ao49 cap49),_,rfl,(rS_api_Raw.mk (⟨IntKind.i64.wrap (BitVec.ofInt IntKind.i64.bits t30.1 &&& ~~~ BitVec.ofInt IntKind.i64.bits (16:Int)).toNat,t33.1,t48.1⟩:S_api_Raw) f49),rfl⟩ (Nat.le_of_ble_eq_true rfl);obtain ⟨hx64,H⟩:=ite_some H;refine app (r:=rS_api_Raw) (xs:=x13) (ys:=([(⟨IntKind.i64.wrap (BitVec.ofInt IntKind.i64.bits t30.1 &&& ~~~ BitVec.ofInt IntKind.i64.bits (16:Int)).toNat,t33.1,t48.1⟩:S_api_Raw)]:List S_api_Raw)) ha (ElemT.mk' (bytes:=40) (by kernel_rfl)) rfl rfl rfl rfl rfl f11 f63.src hx64 (by decide) fun a w65 ao66 cap66 hO66 hc66 hk66 hl66 ha=>?_;have o1:Ok (blkL ao11) ([g60]++([g36]++(blkL ao11++([g7]++(M))))) w59.heap.size:=(fun _ h=>.inl (mr (mr (ml h))))
      have o2:Ok (blkL ao66++([g60]++([g36]++([g7]++(M))))) ([g60]++([g36]++(blkL ao11++([g7]++(M))))) w59.heap.size:=(Ok.app (Ok.to hk66 (fun _ h=>mr (mr (ml h)))) (Ok.app (fun _ h=>.inl (ml h)) (Ok.app (fun _ h=>.inl (mr (ml h))) (fun _ h=>.inl (mr (mr (mr (h))))))))
      have f50:=f50.chg hc66 o1 o2;have hBg7:=hBg7.chg hc66 ((fun x (hx:x∈[g7]) (hy:x∈blkL ao11)=>p_i11_i8 x hy hx) g7 (by simp));have p_i66_i8:=pf (B:=[g7]) hk66 p_i11_i8 hM fun _ hy=>mr (mr (mr (ml hy)));have p_i66_M:=pf (B:=M) hk66 p_i11_M hM fun _ hy=>mr (mr (mr (mr (hy))));have e_i66:=ef hk66 e_i11 hC;have hM:MS (blkL ao66++([g60]++([g36]++([g7]++(M))))) w65:=(MS.app hl66 (MS.app (fun x h=>hM.chg hc66 x (ml h)) (MS.app (fun x h=>hM.chg hc66 x (mr (ml h))) (fun x h=>hM.chg hc66 x (mr (mr (mr (h))))))))
      have hC:=hC.t1 hc66 e_i11;have f66:=hO66.chg (M':=blkL ao66++([g60]++([g36]++([g7]++(M))))) (Chg.refl [] _) (Ok.nil _ _) (Ok.app (fun _ h=>.inl (ml h)) (Ok.to (Ok.app (fun _ h=>.inl (ml h)) (Ok.app (fun _ h=>.inl (mr (ml h))) (fun _ h=>.inl (mr (mr (mr (h))))))) (fun _ h=>mr h))) (fun _ _ h=>nomatch h) (fun _ h=>ml h);refine sd ha 1 [7,41] [(4,.slice ao66 (x13++([(⟨IntKind.i64.wrap (BitVec.ofInt IntKind.i64.bits t30.1 &&& ~~~ BitVec.ofInt IntKind.i64.bits (16:Int)).toNat,t33.1,t48.1⟩:S_api_Raw)]:List S_api_Raw)).length cap66)] fun a ha=>?_;have o1:=oN (blkL ao66++([g60]++([g36]++([g7]++(M))))) w65;have o2:Ok (blkL ao66++([g7]++(M))) (blkL ao66++([g60]++([g36]++([g7]++(M))))) w65.heap.size:=(Ok.app (fun _ h=>.inl (ml h)) (fun _ h=>.inl (mr (mr (mr (h))))))
      have f66:=f66.chg (Chg.refl [] _) o1 o2 (fun _ _ h=>nomatch h) (fun _ h=>ml h);have f50:=f50.chg (Chg.refl [] _) o1 o2;have hM:MS (blkL ao66++([g7]++(M))) w65:=(MS.app (fun x h=>hM.chg (Chg.refl [] _) x (ml h)) (fun x h=>hM.chg (Chg.refl [] _) x (mr (mr (mr (h))))))
      exact ⟨kk,Nat.lt_succ_self _,⟨(x13++([(⟨IntKind.i64.wrap (BitVec.ofInt IntKind.i64.bits t30.1 &&& ~~~ BitVec.ofInt IntKind.i64.bits (16:Int)).toNat,t33.1,t48.1⟩:S_api_Raw)]:List S_api_Raw)),t48.2.rest.left,t48.2.rest.bad,ao66,cap66,ao50,cap50,H,(ha.sel (by kernel_rfl)),f66,f50,hBg7,e_i66,p_i66_i8,p_i66_M,hC,hM⟩⟩
    have H:=H43;refine sqd ha 3 [6] [(29,.bool ((IntKind.i64.wrap (BitVec.ofInt IntKind.i64.bits t30.1 &&& BitVec.ofInt IntKind.i64.bits (16:Int)).toNat) != (0:Int)))] fun a ha=>?_;refine cnH H ha (fun hc68 H=>?_) (fun hc68 H=>?_)
    ·refine wp_region_lit ?_;refine sd ha 1 [29] [(8,.int .i64 2)] fun a ha=>?_;obtain rfl:=oj H;exact J43 _ _ (ha.sel (by kernel_rfl)) f11 f34 hBg7 hBg36 hC hM
    ·refine wp_skip ?_;obtain rfl:=oj H;exact J43 _ _ (ha.sel (by kernel_rfl)) f11 f34 hBg7 hBg36 hC hM
  ·refine wx ?_;obtain rfl:=oj H;exact J10 _ _ _ ao11 cap11 ao12 cap12 rfl (ha.sel (by kernel_rfl)) f11 f12 hBg7 e_i11 p_i11_i8 p_i11_M hC hM
def attr_None.f:Option (S_api_Attrs):=some (((⟨(0:Int),([]:List S_api_Segment),(-1:Int),(-1:Int),(⟨(0:Int),(List.replicate 16 (0:Int))⟩:S_api_Addr),([]:List S_api_Addr),([]:List (List Int)),([]:List S_api_Tunnel)⟩:S_api_Attrs):S_api_Attrs))
set_option maxRecDepth 100000 in
theorem attr_None.walk (w:World) (M:List Nat) (hM:MS M w)  (r:S_api_Attrs) (H:attr_None.f=some r) :
    To Tryz.prog 21 [] w fun v w'=>∃ (ao9:Option Addr) (cap9:Nat) (ao10:Option Addr) (cap10:Nat) (ao11:Option Addr) (cap11:Nat) (ao12:Option Addr) (cap12:Nat),v=.agg (cS_api_Attrs r ao9 cap9 ao10 cap10 ao11 cap11 ao12 cap12).toArray∧(RSl rS_api_Segment 101 w' (M) ao9 cap9 r.Path)∧(RSl rS_api_Addr 25 w' (M) ao10 cap10 r.Clusters)∧(RSl (rArr .u8 8) 124 w' (M) ao11 cap11 r.Exts)∧(RSl rS_api_Tunnel 96 w' (M) ao12 cap12 r.Tunnels)∧Chg [] w w'∧MS (M) w':=by
 unfold attr_None.f at H;refine ent Tryz.func21 rfl [] rfl (by rfl) fun a ha=>?_;have hC:Chg [] w w:=Chg.refl _ _;refine wsr fun K1 hK1=>?_;refine alE (cS_api_Attrs (⟨(0:Int),([]:List S_api_Segment),(0:Int),(0:Int),(⟨(0:Int),(List.replicate 16 (0:Int))⟩:S_api_Addr),([]:List S_api_Addr),([]:List (List Int)),([]:List S_api_Tunnel)⟩:S_api_Attrs) none 0 none 0 none 0 none 0) ha fun a w2 g3 hN4 ha=>?_;have e_i5:=eN hC (hN4.ge1);have hM:=MS.app hN4.ms (hM.chg hN4.chg);have hC:=hC.t0 hN4.chg;have hBg3:=hN4.box;refine hK1 _ _ ?_;refine wsr fun K6 hK6=>?_;refine oP (.agg (cS_api_Attrs (⟨(0:Int),([]:List S_api_Segment),(-1:Int),(-1:Int),(⟨(0:Int),(List.replicate 16 (0:Int))⟩:S_api_Addr),([]:List S_api_Addr),([]:List (List Int)),([]:List S_api_Tunnel)⟩:S_api_Attrs) none 0 none 0 none 0 none 0).toArray) ha fun a ha=>?_;refine stE (cS_api_Attrs (⟨(0:Int),([]:List S_api_Segment),(-1:Int),(-1:Int),(⟨(0:Int),(List.replicate 16 (0:Int))⟩:S_api_Addr),([]:List S_api_Addr),([]:List (List Int)),([]:List S_api_Tunnel)⟩:S_api_Attrs) none 0 none 0 none 0 none 0) ha hBg3 fun a w7 ha hBg3 hc8 _=>?_;have hM:=hM.chg hc8;have hC:=hC.t1 hc8 e_i5;refine hK6 _ _ ?_;refine wrt ?_;have hM:MS M w7:=hM.sb fun _ h=>mr (h);obtain rfl:=oj H;refine rtr ha (res1 rfl (roA ha rfl hBg3 (by kernel_rfl))) ?_;exact ⟨none,0,none,0,none,0,none,0,rfl,(RSl.nil (Nat.zero_le _)),(RSl.nil (Nat.zero_le _)),(RSl.nil (Nat.zero_le _)),(RSl.nil (Nat.zero_le _)),hC,hM⟩
def update_Empty.f:Option (S_api_Update):=(attr_None.f ).bind fun t7=>some (((⟨t7,([]:List S_api_Table),([]:List S_api_Table)⟩:S_api_Update):S_api_Update))
set_option maxRecDepth 100000 in
theorem update_Empty.walk (w:World) (M:List Nat) (hM:MS M w)  (r:S_api_Update) (H:update_Empty.f=some r) :
    To Tryz.prog 17 [] w fun v w'=>∃ (ao14:Option Addr) (cap14:Nat) (ao15:Option Addr) (cap15:Nat) (ao16:Option Addr) (cap16:Nat) (ao17:Option Addr) (cap17:Nat) (ao18:Option Addr) (cap18:Nat) (ao19:Option Addr) (cap19:Nat),v=.agg (cS_api_Update r ao14 cap14 ao15 cap15 ao16 cap16 ao17 cap17 ao18 cap18 ao19 cap19).toArray∧(RSl rS_api_Segment 101 w' (M) ao14 cap14 r.Attrs.Path)∧(RSl rS_api_Addr 25 w' (M) ao15 cap15 r.Attrs.Clusters)∧(RSl (rArr .u8 8) 124 w' (M) ao16 cap16 r.Attrs.Exts)∧(RSl rS_api_Tunnel 96 w' (M) ao17 cap17 r.Attrs.Tunnels)∧(RSl rS_api_Table 55 w' (M) ao18 cap18 r.Reach)∧(RSl rS_api_Table 55 w' (M) ao19 cap19 r.Unreach)∧Chg [] w w'∧MS (M) w':=by
 unfold update_Empty.f at H;refine ent Tryz.func17 rfl [] rfl (by rfl) fun a ha=>?_;have hC:Chg [] w w:=Chg.refl _ _;refine wsr fun K1 hK1=>?_;refine alE (cS_api_Update (⟨(⟨(0:Int),([]:List S_api_Segment),(0:Int),(0:Int),(⟨(0:Int),(List.replicate 16 (0:Int))⟩:S_api_Addr),([]:List S_api_Addr),([]:List (List Int)),([]:List S_api_Tunnel)⟩:S_api_Attrs),([]:List S_api_Table),([]:List S_api_Table)⟩:S_api_Update) none 0 none 0 none 0 none 0 none 0 none 0) ha fun a w2 g3 hN4 ha=>?_;have e_i5:=eN hC (hN4.ge1);have hM:=MS.app hN4.ms (hM.chg hN4.chg);have hC:=hC.t0 hN4.chg;have hBg3:=hN4.box;refine hK1 _ _ ?_;refine wsr fun K6 hK6=>?_;obtain ⟨t7,H7,H⟩:=bind_some H;refine cL ha (attr_None.walk w2 _ hM  _ H7) ?_;rintro _ w7 ⟨ao8,cap8,ao9,cap9,ao10,cap10,ao11,cap11,rfl,f8,f9,f10,f11,hc7,hMn⟩ a ha;have hBg3:=hBg3.c0 hc7;have hM:=hM.chg hc7;have hC:=hC.t0 hc7;refine oP (.agg (cS_api_Update (⟨t7,([]:List S_api_Table),([]:List S_api_Table)⟩:S_api_Update) ao8 cap8 ao9 cap9 ao10 cap10 ao11 cap11 none 0 none 0).toArray) ha fun a ha=>?_;refine stE (cS_api_Update (⟨t7,([]:List S_api_Table),([]:List S_api_Table)⟩:S_api_Update) ao8 cap8 ao9 cap9 ao10 cap10 ao11 cap11 none 0 none 0) ha hBg3 fun a w12 ha hBg3 hc13 _=>?_;have o1:Ok [g3] ([g3]++(M)) w7.heap.size:=(fun _ h=>.inl (ml h))
 have o2:=oR ([g3]++(M)) w7;have f8:=f8.chg hc13 o1 o2;have f9:=f9.chg hc13 o1 o2;have f10:=f10.chg hc13 o1 o2;have f11:=f11.chg hc13 o1 o2;have hM:=hM.chg hc13;have hC:=hC.t1 hc13 e_i5;refine hK6 _ _ ?_;refine wrt ?_;have o1:=oN ([g3]++(M)) w12;have o2:Ok (M) ([g3]++(M)) w12.heap.size:=(fun _ h=>.inl (mr (h)))
 have f8:=f8.chg (Chg.refl [] _) o1 o2;have f9:=f9.chg (Chg.refl [] _) o1 o2;have f10:=f10.chg (Chg.refl [] _) o1 o2;have f11:=f11.chg (Chg.refl [] _) o1 o2;have hM:MS M w12:=hM.sb fun _ h=>mr (h);obtain rfl:=oj H;refine rtr ha (res1 rfl (roA ha rfl hBg3 (by kernel_rfl))) ?_;exact ⟨ao8,cap8,ao9,cap9,ao10,cap10,ao11,cap11,none,0,none,0,rfl,f8,f9,f10,f11,(RSl.nil (Nat.zero_le _)),(RSl.nil (Nat.zero_le _)),hC,hM⟩
def update_reset.f (a0:Int):Option (S_api_Update×Int×S_api_Note):=(update_Empty.f ).bind fun t11=>some ((t11:S_api_Update),((3:Int):Int),((⟨(3:Int),a0,([]:List Int)⟩:S_api_Note):S_api_Note))
set_option maxRecDepth 100000 in
theorem update_reset.walk (w:World) (M:List Nat) (hM:MS M w) (a0:Int) (r:S_api_Update×Int×S_api_Note) (H:update_reset.f a0=some r) :
    To Tryz.prog 51 [.int .i64 a0] w fun v w'=>∃ (ao23:Option Addr) (cap23:Nat) (ao24:Option Addr) (cap24:Nat) (ao25:Option Addr) (cap25:Nat) (ao26:Option Addr) (cap26:Nat) (ao27:Option Addr) (cap27:Nat) (ao28:Option Addr) (cap28:Nat) (ao29:Option Addr) (cap29:Nat),v=.tuple #[.agg (cS_api_Update r.1 ao23 cap23 ao24 cap24 ao25 cap25 ao26 cap26 ao27 cap27 ao28 cap28).toArray,.int .i64 r.2.1,.agg (cS_api_Note r.2.2 ao29 cap29).toArray]∧(RSl rS_api_Segment 101 w' (blkL ao29++(M)) ao23 cap23 r.1.Attrs.Path)∧(RSl rS_api_Addr 25 w' (blkL ao29++(M)) ao24 cap24 r.1.Attrs.Clusters)∧(RSl (rArr .u8 8) 124 w' (blkL ao29++(M)) ao25 cap25 r.1.Attrs.Exts)∧(RSl rS_api_Tunnel 96 w' (blkL ao29++(M)) ao26 cap26 r.1.Attrs.Tunnels)∧(RSl rS_api_Table 55 w' (blkL ao29++(M)) ao27 cap27 r.1.Reach)∧(RSl rS_api_Table 55 w' (blkL ao29++(M)) ao28 cap28 r.1.Unreach)∧(Own (rInt .u8) 5 w' (blkL ao29++(M)) ao29 cap29 r.2.2.Data)∧(∀ x∈blkL ao29,w.heap.size≤x)∧Chg [] w w'∧MS (blkL ao29++(M)) w':=by
 unfold update_reset.f at H;refine ent Tryz.func51 rfl [(0,.int .i64 a0)] rfl (by rfl) fun a ha=>?_;have hC:Chg [] w w:=Chg.refl _ _;refine wsr fun K1 hK1=>?_;refine alE (cS_api_Update (⟨(⟨(0:Int),([]:List S_api_Segment),(0:Int),(0:Int),(⟨(0:Int),(List.replicate 16 (0:Int))⟩:S_api_Addr),([]:List S_api_Addr),([]:List (List Int)),([]:List S_api_Tunnel)⟩:S_api_Attrs),([]:List S_api_Table),([]:List S_api_Table)⟩:S_api_Update) none 0 none 0 none 0 none 0 none 0 none 0) ha fun a w2 g3 hN4 ha=>?_;have e_i5:=eN hC (hN4.ge1);have hM:=MS.app hN4.ms (hM.chg hN4.chg);have hC:=hC.t0 hN4.chg;have hBg3:=hN4.box;refine sd ha 1 [] [(2,pt g3 0)] fun a ha=>?_;refine alE (cS_api_Note (⟨(0:Int),(0:Int),([]:List Int)⟩:S_api_Note) none 0) ha fun a w6 g7 hN8 ha=>?_;have hBg3:=hBg3.c0 hN8.chg;have p_i9_i5:=pn (B:=[g3]) hM (hN8.ge1) fun _ hy=>ml hy;have e_i9:=eN hC (hN8.ge1);have hM:=MS.app hN8.ms (hM.chg hN8.chg);have hC:=hC.t0 hN8.chg;have hBg7:=hN8.box;refine hK1 _ _ ?_;refine wsr fun K10 hK10=>?_;obtain ⟨t11,H11,H⟩:=bind_some H;refine cL ha (update_Empty.walk w6 _ hM  _ H11) ?_;rintro _ w11 ⟨ao12,cap12,ao13,cap13,ao14,cap14,ao15,cap15,ao16,cap16,ao17,cap17,rfl,f12,f13,f14,f15,f16,f17,hc11,hMn⟩ a ha;have hBg3:=hBg3.c0 hc11;have hBg7:=hBg7.c0 hc11;have hM:=hM.chg hc11;have hC:=hC.t0 hc11;refine sd ha 1 [0] [(4,pt g7 0),(5,.agg (cS_api_Update t11 ao12 cap12 ao13 cap13 ao14 cap14 ao15 cap15 ao16 cap16 ao17 cap17).toArray),(6,.int .i64 a0)] fun a ha=>?_;refine oP (.agg (cS_api_Note (⟨(3:Int),a0,([]:List Int)⟩:S_api_Note) none 0).toArray) ha fun a ha=>?_;refine stE (cS_api_Update t11 ao12 cap12 ao13 cap13 ao14 cap14 ao15 cap15 ao16 cap16 ao17 cap17) ha hBg3 fun a w18 ha hBg3 hc19 _=>?_;have o1:Ok [g3] ([g7]++([g3]++(M))) w11.heap.size:=(fun _ h=>.inl (mr (ml h)))
 have o2:=oR ([g7]++([g3]++(M))) w11;have f12:=f12.chg hc19 o1 o2;have f13:=f13.chg hc19 o1 o2;have f14:=f14.chg hc19 o1 o2;have f15:=f15.chg hc19 o1 o2;have f16:=f16.chg hc19 o1 o2;have f17:=f17.chg hc19 o1 o2;have hBg7:=hBg7.chg hc19 (p_i9_i5 g7 (by simp));have hM:=hM.chg hc19;have hC:=hC.t1 hc19 e_i5;refine sd ha 1 [5,6] [(3,.int .i64 3),(7,.agg (cS_api_Note (⟨(3:Int),a0,([]:List Int)⟩:S_api_Note) none 0).toArray)] fun a ha=>?_;refine stE (cS_api_Note (⟨(3:Int),a0,([]:List Int)⟩:S_api_Note) none 0) ha hBg7 fun a w20 ha hBg7 hc21 _=>?_;have o1:Ok [g7] ([g7]++([g3]++(M))) w18.heap.size:=(fun _ h=>.inl (ml h))
 have o2:=oR ([g7]++([g3]++(M))) w18;have f12:=f12.chg hc21 o1 o2;have f13:=f13.chg hc21 o1 o2;have f14:=f14.chg hc21 o1 o2;have f15:=f15.chg hc21 o1 o2;have f16:=f16.chg hc21 o1 o2;have f17:=f17.chg hc21 o1 o2;have hBg3:=hBg3.chg hc21 ((fun x (hx:x∈[g3]) (hy:x∈[g7])=>p_i9_i5 x hy hx) g3 (by simp));have hM:=hM.chg hc21;have hC:=hC.t1 hc21 e_i9;refine hK10 _ _ ?_;refine wrt ?_;have o1:=oN ([g7]++([g3]++(M))) w20;have o2:Ok (blkL none++(M)) ([g7]++([g3]++(M))) w20.heap.size:=(Ok.app (fun _ h=>nomatch h) (fun _ h=>.inl (mr (mr (h)))))
 have f12:=f12.chg (Chg.refl [] _) o1 o2;have f13:=f13.chg (Chg.refl [] _) o1 o2;have f14:=f14.chg (Chg.refl [] _) o1 o2;have f15:=f15.chg (Chg.refl [] _) o1 o2;have f16:=f16.chg (Chg.refl [] _) o1 o2;have f17:=f17.chg (Chg.refl [] _) o1 o2;have e_z22:∀ x∈blkL none,w.heap.size≤x:=fun x hx=>Nat.le_trans hC.size ((fun _ h=>nomatch h) x hx);have hM:MS (blkL none++(M)) w20:=(MS.app (fun _ h=>nomatch h) (fun x h=>hM.chg (Chg.refl [] _) x (mr (mr (h)))))
 obtain rfl:=oj H;refine rtr ha (res3 rfl (roA ha rfl hBg3 (by kernel_rfl)) (roT ha rfl) (roA ha rfl hBg7 (by kernel_rfl))) ?_;exact ⟨ao12,cap12,ao13,cap13,ao14,cap14,ao15,cap15,ao16,cap16,ao17,cap17,none,0,rfl,f12,f13,f14,f15,f16,f17,Own.nil,e_z22,hC,hM⟩
def attr_copied.f (a0:S_api_Raw):Option (S_api_Raw):=(bytes_Clone.f a0.Value).bind fun t12=>some (((⟨a0.Flags,a0.Kind,t12⟩:S_api_Raw):S_api_Raw))
set_option maxRecDepth 100000 in
theorem attr_copied.walk (w:World) (M:List Nat) (hM:MS M w) (a0:S_api_Raw) (ao1:Option Addr) (cap1:Nat) (f1:RSl (rInt .u8) 5 w M ao1 cap1 a0.Value) (r:S_api_Raw) (H:attr_copied.f a0=some r) :
    To Tryz.prog 131 [.agg (cS_api_Raw a0 ao1 cap1).toArray] w fun v w'=>∃ (ao19:Option Addr) (cap19:Nat),v=.agg (cS_api_Raw r ao19 cap19).toArray∧(Own (rInt .u8) 5 w' (blkL ao19++(M)) ao19 cap19 r.Value)∧(∀ x∈blkL ao19,w.heap.size≤x)∧Chg [] w w'∧MS (blkL ao19++(M)) w':=by
 unfold attr_copied.f at H;refine ent Tryz.func131 rfl [(0,.agg (cS_api_Raw a0 ao1 cap1).toArray)] rfl (by rfl) fun a ha=>?_;have hC:Chg [] w w:=Chg.refl _ _;refine wsr fun K2 hK2=>?_;refine bx (cs:=(cS_api_Raw a0 ao1 cap1)) ha rfl rfl rfl rfl rfl fun a w3 g4 hN5 ha=>?_;have o1:=oN M w;have o2:=oA hN5 M;have f1:=f1.chg hN5.chg o1 o2;have e_i6:=eN hC (hN5.ge1);have hM:=MS.app hN5.ms (hM.chg hN5.chg);have hC:=hC.t0 hN5.chg;have hBg4:=hN5.box;refine alE (cS_api_Raw (⟨(0:Int),(0:Int),([]:List Int)⟩:S_api_Raw) none 0) ha fun a w7 g8 hN9 ha=>?_;have o1:=oN ([g4]++(M)) w3;have o2:=oA hN9 ([g4]++(M));have f1:=f1.chg hN9.chg o1 o2;have hBg4:=hBg4.c0 hN9.chg;have p_i10_i6:=pn (B:=[g4]) hM (hN9.ge1) fun _ hy=>ml hy;have e_i10:=eN hC (hN9.ge1);have hM:=MS.app hN9.ms (hM.chg hN9.chg);have hC:=hC.t0 hN9.chg;have hBg8:=hN9.box;refine hK2 _ _ ?_;refine wsr fun K11 hK11=>?_;refine sf ha 1 [(1,pt g4 0),(2,pt g8 0),(3,pt g4 2)] fun a ha=>?_;refine ld (v:=.slice ao1 a0.Value.length cap1) ha rfl (by kernel_rfl) rfl rfl rfl (hBg4.cell' (o:=2) rfl (by kernel_rfl)) fun a ha=>?_;obtain ⟨t12,H12,H⟩:=bind_some H;refine cL ha (bytes_Clone.walk w7 _ hM a0.Value ao1 cap1 f1 _ H12) ?_;rintro _ w12 ⟨ao13,cap13,rfl,f13,ne_i13,hc12,hMn⟩ a ha;have hBg4:=hBg4.c0 hc12;have hBg8:=hBg8.c0 hc12;have p_i13_i10:=pn (B:=[g8]) hM ne_i13 fun _ hy=>ml hy;have p_i13_i6:=pn (B:=[g4]) hM ne_i13 fun _ hy=>mr (ml hy);have e_i13:=eN hC ne_i13;have hM:MS (blkL ao13++([g8]++([g4]++(M)))) w12:=(MS.app (fun x h=>hMn x (ml h)) (hM.chg hc12))
 have hC:=hC.t0 hc12;refine sd ha 1 [3] [(5,.slice ao13 t12.length cap13),(6,pt g4 2)] fun a ha=>?_;refine st ha rfl rfl rfl (by kernel_rfl) rfl rfl hBg4 (Nat.le_of_ble_eq_true (by kernel_rfl)) fun a w14 ha hb2 hc15 _=>?_;have o1:Ok [g4] (blkL ao13++([g8]++([g4]++(M)))) w12.heap.size:=(fun _ h=>.inl (mr (mr (ml h))))
 have o2:=oR (blkL ao13++([g8]++([g4]++(M)))) w12;have f13:=f13.chg hc15 o1 o2 p_i13_i6 (fun _ h=>ml h);have hBg8:=hBg8.chg hc15 (p_i10_i6 g8 (by simp));have hM:=hM.chg hc15;have hC:=hC.t1 hc15 e_i6;have hBg4:Box w14 g4 (cS_api_Raw (⟨a0.Flags,a0.Kind,t12⟩:S_api_Raw) ao13 cap13):=hb2;refine hK11 _ _ ?_;refine wsr fun K16 hK16=>?_;refine ldE (Box.cells hBg4) ha fun a ha=>?_;refine stE (cS_api_Raw (⟨a0.Flags,a0.Kind,t12⟩:S_api_Raw) ao13 cap13) ha hBg8 fun a w17 ha hBg8 hc18 _=>?_;have o1:Ok [g8] (blkL ao13++([g8]++([g4]++(M)))) w14.heap.size:=(fun _ h=>.inl (mr (ml h)))
 have o2:=oR (blkL ao13++([g8]++([g4]++(M)))) w14;have f13:=f13.chg hc18 o1 o2 p_i13_i10 (fun _ h=>ml h);have hM:=hM.chg hc18;have hC:=hC.t1 hc18 e_i10;refine hK16 _ _ ?_;refine wrt ?_;have o1:=oN (blkL ao13++([g8]++([g4]++(M)))) w17;have o2:Ok (blkL ao13++(M)) (blkL ao13++([g8]++([g4]++(M)))) w17.heap.size:=(Ok.app (fun _ h=>.inl (ml h)) (fun _ h=>.inl (mr (mr (mr (h))))))
 have f13:=f13.chg (Chg.refl [] _) o1 o2 (fun _ _ h=>nomatch h) (fun _ h=>ml h);have hM:MS (blkL ao13++(M)) w17:=(MS.app (fun x h=>hM.chg (Chg.refl [] _) x (ml h)) (fun x h=>hM.chg (Chg.refl [] _) x (mr (mr (mr (h))))))
 obtain rfl:=oj H;refine rtr ha (res1 rfl (roA ha rfl hBg8 (by kernel_rfl))) ?_;exact ⟨ao13,cap13,rfl,f13,e_i13,hC,hM⟩
def attr_flagsOf.f (a0:Int):Option (Int×Bool):=((if (a0==(1:Int))=true then some (a0==(1:Int):Bool) else (if (a0==(2:Int))=true then some (a0==(2:Int):Bool) else some (a0==(5:Int):Bool)))).bind fun s5=>(if s5=true then some (((64:Int):Int),(true:Bool)) else ((if (a0==(4:Int))=true then some (a0==(4:Int):Bool) else (if (a0==(9:Int))=true then some (a0==(9:Int):Bool) else (if (a0==(10:Int))=true then some (a0==(10:Int):Bool) else (if (a0==(14:Int))=true then some (a0==(14:Int):Bool) else some (a0==(15:Int):Bool)))))).bind fun s9=>(if s9=true then some (((128:Int):Int),(true:Bool)) else ((if (a0==(16:Int))=true then some (a0==(16:Int):Bool) else some (a0==(22:Int):Bool))).bind fun s13=>(if s13=true then some (((192:Int):Int),(true:Bool)) else some (((0:Int):Int),(false:Bool)))))
set_option maxRecDepth 100000 in
theorem attr_flagsOf.walk (w:World) (M:List Nat) (hM:MS M w) (a0:Int) (r:Int×Bool) (H:attr_flagsOf.f a0=some r) :
    To Tryz.prog 59 [.int .i64 a0] w fun v w'=>v=.tuple #[.int .i64 r.1,.bool r.2]∧Chg [] w w'∧MS (M) w':=by
 unfold attr_flagsOf.f at H;refine ent Tryz.func59 rfl [(0,.int .i64 a0)] rfl (by rfl) fun a ha=>?_;have hC:Chg [] w w:=Chg.refl _ _;refine sqd ha 2 [] [] fun a ha=>?_;refine wp_seq_k fun K2 hK2=>?_;refine sq ha 1 [(4,.int .i64 a0)] fun a ha=>?_;refine wp_block ?_;refine wp_seq_k fun K4 hK4=>?_;obtain ⟨s5,H5,H⟩:=bind_some H;have J5:∀ (a:Act) (w5:World),Has a Tryz.f59.ntmps [(4,.int .i64 a0),(5,.bool s5)]→(Chg [] w w5)→(MS (M) w5)→K4 a w5:=by
  intro a w5 ha hC hM;refine hK4 _ _ ?_;refine cnH H ha (fun hc6 H=>?_) (fun hc6 H=>?_)
  ·refine sq ha 2 [(2,.int .i64 64),(3,.bool true)] fun a ha=>?_;refine wrt ?_;obtain rfl:=oj H;refine rt2 ha rfl rfl rfl ?_;exact ⟨rfl,hC,hM⟩
  ·refine wp_seq_k fun K8 hK8=>?_;obtain ⟨s9,H9,H⟩:=bind_some H;have J9:∀ (a:Act) (w9:World),Has a Tryz.f59.ntmps [(4,.int .i64 a0),(9,.bool s9)]→(Chg [] w w9)→(MS (M) w9)→K8 a w9:=by
    intro a w9 ha hC hM;refine hK8 _ _ ?_;refine cnH H ha (fun hc10 H=>?_) (fun hc10 H=>?_)
    ·refine sq ha 2 [(2,.int .i64 128),(3,.bool true)] fun a ha=>?_;refine wrt ?_;obtain rfl:=oj H;refine rt2 ha rfl rfl rfl ?_;exact ⟨rfl,hC,hM⟩
    ·refine wp_seq_k fun K12 hK12=>?_;obtain ⟨s13,H13,H⟩:=bind_some H;have J13:∀ (a:Act) (w13:World),Has a Tryz.f59.ntmps [(15,.bool s13)]→(Chg [] w w13)→(MS (M) w13)→K12 a w13:=by
      intro a w13 ha hC hM;refine hK12 _ _ ?_;refine cnH H ha (fun hc14 H=>?_) (fun hc14 H=>?_)
      ·refine sq ha 2 [(2,.int .i64 192),(3,.bool true)] fun a ha=>?_;refine wrt ?_;obtain rfl:=oj H;refine rt2 ha rfl rfl rfl ?_;exact ⟨rfl,hC,hM⟩
      ·refine wp_skip ?_;refine hK2 _ _ ?_;refine sq ha 2 [(2,.int .i64 0),(3,.bool false)] fun a ha=>?_;refine wrt ?_;obtain rfl:=oj H;refine rt2 ha rfl rfl rfl ?_;exact ⟨rfl,hC,hM⟩
     have H:=H13;refine sqd ha 2 [9] [(15,.bool (a0==(16:Int)))] fun a ha=>?_;refine cnH H ha (fun hc18 H=>?_) (fun hc18 H=>?_)
     ·refine wp_skip ?_;obtain rfl:=oj H;exact J13 _ _ (ha.sel (by kernel_rfl)) hC hM
     ·refine wp_region_lit ?_;refine sf ha 2 [(15,.bool (a0==(22:Int)))] fun a ha=>?_;obtain rfl:=oj H;exact J13 _ _ (ha.sel (by kernel_rfl)) hC hM
   have H:=H9;refine sqd ha 2 [5] [(9,.bool (a0==(4:Int)))] fun a ha=>?_;refine cnH H ha (fun hc20 H=>?_) (fun hc20 H=>?_)
   ·refine wp_skip ?_;obtain rfl:=oj H;exact J9 _ _ (ha.sel (by kernel_rfl)) hC hM
   ·refine sqd ha 2 [] [(9,.bool (a0==(9:Int)))] fun a ha=>?_;refine cnH H ha (fun hc22 H=>?_) (fun hc22 H=>?_)
    ·refine wp_skip ?_;obtain rfl:=oj H;exact J9 _ _ (ha.sel (by kernel_rfl)) hC hM
    ·refine sqd ha 2 [] [(9,.bool (a0==(10:Int)))] fun a ha=>?_;refine cnH H ha (fun hc24 H=>?_) (fun hc24 H=>?_)
     ·refine wp_skip ?_;obtain rfl:=oj H;exact J9 _ _ (ha.sel (by kernel_rfl)) hC hM
     ·refine sqd ha 2 [] [(9,.bool (a0==(14:Int)))] fun a ha=>?_;refine cnH H ha (fun hc26 H=>?_) (fun hc26 H=>?_)
      ·refine wp_skip ?_;obtain rfl:=oj H;exact J9 _ _ (ha.sel (by kernel_rfl)) hC hM
      ·refine wp_region_lit ?_;refine sd ha 2 [] [(9,.bool (a0==(15:Int)))] fun a ha=>?_;obtain rfl:=oj H;exact J9 _ _ (ha.sel (by kernel_rfl)) hC hM
 have H:=H5;refine sqd ha 2 [] [(5,.bool (a0==(1:Int)))] fun a ha=>?_;refine cnH H ha (fun hc28 H=>?_) (fun hc28 H=>?_)
 ·refine wp_skip ?_;obtain rfl:=oj H;exact J5 _ _ (ha.sel (by kernel_rfl)) hC hM
 ·refine sqd ha 2 [] [(5,.bool (a0==(2:Int)))] fun a ha=>?_;refine cnH H ha (fun hc30 H=>?_) (fun hc30 H=>?_)
  ·refine wp_skip ?_;obtain rfl:=oj H;exact J5 _ _ (ha.sel (by kernel_rfl)) hC hM
  ·refine wp_region_lit ?_;refine sd ha 2 [] [(5,.bool (a0==(5:Int)))] fun a ha=>?_;obtain rfl:=oj H;exact J5 _ _ (ha.sel (by kernel_rfl)) hC hM
def attr_table.f (a0:Int):Option (Bool):=some ((if (a0==(14:Int))=true then true else (a0==(15:Int)):Bool))
set_option maxRecDepth 100000 in
theorem attr_table.walk (w:World) (M:List Nat) (hM:MS M w) (a0:Int) (r:Bool) (H:attr_table.f a0=some r) :
    To Tryz.prog 130 [.int .i64 a0] w fun v w'=>v=.bool r∧Chg [] w w'∧MS (M) w':=by
 unfold attr_table.f at H;refine ent Tryz.func130 rfl [(0,.int .i64 a0)] rfl (by rfl) fun a ha=>?_;have hC:Chg [] w w:=Chg.refl _ _;refine sqd ha 1 [] [] fun a ha=>?_;refine sq ha 7 [(2,.bool (if (a0==(14:Int))=true then true else (a0==(15:Int))))] fun a ha=>?_;refine wrt ?_;obtain rfl:=oj H;refine rt1 ha rfl rfl ?_;exact ⟨rfl,hC,hM⟩
def attr_fits.f (a0:Int) (a1:Int):Option (Bool):=some ((if (a0==a1)=true then true else (if (a1==(192:Int))=true then (a0==(224:Int)) else false):Bool))
set_option maxRecDepth 100000 in
theorem attr_fits.walk (w:World) (M:List Nat) (hM:MS M w) (a0:Int) (a1:Int) (r:Bool) (H:attr_fits.f a0 a1=some r) :
    To Tryz.prog 132 [.int .i64 a0,.int .i64 a1] w fun v w'=>v=.bool r∧Chg [] w w'∧MS (M) w':=by
 unfold attr_fits.f at H;refine ent Tryz.func132 rfl [(0,.int .i64 a0),(1,.int .i64 a1)] rfl (by rfl) fun a ha=>?_;have hC:Chg [] w w:=Chg.refl _ _;refine sqd ha 1 [] [] fun a ha=>?_;refine sq ha 12 [(4,.bool (if (a0==a1)=true then true else (if (a1==(192:Int))=true then (a0==(224:Int)) else false)))] fun a ha=>?_;refine wrt ?_;obtain rfl:=oj H;refine rt1 ha rfl rfl ?_;exact ⟨rfl,hC,hM⟩
def av3 (o m p:Int):S_api_Attrs:=⟨o,[],m,p,⟨0,List.replicate 16 0⟩,[],[],[]⟩
def cAt (o m p:Int):List Value:=cS_api_Attrs (av3 o m p) none 0 none 0 none 0 none 0
def tRd (ar:Option Addr) (n cr:Nat) (gm:Nat):List Value:=[.slice ar n cr,.int .i64 0,.map (some gm)]
theorem u104:Tryz.prog.underlying 140=some (.map 3 4):=by kernel_rfl
theorem K3i:MKey Tryz.prog 3 (kI .i64):=mkey_int (by kernel_rfl)
theorem rd_none (w:World):To Tryz.prog 21 [] w fun v w'=>v=.agg (cAt 0 (-1) (-1)).toArray∧Chg [] w w':=by
  refine ent Tryz.func21 rfl [] rfl (by rfl) fun a ha=>?_
  refine wp_seq_k fun K hK=>?_
  refine wp_region_lit ?_
  refine al (cs:=cAt 0 0 0) (z:=.agg (cAt 0 0 0).toArray) ha (fun w=>by kernel_rfl) rfl rfl rfl rfl fun a w2 g hN ha=>?_
  refine sf ha 0 [(0,pt g 0)] fun a ha=>?_
  refine hK _ _ ?_;clear hK K
  refine wp_seq_k fun K hK=>?_
  refine wp_region_lit ?_
  refine oP (.agg (cAt 0 (-1) (-1)).toArray) ha fun a ha=>?_
  refine stA (l:=cAt 0 (-1) (-1)) ha rfl rfl rfl (by kernel_rfl) rfl rfl hN.box rfl fun a w3 ha hb2 hc _=>?_
  have hB:Box w3 g (cAt 0 (-1) (-1)):=hb2.cast (by kernel_rfl)
  refine wpl_end ?_
  have ha:=ha.sel (env':=[(0,.pointer (some ⟨g,0,none⟩))]) (by kernel_rfl)
  refine hK _ _ ?_;clear hK K
  refine wp_ret ?_
  refine rtr ha (res1 rfl (roA ha rfl hB (by kernel_rfl))) ?_
  exact ⟨rfl,hN.chg.trans hc (Ok.one (.inr hN.ge))⟩
theorem mlk1_run {α β:Type} [BEq α] {P:Program} {kv:α→Value} {vv:β→Value} {n:Nat} {w:World} {a:Act} {env:Env} {dd:Option Tmp} {ty:TypeId} {pos:String} {af:Array Edge} {gd:Option (Nat×Bool)} {t kt e:TypeId} {x y:Operand} {g:Nat} {l:List (α×β)} {k:α} {z:β} (ha:Has a n env) (ht:P.underlying t=some (.map kt e)) (K:MKey P kt kv) (hx:ev env x=some (.map (some g))) (hy:ev env y=some (kv k))
    (hz:∀ w,(zeroValue e).run P w=.ok (vv z) w) (h:MapR kv vv w g l) :
    (execOp a.eval ⟨dd,.lookup t x y false,ty,pos,af,gd⟩).run P w=.ok (.value (vv ((mget l k).getD z))) w:=by
  obtain ⟨es,c,hb,he,_⟩:=h
  have e1:execOp a.eval ⟨dd,.lookup t x y false,ty,pos,af,gd⟩=(Instr.lookup t (.map (some g)) (kv k) false >>= fun v=>pure (Next.value v)):=by
    simp [execOp,ha.ev hx,ha.ev hy]
  refine execOp_val' e1 ?_
  rcases findKey_run K he k w with ⟨a1,a2,_⟩ | ⟨v,j,a1,a2,_⟩
  · simp [Instr.lookup,run_underlying ht,getObj,Sem.run,hb,K.check w _ k,a1,a2,hz w]
  · simp [Instr.lookup,run_underlying ht,getObj,Sem.run,hb,K.check w _ k,a1,a2]
structure Tk1 (w0 w:World) (M:List Nat) (g gm gN:Nat) (hd:List (Int×Bool)) (x:S_api_Raw) (ao:Option Addr) (cap:Nat):Prop where
  rd:Box w g (cAt 0 (-1) (-1)++tRd none 0 0 gm)
  mp:MapR (kI .i64) kB w gm hd
  bx:Box w gN (cS_api_Raw x ao cap)
  sl:RSl (rInt .u8) 5 w M ao cap x.Value
  ms:MS M w
  ch:Chg [g,gm] w0 w
theorem Tk1.nil {w0 w w':World} {M:List Nat} {g gm gN:Nat} {hd:List (Int×Bool)} {x:S_api_Raw} {ao:Option Addr} {cap:Nat} (h:Tk1 w0 w M g gm gN hd x ao cap) (hc:Chg [] w w'):Tk1 w0 w' M g gm gN hd x ao cap :=
  ⟨h.rd.chg hc (fun h=>nomatch h),h.mp.chg hc (fun h=>nomatch h),h.bx.chg hc (fun h=>nomatch h),h.sl.chg hc (Ok.nil _ _) (Ok.refl _ _),h.ms.chg hc,h.ch.trans hc (Ok.nil _ _)⟩
theorem take1_walk (w:World) (M:List Nat) (hM:MS M w) (g gm:Nat) (hne:g≠gm) (hB:Box w g (cAt 0 (-1) (-1)++tRd none 0 0 gm)) (hm:MapR (kI .i64) kB w gm ([]:List (Int×Bool))) (hgM:g∈M) (hmM:gm∈M) (x:S_api_Raw) (ao:Option Addr) (cap:Nat) (f1:RSl (rInt .u8) 5 w M ao cap x.Value) (hk:x.Kind=15) (hfl:x.Flags=128) (y:S_api_Raw) (Hy:attr_copied.f x=some y) :
    To Tryz.prog 100 [.pointer (some ⟨g,0,none⟩),.agg (cS_api_Raw x ao cap).toArray] w fun v w'=>v=.tuple #[]∧∃ (a1:Option Addr) (c1:Nat),Box w' g (cAt 0 (-1) (-1)++tRd a1 1 c1 gm)∧MapR (kI .i64) kB w' gm [(15,true)]∧RSl rS_api_Raw 65 w' M a1 c1 [y]∧Chg [g,gm] w w':=by
  have Ht:attr_flagsOf.f x.Kind=some (128,true):=by rw [hk];rfl
  refine ent Tryz.func100 rfl [(0,.pointer (some ⟨g,0,none⟩)),(1,.agg (cS_api_Raw x ao cap).toArray)] rfl (by rfl) fun a ha=>?_
  refine wp_top_k fun K0 hK0=>?_
  refine wp_seq_k fun K hK=>?_
  refine wp_region_lit ?_
  refine bx (cs:=cS_api_Raw x ao cap) ha rfl rfl rfl rfl rfl fun a w1 gN hN ha=>?_
  have hgN:g≠gN:=fun e=>by have:=hM g hgM;have:=hN.ge;omega
  have hmN:gm≠gN:=fun e=>by have:=hM gm hmM;have:=hN.ge;omega
  have T:Tk1 w w1 M g gm gN [] x ao cap:=⟨hB.chg hN.chg (fun h=>nomatch h),hm.chg hN.chg (fun h=>nomatch h),hN.box,f1.chg hN.chg (Ok.nil _ _) (Ok.refl _ _),hM.chg hN.chg,hN.chg.mono (Ok.nil _ _)⟩
  refine sf ha 0 [(0,pt g 0),(3,pt gN 0)] fun a ha=>?_
  refine hK _ _ ?_;clear hK K
  refine wp_seq_k fun K hK=>?_
  refine wp_region_lit ?_
  refine sf ha 1 [(0,pt g 0),(3,pt gN 0),(9,pt gN 1)] fun a ha=>?_
  refine ld (v:=.int .i64 x.Kind) ha rfl (by kernel_rfl) rfl rfl rfl (T.bx.cell' (o:=1) rfl (by kernel_rfl)) fun a ha=>?_
  refine cL ha (attr_flagsOf.walk w1 [] (MS.nil _) x.Kind _ Ht) ?_
  rintro _ w2 ⟨rfl,c2,_⟩ a ha
  have T:=T.nil c2
  refine sf ha 5 [(0,pt g 0),(3,pt gN 0),(4,.int .i64 128),(5,.bool true)] fun a ha=>?_
  refine hK _ _ ?_;clear hK K
  refine wp_seq_k fun K hK=>?_
  refine wp_block ?_
  refine wsr fun K2 hK2=>?_
  refine sf ha 3 [(0,pt g 0),(3,pt gN 0),(4,.int .i64 128),(14,.bool false)] fun a ha=>?_
  refine hK2 _ _ ?_;clear hK2 K2
  refine cnd ha rfl (fun h=>nomatch h) (fun _=>?_)
  refine wp_seq_k fun K2 hK2=>?_
  refine drq0 (fun w'=>Chg [] w2 w') (by kernel_rfl) (by kernel_rfl) (fun _ h=>h) ?_
  refine qP 0 (pt g 0) ha fun a ha=>?_
  refine qP 0 (pt g 0) ha fun a ha=>?_
  refine qP 0 (pt g 26) ha fun a ha=>?_
  refine qV (v:=.map (some gm)) ha (fun w' hs=>ld_run ha rfl (by kernel_rfl) ((T.rd.chg hs (fun h=>nomatch h)).cell' (o:=26) rfl (by kernel_rfl))) fun a ha=>?_
  refine qP 0 (pt gN 1) ha fun a ha=>?_
  refine qV (v:=.int .i64 x.Kind) ha (fun w' hs=>ld_run ha rfl (by kernel_rfl) ((T.bx.chg hs (fun h=>nomatch h)).cell' (o:=1) rfl (by kernel_rfl))) fun a ha=>?_
  refine qV (v:=.bool false) ha (fun w' hs=>mlk1_run (vv:=kB) (k:=x.Kind) (z:=false) (l:=[]) ha u104 K3i rfl rfl (fun w=>by kernel_rfl) (T.mp.chg hs (fun h=>nomatch h))) fun a ha=>?_
  refine qP 0 (.bool false) ha fun a ha=>?_
  refine qO ha fun a ha=>?_
  refine qO ha fun a ha=>?_
  refine qO ha fun a ha=>?_
  refine qP 4 (.bool false) ha fun a ha=>?_
  refine qP 0 (.bool false) ha fun a ha=>?_
  have ha:=ha.sel (env':=[(20,.bool false),(0,.pointer (some ⟨g,0,none⟩)),(3,.pointer (some ⟨gN,0,none⟩)),(4,.int .i64 128)]) (by kernel_rfl)
  intro w3 hs3
  refine wpl_end ?_
  have T:=T.nil hs3
  refine hK2 _ _ ?_;clear hK2 K2
  refine cnd ha rfl (fun h=>nomatch h) (fun _=>?_)
  refine wp_seq_k fun K2 hK2=>?_
  refine drq0 (fun w'=>Chg [] w3 w') (by kernel_rfl) (by kernel_rfl) (fun _ h=>h) ?_
  refine qP 0 (pt g 0) ha fun a ha=>?_
  refine qP 0 (pt g 0) ha fun a ha=>?_
  refine qP 0 (pt g 26) ha fun a ha=>?_
  refine qV (v:=.map (some gm)) ha (fun w' hs=>ld_run ha rfl (by kernel_rfl) ((T.rd.chg hs (fun h=>nomatch h)).cell' (o:=26) rfl (by kernel_rfl))) fun a ha=>?_
  refine qP 0 (pt gN 1) ha fun a ha=>?_
  refine qV (v:=.int .i64 x.Kind) ha (fun w' hs=>ld_run ha rfl (by kernel_rfl) ((T.bx.chg hs (fun h=>nomatch h)).cell' (o:=1) rfl (by kernel_rfl))) fun a ha=>?_
  refine qV (v:=.bool false) ha (fun w' hs=>mlk1_run (vv:=kB) (k:=x.Kind) (z:=false) (l:=[]) ha u104 K3i rfl rfl (fun w=>by kernel_rfl) (T.mp.chg hs (fun h=>nomatch h))) fun a ha=>?_
  refine qP 0 (.bool false) ha fun a ha=>?_
  have ha:=ha.sel (env':=[(35,.bool false),(0,.pointer (some ⟨g,0,none⟩)),(3,.pointer (some ⟨gN,0,none⟩)),(4,.int .i64 128)]) (by kernel_rfl)
  intro w4 hs4
  refine wpl_end ?_
  have T:=T.nil hs4
  refine hK2 _ _ ?_;clear hK2 K2
  refine cnd ha rfl (fun h=>nomatch h) (fun _=>?_)
  refine wp_skip ?_
  refine hK _ _ ?_;clear hK K
  refine wp_seq_k fun K hK=>?_
  refine drq 6 (fun w'=>Chg [] w4 w') (by kernel_rfl) (by kernel_rfl) (fun _ h=>h) ?_
  refine qP 0 (pt g 0) ha fun a ha=>?_
  refine qP 0 (pt g 0) ha fun a ha=>?_
  refine qP 0 (pt g 26) ha fun a ha=>?_
  refine qV (v:=.map (some gm)) ha (fun w' hs=>ld_run ha rfl (by kernel_rfl) ((T.rd.chg hs (fun h=>nomatch h)).cell' (o:=26) rfl (by kernel_rfl))) fun a ha=>?_
  refine qP 0 (pt gN 1) ha fun a ha=>?_
  refine qV (v:=.int .i64 x.Kind) ha (fun w' hs=>ld_run ha rfl (by kernel_rfl) ((T.bx.chg hs (fun h=>nomatch h)).cell' (o:=1) rfl (by kernel_rfl))) fun a ha=>?_
  have ha:=ha.sel (env':=[(48,.map (some gm)),(50,.int .i64 x.Kind),(0,.pointer (some ⟨g,0,none⟩)),(3,.pointer (some ⟨gN,0,none⟩)),(4,.int .i64 128)]) (by kernel_rfl)
  intro w5 hs5
  have T:=T.nil hs5
  refine mup (k:=x.Kind) (u:=true) ha u104 K3i rfl rfl rfl rfl T.mp fun a w6 ha hm6 c6=>?_
  have T:Tk1 w w6 M g gm gN [(15,true)] x ao cap:=⟨T.rd.chg c6 (by simp [hne]),by rw [hk] at hm6;exact hm6,T.bx.chg c6 (by simp [Ne.symm hmN]),T.sl.chg c6 (Ok.one (.inl hmM)) (Ok.refl _ _),T.ms.chg c6,T.ch.trans c6 (Ok.one (.inl (by simp)))⟩
  refine wpl_end ?_
  have ha:=ha.sel (env':=[(0,.pointer (some ⟨g,0,none⟩)),(3,.pointer (some ⟨gN,0,none⟩)),(4,.int .i64 128)]) (by kernel_rfl)
  refine hK _ _ ?_;clear hK K
  have Htb:attr_table.f x.Kind=some true:=by rw [hk];rfl
  refine wp_seq_k fun K hK=>?_
  refine wsr fun K2 hK2=>?_
  refine sf ha 1 [(0,pt g 0),(3,pt gN 0),(4,.int .i64 128),(51,pt gN 1)] fun a ha=>?_
  refine ld (v:=.int .i64 x.Kind) ha rfl (by kernel_rfl) rfl rfl rfl (T.bx.cell' (o:=1) rfl (by kernel_rfl)) fun a ha=>?_
  refine cL ha (attr_table.walk w6 [] (MS.nil _) x.Kind _ Htb) ?_
  rintro _ w7 ⟨rfl,c7,_⟩ a ha
  have T:=T.nil c7
  refine wpl_end ?_
  have ha:=ha.sel (env':=[(0,.pointer (some ⟨g,0,none⟩)),(3,.pointer (some ⟨gN,0,none⟩)),(4,.int .i64 128),(53,.bool true)]) (by kernel_rfl)
  refine hK2 _ _ ?_;clear hK2 K2
  refine cnd ha rfl (fun _=>?_) (fun h=>nomatch h)
  refine wp_seq_k fun K3 hK3=>?_
  refine drl 11 (by kernel_rfl) fun w8 hs8=>?_
  have T:=T.nil hs8
  have hM8:=T.ms
  have hid:=Chg.refl [] w8
  refine tlp 0 0 (.pointer (some ⟨g,0,none⟩)) ha hid (hk:=fun a ha=>?_)
  refine tlp 1 0 (.pointer (some ⟨g,0,none⟩)) ha hid (hk:=fun a ha=>?_)
  refine tlp 2 0 (.pointer (some ⟨g,0,none⟩)) ha hid (hk:=fun a ha=>?_)
  refine tlp 3 0 (.pointer (some ⟨g,24,none⟩)) ha hid (hk:=fun a ha=>?_)
  refine tl (v:=.slice none 0 0) 4 ha hid rfl (fun w' hs=>ld_run ha rfl (by kernel_rfl) ((T.rd.chg hs (fun h=>nomatch h)).cell' (o:=24) rfl (by kernel_rfl))) (hk:=fun a ha=>?_)
  refine tl (v:=.agg (cS_api_Raw x ao cap).toArray) 5 ha hid rfl (fun w' hs=>ldR (cs:=cS_api_Raw x ao cap) (Box.cells (T.bx.chg hs (fun h=>nomatch h))) ha) (hk:=fun a ha=>?_)
  refine al3 6 (h:=fun K2 hK2=>?_)
  refine cL ha (attr_copied.walk w8 M T.ms x ao cap T.sl _ Hy) ?_
  rintro _ w9 ⟨aoY,capY,rfl,hOY,hgeY,c9,hM9⟩ a ha
  refine wpl_end (hK2 _ _ c9 ?_);clear hK2 K2
  have T:=T.nil c9
  have fY:RSl (rInt .u8) 5 w9 M aoY capY y.Value:=hOY.toRSl (fun _ h=>.inl (mr h)) (fun q hq hqM=>absurd (hM8 q hqM) (Nat.not_lt.2 (hgeY q hq)))
  refine al3 7 (h:=fun K2 hK2=>?_)
  refine bslA (vals:=[.agg (cS_api_Raw y aoY capY).toArray]) (T:=65) (z:=.agg (cS_api_Raw (⟨(0:Int),(0:Int),([]:List Int)⟩:S_api_Raw) none 0).toArray) ha rfl (by kernel_rfl) rfl (by kernel_rfl) (s:=3) (by kernel_rfl) rfl rfl (fun w=>by kernel_rfl) (by kernel_rfl) rfl rfl rfl fun a w10 gL hL ha=>?_
  have hL:=(show New _ _ _ (.cells (cS_api_Raw y aoY capY++([]:List Value)).toArray 65 (0,0)) from hL)
  have c10:=c9.trans hL.chg (Ok.nil _ _)
  refine wpl_end (hK2 _ _ c10 ?_);clear hK2 K2
  have hM10:=T.ms.chg hL.chg
  have T:=T.nil hL.chg
  have fY:=fY.chg (M':=[gL]++M) hL.chg (Ok.nil _ _) (Ok.app (hL.ok _) (Ok.refl _ _))
  have fL:Own rS_api_Raw 65 w10 ([gL]++M) (some ⟨gL,0,none⟩) 1 [y]:=hL.own ⟨cS_api_Raw y aoY capY,_,rfl,rS_api_Raw.mk y fY,rfl⟩ (Nat.le_of_ble_eq_true rfl)
  refine al3 8 (h:=fun K2 hK2=>?_)
  refine app (r:=rS_api_Raw) (xs:=[]) (ys:=[y]) ha (ElemT.mk' (bytes:=40) (by kernel_rfl)) rfl rfl rfl rfl rfl Own.nil fL.src (by simp) (by decide) fun a w11 aoR capR hOR hcR hkR hlR ha=>?_
  have hcR:Chg [] w10 w11:=hcR
  have c11:=c10.trans hcR (Ok.nil _ _)
  refine wpl_end (hK2 _ _ c11 ?_);clear hK2 K2
  have T:=T.nil hcR
  have fR:RSl rS_api_Raw 65 w11 M aoR capR [y]:=hOR.toRSl (fun _ h=>.inl (mr (mr h))) (fun q hq hqM=>(hkR q hq).elim (fun h=>nomatch h) (fun h=>absurd (hM10 q hqM) (Nat.not_lt.2 h)))
  refine tlp 9 0 (.pointer (some ⟨g,0,none⟩)) ha c11 (hk:=fun a ha=>?_)
  refine tlp 10 0 (.pointer (some ⟨g,24,none⟩)) ha c11 (hk:=fun a ha=>?_)
  refine al2 11 (h:=fun K2 hK2=>?_)
  refine st ha rfl rfl rfl (by kernel_rfl) rfl rfl T.rd (Nat.le_of_ble_eq_true (by kernel_rfl)) fun a w12 ha hb2 c12 _=>?_
  refine wpl_end (hK2 _ _ ?_);clear hK2 K2
  refine dl ?_
  have hBg:Box w12 g (cAt 0 (-1) (-1)++tRd aoR 1 capR gm):=hb2.cast (by kernel_rfl)
  have hMp:=T.mp.chg c12 (by simp [Ne.symm hne])
  have hbx:=T.bx.chg c12 (by simp [Ne.symm hgN])
  have fR:=fR.chg c12 (Ok.one (.inl hgM)) (Ok.refl _ _)
  have hC:=T.ch.trans c12 (Ok.one (.inl (by simp)))
  have ha:=ha.sel (env':=[(0,.pointer (some ⟨g,0,none⟩)),(3,.pointer (some ⟨gN,0,none⟩)),(4,.int .i64 128)]) (by kernel_rfl)
  refine hK3 _ _ ?_;clear hK3 K3
  have Hft:attr_fits.f x.Flags 128=some true:=by rw [hfl];rfl
  refine wp_seq_k fun K3 hK3=>?_
  refine wsr fun K2 hK2=>?_
  refine sf ha 1 [(65,pt gN 0),(0,pt g 0),(4,.int .i64 128)] fun a ha=>?_
  refine ld (v:=.int .i64 x.Flags) ha rfl (by kernel_rfl) rfl rfl rfl (hbx.cell' (o:=0) rfl (by kernel_rfl)) fun a ha=>?_
  refine sf ha 1 [(66,.int .i64 x.Flags),(67,.int .i64 128)] fun a ha=>?_
  refine cL ha (attr_fits.walk w12 [] (MS.nil _) x.Flags 128 _ Hft) ?_
  rintro _ w13 ⟨rfl,c13,_⟩ a ha
  refine sf ha 1 [(69,.bool false)] fun a ha=>?_
  refine hK2 _ _ ?_;clear hK2 K2
  refine cnd ha rfl (fun h=>nomatch h) (fun _=>?_)
  refine wp_skip ?_
  refine hK3 _ _ ?_;clear hK3 K3
  refine wp_ret ?_
  simp only [Exit.then,Exit.inBlock,topQ]
  exact rtr ha (results_none rfl _ _ _) ⟨rfl,aoR,capR,hBg.chg c13 (fun h=>nomatch h),hMp.chg c13 (fun h=>nomatch h),fR.chg c13 (Ok.nil _ _) (Ok.refl _ _),hC.trans c13 (Ok.nil _ _)⟩
def attr_Read.f (k:Nat) (l:List S_api_Raw):Option (S_api_Attrs×List S_api_Raw×Int) :=
  match l with
  | [x]=>if x.Kind=15∧x.Flags=128 then (attr_copied.f x).bind fun y=>some (av3 0 (-1) (-1),[y],0) else none
  | _=>none
theorem attr_Read.walk (w:World) (M:List Nat) (hM:MS M w) (l:List S_api_Raw) (ao:Option Addr) (cap:Nat) (f1:RSl rS_api_Raw 65 w M ao cap l) (k:Nat) (r:S_api_Attrs×List S_api_Raw×Int) (H:attr_Read.f k l=some r) :
    To Tryz.prog 52 [.slice ao l.length cap] w fun v w'=>∃ (ao1:Option Addr) (cap1:Nat) (ao2:Option Addr) (cap2:Nat) (ao3:Option Addr) (cap3:Nat) (ao4:Option Addr) (cap4:Nat) (ao5:Option Addr) (cap5:Nat),v=.tuple #[.agg (cS_api_Attrs r.1 ao1 cap1 ao2 cap2 ao3 cap3 ao4 cap4).toArray,.slice ao5 r.2.1.length cap5,.int .i64 r.2.2]∧(RSl rS_api_Segment 101 w' M ao1 cap1 r.1.Path)∧(RSl rS_api_Addr 25 w' M ao2 cap2 r.1.Clusters)∧(RSl (rArr .u8 8) 124 w' M ao3 cap3 r.1.Exts)∧(RSl rS_api_Tunnel 96 w' M ao4 cap4 r.1.Tunnels)∧(RSl rS_api_Raw 65 w' M ao5 cap5 r.2.1)∧Chg [] w w'∧MS M w':=by
  obtain ⟨x,rfl⟩:∃ x,l=[x]:=by
    cases l with
    | nil=>cases H
    | cons x l=>cases l with
      | nil=>exact ⟨x,rfl⟩
      | cons y l=>cases H
  simp only [attr_Read.f] at H
  obtain ⟨⟨hk,hfl⟩,H⟩:=ite_some H
  obtain ⟨y,Hy,H⟩:=bind_some H
  have H:=oj H
  refine ent Tryz.func52 rfl [(0,.slice ao [x].length cap)] rfl (by rfl) fun a ha=>?_
  refine wp_seq_k fun K hK=>?_
  refine wp_region_lit ?_
  refine al (cs:=cAt 0 0 0) (z:=.agg (cAt 0 0 0).toArray) ha (fun w=>by kernel_rfl) rfl rfl rfl rfl fun a w1 gR hR ha=>?_
  refine sf ha 2 [(0,.slice ao [x].length cap),(2,pt gR 0)] fun a ha=>?_
  refine hK _ _ ?_;clear hK K
  refine wp_seq_k fun K hK=>?_
  refine wp_region_lit ?_
  refine cL ha (rd_none w1) ?_
  rintro _ w2 ⟨rfl,c2⟩ a ha
  refine mmk ha rfl rfl rfl fun a w3 gm hm ha=>?_
  refine oP (.agg (cAt 0 (-1) (-1)++tRd none 0 0 gm).toArray) ha fun a ha=>?_
  refine bx (cs:=cAt 0 (-1) (-1)++tRd none 0 0 gm) ha rfl rfl rfl rfl rfl fun a w4 g hg ha=>?_
  refine sf ha 1 [(0,.slice ao [x].length cap),(2,pt gR 0),(5,pt g 0)] fun a ha=>?_
  refine hK _ _ ?_;clear hK K
  have z1:=hR.ge
  have z2:=c2.size
  have z3:=hm.ge
  have z4:=hg.ge
  have y1:=hR.size
  have y3:=hm.size
  have y4:=hg.size
  have hRg:gR≠g:=by omega
  have hRm:gR≠gm:=by omega
  have hgm:g≠gm:=by omega
  have hC:Chg [] w w4:=((hR.chg.trans c2 (Ok.nil _ _)).trans hm.chg (Ok.nil _ _)).trans hg.chg (Ok.nil _ _)
  have hB:Box w4 gR (cAt 0 0 0):=((hR.box.chg c2 (fun h=>nomatch h)).chg hm.chg (fun h=>nomatch h)).chg hg.chg (fun h=>nomatch h)
  have hMp:MapR (kI .i64) kB w4 gm ([]:List (Int×Bool)):=hm.mapR.chg hg.chg (fun h=>nomatch h)
  have hM4:MS ([gR,g,gm]++M) w4:=MS.app (fun y hy=>by simp at hy;omega) (hM.chg hC)
  have f1:RSl rS_api_Raw 65 w4 ([gR,g,gm]++M) ao cap [x]:=f1.chg hC (Ok.nil _ _) (Ok.app (fun y hy=>.inr (by simp at hy;omega)) (Ok.refl _ _))
  have hRM:gR∉M:=fun e=>by have:=hM gR e;omega
  refine wp_seq_k fun K hK=>?_
  refine wsr fun K2 hK2=>?_
  refine sf ha 3 [(2,pt gR 0),(5,pt g 0),(12,.slice ao [x].length cap),(13,.int .i64 1),(14,.int .i64 0)] fun a ha=>?_
  refine hK2 _ _ ?_;clear hK2 K2
  refine wp_block ?_
  have J:∀ (a:Act) (w5:World) (a1:Option Addr) (c1:Nat),Has a Tryz.f52.ntmps [(2,pt gR 0),(5,pt g 0)]→Box w5 g (cAt 0 (-1) (-1)++tRd a1 1 c1 gm)→MapR (kI .i64) kB w5 gm [(15,true)]→RSl rS_api_Raw 65 w5 ([gR,g,gm]++M) a1 c1 [y]→Box w5 gR (cAt 0 0 0)→Chg [] w w5→MS M w5→K a w5:=by
    clear hMp hB hC f1 ha hM4
    intro a w5 a1 c1 ha hBg hMp fR hB hC hM
    refine hK _ _ ?_;clear hK K
    refine wp_seq_k fun K hK=>?_
    refine wsr fun K2 hK2=>?_
    refine sf ha 3 [(2,pt gR 0),(5,pt g 0),(24,pt g 26)] fun a ha=>?_
    refine ld (v:=.map (some gm)) ha rfl (by kernel_rfl) rfl rfl rfl (hBg.cell' (o:=26) rfl (by kernel_rfl)) fun a ha=>?_
    refine hop (v:=.bool false) (w':=w5) ha rfl rfl rfl (mlk1_run (vv:=kB) (k:=(14:Int)) (z:=false) (l:=[(15,true)]) ha u104 K3i rfl rfl (fun w=>by kernel_rfl) hMp) fun a ha=>?_
    refine sgf ha 15 [0,1,1,1,1,1,1,1,1,1,1,1,1,1,4] [(41,.bool false),(2,pt gR 0),(5,pt g 0)] fun a ha=>?_
    refine hK2 _ _ ?_;clear hK2 K2
    refine cnd ha rfl (fun h=>nomatch h) (fun _=>?_)
    refine wp_skip ?_
    refine hK _ _ ?_;clear hK K
    refine wp_seq_k fun K hK=>?_
    refine drw (fun w'=>Chg [gR] w5 w') (by kernel_rfl) fun w6 hs6 _=>?_
    have hS:Chg [gR] w5 w6:=hs6.mono (Ok.nil _ _)
    refine tp 0 0 (pt g 0) ha hS fun a ha=>?_
    refine tp 1 0 (pt g 0) ha hS fun a ha=>?_
    refine tp 2 0 (pt g 0) ha hS fun a ha=>?_
    refine tz 3 (v:=.agg (cAt 0 (-1) (-1)).toArray) ha rfl (fun w' hs=>ldA_run (cs:=cAt 0 (-1) (-1)) ha rfl (by kernel_rfl) (cells_sub (Box.cells (hBg.chg hs (by simp [Ne.symm hRg]))) (all:=cAt 0 (-1) (-1)++tRd a1 1 c1 gm) [] (tRd a1 1 c1 gm) (by kernel_rfl))) hS fun a ha=>?_
    refine tp 4 0 (pt g 0) ha hS fun a ha=>?_
    refine tp 5 0 (pt g 0) ha hS fun a ha=>?_
    refine tp 6 0 (pt g 24) ha hS fun a ha=>?_
    refine tz 7 (v:=.slice a1 1 c1) ha rfl (fun w' hs=>ld_run ha rfl (by kernel_rfl) ((hBg.chg hs (by simp [Ne.symm hRg])).cell' (o:=24) rfl (by kernel_rfl))) hS fun a ha=>?_
    refine tp 8 0 (pt g 0) ha hS fun a ha=>?_
    refine tp 9 0 (pt g 0) ha hS fun a ha=>?_
    refine tp 10 0 (pt g 25) ha hS fun a ha=>?_
    refine tz 11 (v:=.int .i64 0) ha rfl (fun w' hs=>ld_run ha rfl (by kernel_rfl) ((hBg.chg hs (by simp [Ne.symm hRg])).cell' (o:=25) rfl (by kernel_rfl))) hS fun a ha=>?_
    have ha:=ha.sel (env':=[(2,.pointer (some ⟨gR,0,none⟩)),(47,.agg (cAt 0 (-1) (-1)).toArray),(51,.slice a1 1 c1),(55,.int .i64 0)]) (by kernel_rfl)
    have hB:=hB.chg hs6 (fun h=>nomatch h)
    refine ac 12 (by kernel_rfl) rfl fun K2 hK2=>?_
    refine stA (l:=cAt 0 (-1) (-1)) ha rfl rfl rfl (by kernel_rfl) rfl rfl hB rfl fun a w7 ha hb2 hc7 _=>?_
    have hB:Box w7 gR (cAt 0 (-1) (-1)):=hb2.cast (by kernel_rfl)
    have hS:=hS.trans hc7 (Ok.one (.inl (by simp)))
    refine ae hK2 hS ?_
    clear hK2 K2
    refine tp 13 0 (.slice a1 1 c1) ha hS fun a ha=>?_
    refine tp 14 0 (.int .i64 0) ha hS fun a ha=>?_
    refine dn (by kernel_rfl) ?_
    have ha:=ha.sel (env':=[(2,.pointer (some ⟨gR,0,none⟩)),(3,.slice a1 1 c1),(4,.int .i64 0)]) (by kernel_rfl)
    refine hK _ _ ?_;clear hK K
    refine wp_ret ?_
    subst H
    refine rtr ha (res3 rfl (roA ha rfl hB (by kernel_rfl)) (roT ha rfl) (roT ha rfl)) ?_
    have hw:Ok M ([gR,g,gm]++M) w5.heap.size:=fun _ h=>.inl (mr h)
    have hq:Chg [gR] w5 w7:=(hs6.mono (Ok.nil _ _)).trans hc7 (Ok.one (.inl (by simp)))
    exact ⟨none,0,none,0,none,0,none,0,a1,c1,rfl,RSl.nil (Nat.zero_le _),RSl.nil (Nat.zero_le _),RSl.nil (Nat.zero_le _),RSl.nil (Nat.zero_le _),fR.chg hq (Ok.one (.inl (by simp))) hw,(hC.trans hs6 (Ok.nil _ _)).trans hc7 (Ok.one (.inr hR.ge)),(hM.chg hs6).chg hc7⟩
  refine wp_loop_ghost (fun kk a w5=>(kk=1∧w5=w4∧Has a Tryz.f52.ntmps [(2,pt gR 0),(5,pt g 0),(12,.slice ao [x].length cap),(13,.int .i64 1),(14,.int .i64 0)])∨(kk=0∧Has a Tryz.f52.ntmps [(2,.pointer (some ⟨gR,0,none⟩)),(5,.pointer (some ⟨g,0,none⟩)),(12,.slice ao [x].length cap),(13,.int .i64 (1:Int)),(14,.int .i64 (1:Int))]∧∃ (a1:Option Addr) (c1:Nat),Box w5 g (cAt 0 (-1) (-1)++tRd a1 1 c1 gm)∧MapR (kI .i64) kB w5 gm [(15,true)]∧RSl rS_api_Raw 65 w5 ([gR,g,gm]++M) a1 c1 [y]∧Box w5 gR (cAt 0 0 0)∧Chg [] w w5∧MS M w5)) 1 ?_ ?_
  · exact .inl ⟨rfl,rfl,ha.sel (by kernel_rfl)⟩
  · rintro kk a w5 (⟨rfl,rfl,ha⟩ | ⟨rfl,ha,a1,c1,hBg,hMp,fR,hB,hC,hM⟩)
    rotate_left
    · refine wsr fun K2 hK2=>?_
      refine sf ha 1 [(15,.bool false),(2,pt gR 0),(5,pt g 0)] fun a ha=>?_
      refine hK2 _ _ ?_
      refine wp_seq_k fun K2 hK2=>?_
      refine cnd ha rfl (fun h=>nomatch h) (fun _=>?_)
      refine wx ?_
      exact J _ _ a1 c1 (ha.sel (by kernel_rfl)) hBg hMp fR hB hC hM
    clear J
    refine wsr fun K2 hK2=>?_
    refine sf ha 1 [(15,.bool true),(2,pt gR 0),(5,pt g 0),(12,.slice ao [x].length cap),(13,.int .i64 1),(14,.int .i64 0)] fun a ha=>?_
    refine hK2 _ _ ?_;clear hK2 K2
    refine wp_seq_k fun K2 hK2=>?_
    refine cnd ha rfl (fun _=>?_) (fun h=>nomatch h)
    refine wp_skip ?_
    refine hK2 _ _ ?_;clear hK2 K2
    refine wp_seq_k fun K2 hK2=>?_
    refine wp_block ?_
    refine wsr fun K3 hK3=>?_
    refine ix (r:=rS_api_Raw) (xs:=[x]) (i:=(0:Int)) ha (by kernel_rfl) (by kernel_rfl) rfl rfl rfl rfl rfl f1 (by decide) (by simp) fun a ge oe cs hn hR' hE ha=>?_
    obtain ⟨ao3,cap3,rfl,f3⟩:=rS_api_Raw.open (x:=x) hR'
    refine ldA (cs:=cS_api_Raw x ao3 cap3) ha rfl (by kernel_rfl) rfl rfl rfl (cells_sub hE (all:=cS_api_Raw x ao3 cap3) [] [] (by kernel_rfl)) fun a ha=>?_
    refine al (cs:=cS_api_Raw (⟨(0:Int),(0:Int),([]:List Int)⟩:S_api_Raw) none 0) (z:=.agg (cS_api_Raw (⟨(0:Int),(0:Int),([]:List Int)⟩:S_api_Raw) none 0).toArray) ha (fun w=>by kernel_rfl) rfl rfl rfl rfl fun a w6 g7 hN ha=>?_
    refine stA (l:=cS_api_Raw x ao3 cap3) ha rfl rfl rfl (by kernel_rfl) rfl rfl hN.box rfl fun a w7 ha hb2 hc7 _=>?_
    have hB7:Box w7 g7 (cS_api_Raw x ao3 cap3):=hb2.cast (by kernel_rfl)
    have n7:=hN.ge
    have q1:Chg [] w5 w7:=hN.chg.trans hc7 (Ok.one (.inr hN.ge))
    have hBg:Box w7 g (cAt 0 (-1) (-1)++tRd none 0 0 gm):=hg.box.chg q1 (fun h=>nomatch h)
    have hMp:=hMp.chg q1 (fun h=>nomatch h)
    have hB:=hB.chg q1 (fun h=>nomatch h)
    have f3:=f3.chg q1 (Ok.nil _ _) (Ok.refl _ _)
    have hM7:=hM4.chg q1
    refine wpl_end ?_
    have ha:=ha.sel (env':=[(2,.pointer (some ⟨gR,0,none⟩)),(5,.pointer (some ⟨g,0,none⟩)),(7,.pointer (some ⟨g7,0,none⟩)),(12,.slice ao [x].length cap),(13,.int .i64 (1:Int)),(14,.int .i64 (0:Int))]) (by kernel_rfl)
    refine hK3 _ _ ?_;clear hK3 K3
    refine wp_region_lit ?_
    refine sf ha 1 [(2,pt gR 0),(5,pt g 0),(7,pt g7 0),(12,.slice ao [x].length cap),(13,.int .i64 1),(14,.int .i64 0),(18,pt g 0)] fun a ha=>?_
    refine ldE (Box.cells hB7) ha fun a ha=>?_
    refine cL ha (take1_walk w7 _ hM7 g gm hgm hBg hMp (by simp) (by simp) x ao3 cap3 f3 hk hfl y Hy) ?_
    rintro _ w8 ⟨rfl,a1,c1,hBg,hMp,fR,c8⟩ a ha
    have q8:Chg [] w w8:=(hC.trans q1 (Ok.nil _ _)).trans c8 (fun y hy=>.inr (by simp at hy;omega))
    have hB:=hB.chg c8 (by simp [hRg,hRm])
    have hM8:=hM7.chg c8
    refine wpl_end ?_
    have ha:=ha.sel (env':=[(2,.pointer (some ⟨gR,0,none⟩)),(5,.pointer (some ⟨g,0,none⟩)),(12,.slice ao [x].length cap),(13,.int .i64 (1:Int)),(14,.int .i64 (0:Int))]) (by kernel_rfl)
    refine hK2 _ _ ?_;clear hK2 K2
    refine wp_region_lit ?_
    refine sf ha 2 [(2,pt gR 0),(5,pt g 0),(12,.slice ao [x].length cap),(13,.int .i64 1),(14,.int .i64 1)] fun a ha=>?_
    exact ⟨0,by omega,.inr ⟨rfl,ha,a1,c1,hBg,hMp,fR,hB,q8,fun y hy=>hM8 y (mr hy)⟩⟩

def mroute_ReadRow.l0:Nat→(List Int)→(List S_api_Mroute)→Option (List S_api_Mroute)
  | 0,_,_=>none
  | kk+1,x13,x14=>(if (decide ((x13.length:Int) > (0:Int)))=true then none else some (x14:List S_api_Mroute))
def mroute_ReadRow.f (k:Nat) (a0:List Int) (a1:Int):Option (List S_api_Mroute×Int):=(if (if (a1 != (4:Int))=true then (a1 != (16:Int)) else false)=true then some ((([]:List S_api_Mroute):List S_api_Mroute),((1:Int):Int)) else (mroute_ReadRow.l0 k a0 ([]:List S_api_Mroute)).bind fun s10=>some ((s10:List S_api_Mroute),((0:Int):Int)))
set_option maxRecDepth 100000 in
theorem mroute_ReadRow.walk (w:World) (M:List Nat) (hM:MS M w) (a0:List Int) (ao1:Option Addr) (cap1:Nat) (f1:RSl (rInt .u8) 5 w M ao1 cap1 a0) (a1:Int) (k:Nat) (r:List S_api_Mroute×Int) (H:mroute_ReadRow.f k a0 a1=some r) :
    To Tryz.prog 125 [.slice ao1 a0.length cap1,.int .i64 a1] w fun v w'=>∃ (ao21:Option Addr) (cap21:Nat),v=.tuple #[.slice ao21 r.1.length cap21,.int .i64 r.2]∧(Own rS_api_Mroute 105 w' (blkL ao21++(M)) ao21 cap21 r.1)∧(∀ x∈blkL ao21,w.heap.size≤x)∧Chg [] w w'∧MS (blkL ao21++(M)) w':=by
 unfold mroute_ReadRow.f at H;refine ent Tryz.func125 rfl [(0,.slice ao1 a0.length cap1),(1,.int .i64 a1)] rfl (by rfl) fun a ha=>?_;have hC:Chg [] w w:=Chg.refl _ _;refine sqd ha 2 [] [] fun a ha=>?_;refine wp_seq_k fun K3 hK3=>?_;refine sqd ha 6 [] [(15,.bool (if (a1 != (4:Int))=true then (a1 != (16:Int)) else false))] fun a ha=>?_;refine cnH H ha (fun hc5 H=>?_) (fun hc5 H=>?_)
 ·refine sq ha 2 [(4,.slice none 0 0),(5,.int .i64 1)] fun a ha=>?_;refine wrt ?_;have e_z7:∀ x∈blkL none,w.heap.size≤x:=fun x hx=>Nat.le_trans hC.size ((fun _ h=>nomatch h) x hx);have hM:MS (blkL none++(M)) w:=(MS.app (fun _ h=>nomatch h) (hM.chg (Chg.refl [] _)))
  obtain rfl:=oj H;refine rt2 ha rfl rfl rfl ?_;exact ⟨none,0,rfl,Own.nil,e_z7,hC,hM⟩
 ·refine wp_skip ?_;refine hK3 _ _ ?_;refine sqd ha 1 [15] [(6,.slice none 0 0)] fun a ha=>?_;refine wp_seq_k fun K9 hK9=>?_;refine wp_block ?_;obtain ⟨s10,H10,H⟩:=bind_some H;have J10:∀ (a:Act) (wx10:World) (ao15:Option Addr) (cap15:Nat),Has a Tryz.f125.ntmps [(6,.slice ao15 s10.length cap15)]→(Own rS_api_Mroute 105 wx10 (blkL ao15++(M)) ao15 cap15 s10)→(∀ x∈blkL ao15,w.heap.size≤x)→(∀ x∈blkL ao15,x∉M)→(Chg [] w wx10)→(MS (blkL ao15++(M)) wx10)→K9 a wx10:=by
   intro a wx10 ao15 cap15 ha f15 e_i15 p_i15_M hC hM;refine hK9 _ _ ?_;refine sq ha 3 [(4,.slice ao15 s10.length cap15),(5,.int .i64 0)] fun a ha=>?_;refine wrt ?_;obtain rfl:=oj H;refine rt2 ha rfl rfl rfl ?_;exact ⟨ao15,cap15,rfl,f15,e_i15,hC,hM⟩
  have Hc10:=H;have H:=H10;refine wp_loop_ghost (fun kk a w10=>∃ (x13:List Int) (x14:List S_api_Mroute) (ao11:Option Addr) (cap11:Nat) (ao12:Option Addr) (cap12:Nat),mroute_ReadRow.l0 kk x13 x14=some s10∧Has a Tryz.f125.ntmps [(0,.slice ao11 x13.length cap11),(1,.int .i64 a1),(6,.slice ao12 x14.length cap12)]∧(RSl (rInt .u8) 5 w10 (blkL ao12++(M)) ao11 cap11 x13)∧(Own rS_api_Mroute 105 w10 (blkL ao12++(M)) ao12 cap12 x14)∧(∀ x∈blkL ao12,w.heap.size≤x)∧(∀ x∈blkL ao12,x∉M)∧(Chg [] w w10)∧(MS (blkL ao12++(M)) w10)) k ?_ ?_
  ·skip;have o1:=oN M w;have o2:Ok (blkL none++(M)) (M) w.heap.size:=(Ok.app (fun _ h=>nomatch h) (Ok.refl _ _))
   have f1:=f1.chg (Chg.refl [] _) o1 o2;have p_z17_M:∀ x∈blkL none,x∉M:=fun x hx hy=>absurd (hM x (hy)) (Nat.not_lt.2 ((fun _ h=>nomatch h) x hx));have e_z17:∀ x∈blkL none,w.heap.size≤x:=fun x hx=>Nat.le_trans hC.size ((fun _ h=>nomatch h) x hx);have hM:MS (blkL none++(M)) w:=(MS.app (fun _ h=>nomatch h) (hM.chg (Chg.refl [] _)))
   exact ⟨a0,([]:List S_api_Mroute),ao1,cap1,none,0,H,(ha.sel (by kernel_rfl)),f1,Own.nil,e_z17,p_z17_M,hC,hM⟩
  ·rintro kk a w10 ⟨x13,x14,ao11,cap11,ao12,cap12,H,ha,f11,f12,e_i12,p_i12_M,hC,hM⟩;obtain _ | kk:=kk
   ·exact nomatch (show none=some _ from H)
   rw [mroute_ReadRow.l0] at H;refine wp_seq_k fun K18 hK18=>?_;refine sqd ha 3 [] [(18,.bool (decide ((x13.length:Int) > (0:Int))))] fun a ha=>?_;refine cnH H ha (fun hc20 H=>?_) (fun hc20 H=>?_)
   ·exact nomatch (show none=some _ from H)
   ·refine wx ?_;obtain rfl:=oj H;exact J10 _ _ ao12 cap12 (ha.sel (by kernel_rfl)) f12 e_i12 p_i12_M hC hM
def uroute_ReadRow.l0:Nat→(List Int)→(List S_api_Uroute)→Option (List S_api_Uroute)
  | 0,_,_=>none
  | kk+1,x13,x14=>(if (decide ((x13.length:Int) > (0:Int)))=true then none else some (x14:List S_api_Uroute))
def uroute_ReadRow.f (k:Nat) (a0:List Int) (a1:Int):Option (List S_api_Uroute×Int):=(if (if (a1 != (4:Int))=true then (a1 != (16:Int)) else false)=true then some ((([]:List S_api_Uroute):List S_api_Uroute),((1:Int):Int)) else (uroute_ReadRow.l0 k a0 ([]:List S_api_Uroute)).bind fun s10=>some ((s10:List S_api_Uroute),((0:Int):Int)))
set_option maxRecDepth 100000 in
theorem uroute_ReadRow.walk (w:World) (M:List Nat) (hM:MS M w) (a0:List Int) (ao1:Option Addr) (cap1:Nat) (f1:RSl (rInt .u8) 5 w M ao1 cap1 a0) (a1:Int) (k:Nat) (r:List S_api_Uroute×Int) (H:uroute_ReadRow.f k a0 a1=some r) :
    To Tryz.prog 126 [.slice ao1 a0.length cap1,.int .i64 a1] w fun v w'=>∃ (ao21:Option Addr) (cap21:Nat),v=.tuple #[.slice ao21 r.1.length cap21,.int .i64 r.2]∧(Own rS_api_Uroute 135 w' (blkL ao21++(M)) ao21 cap21 r.1)∧(∀ x∈blkL ao21,w.heap.size≤x)∧Chg [] w w'∧MS (blkL ao21++(M)) w':=by
 unfold uroute_ReadRow.f at H;refine ent Tryz.func126 rfl [(0,.slice ao1 a0.length cap1),(1,.int .i64 a1)] rfl (by rfl) fun a ha=>?_;have hC:Chg [] w w:=Chg.refl _ _;refine sqd ha 2 [] [] fun a ha=>?_;refine wp_seq_k fun K3 hK3=>?_;refine sqd ha 6 [] [(15,.bool (if (a1 != (4:Int))=true then (a1 != (16:Int)) else false))] fun a ha=>?_;refine cnH H ha (fun hc5 H=>?_) (fun hc5 H=>?_)
 ·refine sq ha 2 [(4,.slice none 0 0),(5,.int .i64 1)] fun a ha=>?_;refine wrt ?_;have e_z7:∀ x∈blkL none,w.heap.size≤x:=fun x hx=>Nat.le_trans hC.size ((fun _ h=>nomatch h) x hx);have hM:MS (blkL none++(M)) w:=(MS.app (fun _ h=>nomatch h) (hM.chg (Chg.refl [] _)))
  obtain rfl:=oj H;refine rt2 ha rfl rfl rfl ?_;exact ⟨none,0,rfl,Own.nil,e_z7,hC,hM⟩
 ·refine wp_skip ?_;refine hK3 _ _ ?_;refine sqd ha 1 [15] [(6,.slice none 0 0)] fun a ha=>?_;refine wp_seq_k fun K9 hK9=>?_;refine wp_block ?_;obtain ⟨s10,H10,H⟩:=bind_some H;have J10:∀ (a:Act) (wx10:World) (ao15:Option Addr) (cap15:Nat),Has a Tryz.f126.ntmps [(6,.slice ao15 s10.length cap15)]→(Own rS_api_Uroute 135 wx10 (blkL ao15++(M)) ao15 cap15 s10)→(∀ x∈blkL ao15,w.heap.size≤x)→(∀ x∈blkL ao15,x∉M)→(Chg [] w wx10)→(MS (blkL ao15++(M)) wx10)→K9 a wx10:=by
   intro a wx10 ao15 cap15 ha f15 e_i15 p_i15_M hC hM;refine hK9 _ _ ?_;refine sq ha 3 [(4,.slice ao15 s10.length cap15),(5,.int .i64 0)] fun a ha=>?_;refine wrt ?_;obtain rfl:=oj H;refine rt2 ha rfl rfl rfl ?_;exact ⟨ao15,cap15,rfl,f15,e_i15,hC,hM⟩
  have Hc10:=H;have H:=H10;refine wp_loop_ghost (fun kk a w10=>∃ (x13:List Int) (x14:List S_api_Uroute) (ao11:Option Addr) (cap11:Nat) (ao12:Option Addr) (cap12:Nat),uroute_ReadRow.l0 kk x13 x14=some s10∧Has a Tryz.f126.ntmps [(0,.slice ao11 x13.length cap11),(1,.int .i64 a1),(6,.slice ao12 x14.length cap12)]∧(RSl (rInt .u8) 5 w10 (blkL ao12++(M)) ao11 cap11 x13)∧(Own rS_api_Uroute 135 w10 (blkL ao12++(M)) ao12 cap12 x14)∧(∀ x∈blkL ao12,w.heap.size≤x)∧(∀ x∈blkL ao12,x∉M)∧(Chg [] w w10)∧(MS (blkL ao12++(M)) w10)) k ?_ ?_
  ·skip;have o1:=oN M w;have o2:Ok (blkL none++(M)) (M) w.heap.size:=(Ok.app (fun _ h=>nomatch h) (Ok.refl _ _))
   have f1:=f1.chg (Chg.refl [] _) o1 o2;have p_z17_M:∀ x∈blkL none,x∉M:=fun x hx hy=>absurd (hM x (hy)) (Nat.not_lt.2 ((fun _ h=>nomatch h) x hx));have e_z17:∀ x∈blkL none,w.heap.size≤x:=fun x hx=>Nat.le_trans hC.size ((fun _ h=>nomatch h) x hx);have hM:MS (blkL none++(M)) w:=(MS.app (fun _ h=>nomatch h) (hM.chg (Chg.refl [] _)))
   exact ⟨a0,([]:List S_api_Uroute),ao1,cap1,none,0,H,(ha.sel (by kernel_rfl)),f1,Own.nil,e_z17,p_z17_M,hC,hM⟩
  ·rintro kk a w10 ⟨x13,x14,ao11,cap11,ao12,cap12,H,ha,f11,f12,e_i12,p_i12_M,hC,hM⟩;obtain _ | kk:=kk
   ·exact nomatch (show none=some _ from H)
   rw [uroute_ReadRow.l0] at H;refine wp_seq_k fun K18 hK18=>?_;refine sqd ha 3 [] [(18,.bool (decide ((x13.length:Int) > (0:Int))))] fun a ha=>?_;refine cnH H ha (fun hc20 H=>?_) (fun hc20 H=>?_)
   ·exact nomatch (show none=some _ from H)
   ·refine wx ?_;obtain rfl:=oj H;exact J10 _ _ ao12 cap12 (ha.sel (by kernel_rfl)) f12 e_i12 p_i12_M hC hM
def tZ (sz sfi:Int) (m:List S_api_Mroute) (u:List S_api_Uroute):S_api_Table:=⟨sz,sfi,⟨0,List.replicate 16 0⟩,m,u⟩
def cTR (gr:Nat) (t:S_api_Table) (a1:Option Addr) (c1:Nat) (a2:Option Addr) (c2:Nat):List Value:=([.pointer (some ⟨gr,0,none⟩)]:List Value)++cS_api_Table t a1 c1 a2 c2
def known.f (k:Nat) (rd:S_cursor_Reader):Option (Bool×S_cursor_Reader×Int×Int) :=
  (cursor_Reader_Num.f k rd 2).bind fun t=>(cursor_Reader_Num.f k t.2 1).bind fun q =>
  some ((decide ((0:Int) < (if t.1=1 then 4 else if t.1=2 then 16 else 0)) && (q.1==5 || q.1==128)),q.2,(if t.1=1 then 4 else if t.1=2 then 16 else 0),q.1)
theorem known_walk (w:World) (M:List Nat) (hM:MS M w) (gt gr:Nat) (hne:gt≠gr) (hgt:gt∈M) (hgr:gr∈M) (rd:S_cursor_Reader) (ao1:Option Addr) (cap1:Nat) (f1:RSl (rInt .u8) 5 w M ao1 cap1 rd.rest.left) (hR:Box w gr (cS_cursor_Reader rd ao1 cap1)) (hT:Box w gt (cTR gr (tZ 0 0 [] []) none 0 none 0)) (k:Nat) (r:Bool×S_cursor_Reader×Int×Int) (H:known.f k rd=some r) :
    To Tryz.prog 103 [.pointer (some ⟨gt,0,none⟩)] w fun v w'=>v=.bool r.1∧∃ (ao2:Option Addr) (cap2:Nat),RSl (rInt .u8) 5 w' M ao2 cap2 r.2.1.rest.left∧Box w' gr (cS_cursor_Reader r.2.1 ao2 cap2)∧Box w' gt (cTR gr (tZ r.2.2.1 r.2.2.2 [] []) none 0 none 0)∧Chg [gt,gr] w w'∧MS M w':=by
  unfold known.f at H
  obtain ⟨t,Ht,H⟩:=bind_some H
  obtain ⟨q,Hq,H⟩:=bind_some H
  have H:=oj H
  refine ent Tryz.func103 rfl [(0,.pointer (some ⟨gt,0,none⟩))] rfl (by rfl) fun a ha=>?_
  refine wp_seq_k fun K hK=>?_
  refine wp_region_lit ?_
  refine sf ha 1 [(0,pt gt 0)] fun a ha=>?_
  refine hK _ _ ?_;clear hK K
  refine wp_seq_k fun K hK=>?_
  refine wp_region_lit ?_
  refine sf ha 3 [(0,pt gt 0),(6,pt gt 0)] fun a ha=>?_
  refine ld (v:=.pointer (some ⟨gr,0,none⟩)) ha rfl (by kernel_rfl) rfl rfl rfl (hT.cell' (o:=0) rfl (by kernel_rfl)) fun a ha=>?_
  refine cL ha (cursor_Reader_Num.walk w M hM gr rd ao1 cap1 f1 hR hgr 2 k t Ht) ?_
  rintro _ w1 ⟨ao2,cap2,rfl,f2,hR,c1,hM⟩ a ha
  have hT:=hT.chg c1 (by simp [hne])
  refine sf ha 1 [(0,pt gt 0),(3,.int .i64 t.1)] fun a ha=>?_
  refine hK _ _ ?_;clear hK K
  refine wp_seq_k fun K hK=>?_
  refine wp_region_lit ?_
  refine sf ha 4 [(0,pt gt 0),(3,.int .i64 t.1),(9,pt gt 0),(12,pt gt 0)] fun a ha=>?_
  refine ld (v:=.pointer (some ⟨gr,0,none⟩)) ha rfl (by kernel_rfl) rfl rfl rfl (hT.cell' (o:=0) rfl (by kernel_rfl)) fun a ha=>?_
  refine cL ha (cursor_Reader_Num.walk w1 M hM gr t.2 ao2 cap2 f2 hR hgr 1 k q Hq) ?_
  rintro _ w2 ⟨ao3,cap3,rfl,f3,hR,c2,hM⟩ a ha
  have hT:=hT.chg c2 (by simp [hne])
  refine sf ha 3 [(0,pt gt 0),(3,.int .i64 t.1),(14,.int .i64 q.1),(17,pt gt 2)] fun a ha=>?_
  refine st ha rfl rfl rfl (by kernel_rfl) rfl rfl hT (Nat.le_of_ble_eq_true (by kernel_rfl)) fun a w3 ha hb2 c3 _=>?_
  have hT:Box w3 gt (cTR gr (tZ 0 q.1 [] []) none 0 none 0):=hb2.cast (by kernel_rfl)
  have hR:=hR.chg c3 (by simp [Ne.symm hne])
  have f3:=f3.chg c3 (Ok.one (.inl hgt)) (Ok.refl _ _)
  have hM:=hM.chg c3
  have hC:Chg [gt,gr] w w3:=((c1.mono (Ok.one (.inl (by simp)))).trans c2 (Ok.one (.inl (by simp)))).trans c3 (Ok.one (.inl (by simp)))
  refine wpl_end ?_
  have ha:=ha.sel (env':=[(0,.pointer (some ⟨gt,0,none⟩)),(3,.int .i64 t.1)]) (by kernel_rfl)
  refine hK _ _ ?_;clear hK K
  refine wp_seq_k fun K hK=>?_
  have J:∀ (sz:Int) (a:Act) (w4:World),sz=(if t.1=1 then 4 else if t.1=2 then 16 else 0)→Has a Tryz.f103.ntmps [(0,pt gt 0)]→Box w4 gt (cTR gr (tZ sz q.1 [] []) none 0 none 0)→Box w4 gr (cS_cursor_Reader q.2 ao3 cap3)→RSl (rInt .u8) 5 w4 M ao3 cap3 q.2.rest.left→MS M w4→Chg [gt,gr] w w4→K a w4:=by
    clear ha hT hR f3 hM hC
    intro sz a w4 hsz ha hT hR f3 hM hC
    rw [← hsz] at H
    refine hK _ _ ?_;clear hK K
    refine wp_seq_k fun K hK=>?_
    refine wp_region_lit ?_
    have E:∀ (b:Bool) (a:Act),b=(decide ((0:Int) < sz) && (q.1==5 || q.1==128))→Has a Tryz.f103.ntmps [(2,.bool b)]→K a w4:=by
      intro b a hb ha
      refine hK _ _ ?_;clear hK K
      refine wp_ret ?_
      refine rt1 ha rfl rfl ?_
      subst H hb
      exact ⟨rfl,ao3,cap3,f3,hR,hT,hC,hM⟩
    refine sf ha 4 [(0,pt gt 0),(34,pt gt 1)] fun a ha=>?_
    refine ld (v:=.int .i64 sz) ha rfl (by kernel_rfl) rfl rfl rfl (hT.cell' (o:=1) rfl (by kernel_rfl)) fun a ha=>?_
    refine sf ha 2 [(37,.bool (decide ((0:Int) < sz))),(0,pt gt 0)] fun a ha=>?_
    rcases Bool.eq_false_or_eq_true (decide ((0:Int) < sz)) with hb | hb
    · have ha:=ha.lit hb
      refine sgf ha 4 [2,2,2,2] [(37,.bool true),(41,pt gt 2),(0,pt gt 0)] fun a ha=>?_
      refine ld (v:=.int .i64 q.1) ha rfl (by kernel_rfl) rfl rfl rfl (hT.cell' (o:=2) rfl (by kernel_rfl)) fun a ha=>?_
      refine sgf ha 2 [2,2] [(44,.bool (q.1==(5:Int))),(37,.bool true),(0,pt gt 0)] fun a ha=>?_
      rcases Bool.eq_false_or_eq_true (q.1==(5:Int)) with hb5 | hb5
      · have ha:=ha.lit hb5
        refine sgf ha 9 [1,1,1,1,1,1,5,3,0] [(2,.bool true)] fun a ha=>?_
        exact E _ _ (by rw [hb,hb5];rfl) ha
      · have ha:=ha.lit hb5
        refine sgf ha 4 [2,2,2,2] [(44,.bool false),(37,.bool true),(48,pt gt 2)] fun a ha=>?_
        refine ld (v:=.int .i64 q.1) ha rfl (by kernel_rfl) rfl rfl rfl (hT.cell' (o:=2) rfl (by kernel_rfl)) fun a ha=>?_
        refine sgf ha 4 [2,6,3,0] [(2,.bool (q.1==(128:Int)))] fun a ha=>?_
        exact E _ _ (by rw [hb,hb5];rfl) ha
    · have ha:=ha.lit hb
      refine sgf ha 16 [1,1,1,1,1,1,1,1,1,1,1,1,1,1,4,0] [(2,.bool false)] fun a ha=>?_
      exact E _ _ (by rw [hb];rfl) ha
  refine wsr fun K2 hK2=>?_
  refine sf ha 1 [(0,pt gt 0),(18,.int .i64 t.1)] fun a ha=>?_
  refine hK2 _ _ ?_;clear hK2 K2
  refine wp_block ?_
  refine wsr fun K2 hK2=>?_
  refine sf ha 2 [(19,.bool (t.1==(1:Int))),(0,pt gt 0),(18,.int .i64 t.1)] fun a ha=>?_
  refine hK2 _ _ ?_;clear hK2 K2
  refine cnd ha rfl (fun h1=>?_) (fun h1=>?_)
  · have h1:=beq_iff_eq.1 h1
    refine wp_region_lit ?_
    refine sf ha 4 [(0,pt gt 0),(24,pt gt 1)] fun a ha=>?_
    refine st ha rfl rfl rfl (by kernel_rfl) rfl rfl hT (Nat.le_of_ble_eq_true (by kernel_rfl)) fun a w4 ha hb2 c4 _=>?_
    refine wpl_end ?_
    exact J 4 _ _ (by rw [if_pos h1]) (ha.sel (by kernel_rfl)) (hb2.cast (by kernel_rfl)) (hR.chg c4 (by simp [Ne.symm hne])) (f3.chg c4 (Ok.one (.inl hgt)) (Ok.refl _ _)) (hM.chg c4) (hC.trans c4 (Ok.one (.inl (by simp))))
  have h1:¬ t.1=1:=by simpa using h1
  refine wsr fun K2 hK2=>?_
  refine sf ha 2 [(25,.bool (t.1==(2:Int))),(0,pt gt 0)] fun a ha=>?_
  refine hK2 _ _ ?_;clear hK2 K2
  refine cnd ha rfl (fun h2=>?_) (fun h2=>?_)
  · have h2:=beq_iff_eq.1 h2
    refine wp_region_lit ?_
    refine sf ha 4 [(0,pt gt 0),(30,pt gt 1)] fun a ha=>?_
    refine st ha rfl rfl rfl (by kernel_rfl) rfl rfl hT (Nat.le_of_ble_eq_true (by kernel_rfl)) fun a w4 ha hb2 c4 _=>?_
    refine wpl_end ?_
    exact J 16 _ _ (by rw [if_neg h1,if_pos h2]) (ha.sel (by kernel_rfl)) (hb2.cast (by kernel_rfl)) (hR.chg c4 (by simp [Ne.symm hne])) (f3.chg c4 (Ok.one (.inl hgt)) (Ok.refl _ _)) (hM.chg c4) (hC.trans c4 (Ok.one (.inl (by simp))))
  · have h2:¬ t.1=2:=by simpa using h2
    refine wp_skip ?_
    exact J 0 _ _ (by rw [if_neg h1,if_neg h2]) (ha.sel (by kernel_rfl)) hT hR f3 hM hC
def readI.f (k:Nat) (sz sfi:Int) (b:List Int):Option (Int×List S_api_Mroute×List S_api_Uroute) :=
  if sfi=5 then (mroute_ReadRow.f k b sz).bind fun r=>some (r.2,r.1,[]) else (uroute_ReadRow.f k b sz).bind fun r=>some (r.2,[],r.1)
theorem readI_walk (w:World) (M:List Nat) (hM:MS M w) (gt gr:Nat) (hgt:gt∈M) (sz sfi:Int) (hT:Box w gt (cTR gr (tZ sz sfi [] []) none 0 none 0)) (b:List Int) (ao:Option Addr) (cap:Nat) (fb:RSl (rInt .u8) 5 w M ao cap b) (k:Nat) (r:Int×List S_api_Mroute×List S_api_Uroute) (H:readI.f k sz sfi b=some r) :
    To Tryz.prog 87 [.pointer (some ⟨gt,1,none⟩),.slice ao b.length cap] w fun v w'=>v=.int .i64 r.1∧∃ (a1:Option Addr) (c1:Nat) (a2:Option Addr) (c2:Nat),RSl rS_api_Mroute 105 w' M a1 c1 r.2.1∧RSl rS_api_Uroute 135 w' M a2 c2 r.2.2∧Box w' gt (cTR gr (tZ sz sfi r.2.1 r.2.2) a1 c1 a2 c2)∧Chg [gt] w w'∧MS M w':=by
  unfold readI.f at H
  refine ent Tryz.func87 rfl [(0,.pointer (some ⟨gt,1,none⟩)),(1,.slice ao b.length cap)] rfl (by rfl) fun a ha=>?_
  refine wp_seq_k fun K hK=>?_
  refine wp_region_lit ?_
  refine sf ha 1 [(0,pt gt 1),(1,.slice ao b.length cap)] fun a ha=>?_
  refine hK _ _ ?_;clear hK K
  refine wp_seq_k fun K hK=>?_
  refine wsr fun K2 hK2=>?_
  refine sf ha 3 [(0,pt gt 1),(1,.slice ao b.length cap),(7,pt gt 2)] fun a ha=>?_
  refine ld (v:=.int .i64 sfi) ha rfl (by kernel_rfl) rfl rfl rfl (hT.cell' (o:=2) rfl (by kernel_rfl)) fun a ha=>?_
  refine sf ha 1 [(9,.bool (sfi==(5:Int))),(0,pt gt 1),(1,.slice ao b.length cap)] fun a ha=>?_
  refine hK2 _ _ ?_;clear hK2 K2
  have E:∀ (e:Int) (a:Act) (w':World),r.1=e→Has a Tryz.f87.ntmps [(4,.int .i64 e)]→(∃ (a1:Option Addr) (c1:Nat) (a2:Option Addr) (c2:Nat),RSl rS_api_Mroute 105 w' M a1 c1 r.2.1∧RSl rS_api_Uroute 135 w' M a2 c2 r.2.2∧Box w' gt (cTR gr (tZ sz sfi r.2.1 r.2.2) a1 c1 a2 c2)∧Chg [gt] w w'∧MS M w')→K a w':=by
    intro e a w' he ha hx
    refine hK _ _ ?_;clear hK K
    refine wp_seq_k fun K hK=>?_
    refine wp_region_lit ?_
    refine sf ha 2 [(4,.int .i64 e)] fun a ha=>?_
    refine hK _ _ ?_;clear hK K
    refine wp_ret ?_
    refine rt1 ha rfl rfl ?_
    exact ⟨by rw [he],hx⟩
  refine cnd ha rfl (fun h1=>?_) (fun h1=>?_)
  · have h1:=beq_iff_eq.1 h1
    rw [if_pos h1] at H
    obtain ⟨q,Hq,H⟩:=bind_some H
    have H:=oj H
    refine wp_region_lit ?_
    refine sf ha 5 [(11,pt gt 1),(12,.slice ao b.length cap),(15,pt gt 1)] fun a ha=>?_
    refine ld (v:=.int .i64 sz) ha rfl (by kernel_rfl) rfl rfl rfl (hT.cell' (o:=1) rfl (by kernel_rfl)) fun a ha=>?_
    refine cL ha (mroute_ReadRow.walk w M hM b ao cap fb sz k q Hq) ?_
    rintro _ w1 ⟨a1,c1,rfl,hO,hge,cc,hM1⟩ a ha
    have hT:=hT.chg cc (fun h=>nomatch h)
    have fM:RSl rS_api_Mroute 105 w1 M a1 c1 q.1:=hO.toRSl (fun _ h=>.inl (mr h)) (fun z hz hzM=>absurd (hM z hzM) (Nat.not_lt.2 (hge z hz)))
    refine sf ha 5 [(18,.slice a1 q.1.length c1),(19,.int .i64 q.2),(21,pt gt 20)] fun a ha=>?_
    refine st ha rfl rfl rfl (by kernel_rfl) rfl rfl hT (Nat.le_of_ble_eq_true (by kernel_rfl)) fun a w2 ha hb2 c2 _=>?_
    refine sf ha 1 [(4,.int .i64 q.2)] fun a ha=>?_
    subst H
    refine E q.2 _ _ rfl ha ⟨a1,c1,none,0,fM.chg c2 (Ok.one (.inl hgt)) (Ok.refl _ _),RSl.nil (Nat.zero_le _),hb2.cast (by kernel_rfl),(cc.mono (Ok.nil _ _)).trans c2 (Ok.one (.inl (by simp))),(hM.chg cc).chg c2⟩
  · have h1:¬ sfi=5:=by simpa using h1
    rw [if_neg h1] at H
    obtain ⟨q,Hq,H⟩:=bind_some H
    have H:=oj H
    refine wp_region_lit ?_
    refine sf ha 5 [(23,pt gt 1),(24,.slice ao b.length cap),(27,pt gt 1)] fun a ha=>?_
    refine ld (v:=.int .i64 sz) ha rfl (by kernel_rfl) rfl rfl rfl (hT.cell' (o:=1) rfl (by kernel_rfl)) fun a ha=>?_
    refine cL ha (uroute_ReadRow.walk w M hM b ao cap fb sz k q Hq) ?_
    rintro _ w1 ⟨a1,c1,rfl,hO,hge,cc,hM1⟩ a ha
    have hT:=hT.chg cc (fun h=>nomatch h)
    have fU:RSl rS_api_Uroute 135 w1 M a1 c1 q.1:=hO.toRSl (fun _ h=>.inl (mr h)) (fun z hz hzM=>absurd (hM z hzM) (Nat.not_lt.2 (hge z hz)))
    refine sf ha 5 [(30,.slice a1 q.1.length c1),(31,.int .i64 q.2),(33,pt gt 21)] fun a ha=>?_
    refine st ha rfl rfl rfl (by kernel_rfl) rfl rfl hT (Nat.le_of_ble_eq_true (by kernel_rfl)) fun a w2 ha hb2 c2 _=>?_
    refine sf ha 1 [(4,.int .i64 q.2)] fun a ha=>?_
    subst H
    refine E q.2 _ _ rfl ha ⟨none,0,a1,c1,RSl.nil (Nat.zero_le _),fU.chg c2 (Ok.one (.inl hgt)) (Ok.refl _ _),hb2.cast (by kernel_rfl),(cc.mono (Ok.nil _ _)).trans c2 (Ok.one (.inl (by simp))),(hM.chg cc).chg c2⟩
def routes.f (k:Nat) (sz sfi:Int) (rd:S_cursor_Reader):Option (Bool×List S_api_Mroute×List S_api_Uroute) :=
  (cursor_rest_Left.f rd.rest).bind fun n=>(cursor_Reader_Take.f rd n).bind fun t=>(readI.f k sz sfi t.1).bind fun r=>some (r.1==0,r.2.1,r.2.2)
theorem routes_walk (w:World) (M:List Nat) (hM:MS M w) (gt gr:Nat) (hne:gt≠gr) (hgt:gt∈M) (hgr:gr∈M) (rd:S_cursor_Reader) (ao1:Option Addr) (cap1:Nat) (f1:RSl (rInt .u8) 5 w M ao1 cap1 rd.rest.left) (hR:Box w gr (cS_cursor_Reader rd ao1 cap1)) (sz sfi:Int) (hT:Box w gt (cTR gr (tZ sz sfi [] []) none 0 none 0)) (k:Nat) (r:Bool×List S_api_Mroute×List S_api_Uroute) (H:routes.f k sz sfi rd=some r) :
    To Tryz.prog 105 [.pointer (some ⟨gt,0,none⟩)] w fun v w'=>v=.bool r.1∧∃ (a1:Option Addr) (c1:Nat) (a2:Option Addr) (c2:Nat),RSl rS_api_Mroute 105 w' M a1 c1 r.2.1∧RSl rS_api_Uroute 135 w' M a2 c2 r.2.2∧Box w' gt (cTR gr (tZ sz sfi r.2.1 r.2.2) a1 c1 a2 c2)∧Chg [gt,gr] w w'∧MS M w':=by
  unfold routes.f at H
  obtain ⟨n,Hn,H⟩:=bind_some H
  obtain ⟨t,Ht,H⟩:=bind_some H
  obtain ⟨q,Hq,H⟩:=bind_some H
  have H:=oj H
  refine ent Tryz.func105 rfl [(0,.pointer (some ⟨gt,0,none⟩))] rfl (by rfl) fun a ha=>?_
  refine wp_seq_k fun K hK=>?_
  refine wp_region_lit ?_
  refine sf ha 1 [(0,pt gt 0)] fun a ha=>?_
  refine hK _ _ ?_;clear hK K
  refine wp_seq_k fun K hK=>?_
  refine drl 14 (by kernel_rfl) fun w1 hs1=>?_
  have hT:=hT.chg hs1 (fun h=>nomatch h)
  have hR:=hR.chg hs1 (fun h=>nomatch h)
  have f1:=f1.chg hs1 (Ok.nil _ _) (Ok.refl _ _)
  have hM:=hM.chg hs1
  have hid:=Chg.refl [] w1
  have hptr:∀ w',Chg [] w1 w'→w'.cell? ⟨gt,0,none⟩=some (.pointer (some ⟨gr,0,none⟩)):=fun w' hs=>(hT.chg hs (fun h=>nomatch h)).cell' (o:=0) rfl (by kernel_rfl)
  refine tlp 0 0 (.pointer (some ⟨gt,0,none⟩)) ha hid (hk:=fun a ha=>?_)
  refine tlp 1 0 (.pointer (some ⟨gt,0,none⟩)) ha hid (hk:=fun a ha=>?_)
  refine tlp 2 0 (.pointer (some ⟨gt,1,none⟩)) ha hid (hk:=fun a ha=>?_)
  refine tlp 3 0 (.pointer (some ⟨gt,0,none⟩)) ha hid (hk:=fun a ha=>?_)
  refine tlp 4 0 (.pointer (some ⟨gt,0,none⟩)) ha hid (hk:=fun a ha=>?_)
  refine tlp 5 0 (.pointer (some ⟨gt,0,none⟩)) ha hid (hk:=fun a ha=>?_)
  refine tlt (v:=.pointer (some ⟨gr,0,none⟩)) 6 ha hid rfl (fun w' hs=>ld_run ha rfl (by kernel_rfl) (hptr w' hs)) (hk:=fun a ha=>?_)
  refine tlp 7 0 (.pointer (some ⟨gt,0,none⟩)) ha hid (hk:=fun a ha=>?_)
  refine tlp 8 0 (.pointer (some ⟨gt,0,none⟩)) ha hid (hk:=fun a ha=>?_)
  refine tlp 9 0 (.pointer (some ⟨gt,0,none⟩)) ha hid (hk:=fun a ha=>?_)
  refine tlt (v:=.pointer (some ⟨gr,0,none⟩)) 10 ha hid rfl (fun w' hs=>ld_run ha rfl (by kernel_rfl) (hptr w' hs)) (hk:=fun a ha=>?_)
  refine tlp 11 0 (.pointer (some ⟨gr,0,none⟩)) ha hid (hk:=fun a ha=>?_)
  refine tlp 12 0 (.pointer (some ⟨gr,0,none⟩)) ha hid (hk:=fun a ha=>?_)
  refine al3 13 (h:=fun K2 hK2=>?_)
  refine cL ha (cursor_rest_Left.walk w1 M hM gr rd.rest ao1 cap1 f1 hR hgr n Hn) ?_
  rintro _ w2 ⟨rfl,c2,hM2⟩ a ha
  refine wpl_end (hK2 _ _ c2 ?_);clear hK2 K2
  have hT:=hT.chg c2 (fun h=>nomatch h)
  have hR:=hR.chg c2 (fun h=>nomatch h)
  have f1:=f1.chg c2 (Ok.nil _ _) (Ok.refl _ _)
  refine al2 14 (h:=fun K2 hK2=>?_)
  refine cL ha (cursor_Reader_Take.walk w2 M hM2 gr rd ao1 cap1 f1 hR hgr n t Ht) ?_
  rintro _ w3 ⟨ao2,cap2,ao3,cap3,rfl,hO,_,_,hge,c3,_⟩ a ha
  refine wpl_end (hK2 _ _ ?_);clear hK2 K2
  have hT:=hT.chg c3 (by simp [hne])
  have fb:RSl (rInt .u8) 5 w3 M ao2 cap2 t.1:=hO.toRSl (fun _ h=>.inl (mr h)) (fun z hz hzM=>absurd (hM2 z hzM) (Nat.not_lt.2 (hge z hz)))
  have hM3:=hM2.chg c3
  refine al2 15 (h:=fun K2 hK2=>?_)
  refine cL ha (readI_walk w3 M hM3 gt gr hgt sz sfi hT t.1 ao2 cap2 fb k q Hq) ?_
  rintro _ w4 ⟨rfl,a1,c1,a2,c2',fm,fu,hT,c4,hM4⟩ a ha
  refine wpl_end (hK2 _ _ ?_);clear hK2 K2
  refine al2 16 (h:=fun K2 hK2=>?_)
  refine sf ha 1 [(19,.bool (q.1==(0:Int)))] fun a ha=>?_
  refine hK2 _ _ ?_;clear hK2 K2
  refine al2 17 (h:=fun K2 hK2=>?_)
  refine sf ha 1 [(2,.bool (q.1==(0:Int)))] fun a ha=>?_
  refine hK2 _ _ ?_;clear hK2 K2
  refine dl ?_
  refine hK _ _ ?_;clear hK K
  refine wp_ret ?_
  refine rt1 ha rfl rfl ?_
  subst H
  refine ⟨rfl,a1,c1,a2,c2',fm,fu,hT,?_,hM4⟩
  exact (((hs1.mono (Ok.nil _ _)).trans c2 (Ok.nil _ _)).trans c3 (Ok.one (.inl (by simp)))).trans c4 (Ok.one (.inl (by simp)))
def update_tables.f (k:Nat) (u:S_api_Update) (l:List S_api_Raw):Option (Int×Bool×S_api_Update) :=
  match l with
  | [x]=>if x.Kind=15 then (cursor_Open.f x.Value).bind fun rd=>(known.f k rd).bind fun q=>(cursor_rest_Bad.f q.2.1.rest).bind fun bd=>if bd=true then some (0,false,u) else if q.1=false then some (1,true,u) else
      (routes.f k q.2.2.1 q.2.2.2 q.2.1).bind fun r=>if r.1=false then some (0,false,u) else some (0,true,⟨u.Attrs,u.Reach,[tZ q.2.2.1 q.2.2.2 r.2.1 r.2.2]⟩) else none
  | _=>none
def TbPost (w w':World) (M:List Nat) (gu:Nat) (r:Int×Bool×S_api_Update):Prop:=∃ (aoq1:Option Addr) (capq1:Nat) (aoq2:Option Addr) (capq2:Nat) (aoq3:Option Addr) (capq3:Nat) (aoq4:Option Addr) (capq4:Nat) (aoq5:Option Addr) (capq5:Nat) (aoq6:Option Addr) (capq6:Nat),RSl rS_api_Segment 101 w' M aoq1 capq1 r.2.2.Attrs.Path∧RSl rS_api_Addr 25 w' M aoq2 capq2 r.2.2.Attrs.Clusters∧RSl (rArr .u8 8) 124 w' M aoq3 capq3 r.2.2.Attrs.Exts∧RSl rS_api_Tunnel 96 w' M aoq4 capq4 r.2.2.Attrs.Tunnels∧RSl rS_api_Table 55 w' M aoq5 capq5 r.2.2.Reach∧RSl rS_api_Table 55 w' M aoq6 capq6 r.2.2.Unreach∧Box w' gu (cS_api_Update r.2.2 aoq1 capq1 aoq2 capq2 aoq3 capq3 aoq4 capq4 aoq5 capq5 aoq6 capq6)∧Chg [gu] w w'∧MS M w'
theorem TbPost.nil {w w1 w2:World} {M:List Nat} {gu:Nat} {r:Int×Bool×S_api_Update} (h:TbPost w w1 M gu r) (hc:Chg [] w1 w2):TbPost w w2 M gu r:=by
  obtain ⟨aoq1,capq1,aoq2,capq2,aoq3,capq3,aoq4,capq4,aoq5,capq5,aoq6,capq6,f1,f2,f3,f4,f5,f6,hB,hC,hM⟩:=h
  exact ⟨aoq1,capq1,aoq2,capq2,aoq3,capq3,aoq4,capq4,aoq5,capq5,aoq6,capq6,f1.chg hc (Ok.nil _ _) (Ok.refl _ _),f2.chg hc (Ok.nil _ _) (Ok.refl _ _),f3.chg hc (Ok.nil _ _) (Ok.refl _ _),f4.chg hc (Ok.nil _ _) (Ok.refl _ _),f5.chg hc (Ok.nil _ _) (Ok.refl _ _),f6.chg hc (Ok.nil _ _) (Ok.refl _ _),hB.chg hc (fun h=>nomatch h),hC.trans hc (Ok.nil _ _),hM.chg hc⟩
theorem update_tables.walk (w:World) (M:List Nat) (hM:MS M w) (gu:Nat) (u:S_api_Update) (ao1:Option Addr) (cap1:Nat) (f1:RSl rS_api_Segment 101 w M ao1 cap1 u.Attrs.Path) (ao2:Option Addr) (cap2:Nat) (f2:RSl rS_api_Addr 25 w M ao2 cap2 u.Attrs.Clusters) (ao3:Option Addr) (cap3:Nat) (f3:RSl (rArr .u8 8) 124 w M ao3 cap3 u.Attrs.Exts) (ao4:Option Addr) (cap4:Nat) (f4:RSl rS_api_Tunnel 96 w M ao4 cap4 u.Attrs.Tunnels) (ao5:Option Addr) (cap5:Nat) (f5:RSl rS_api_Table 55 w M ao5 cap5 u.Reach) (ao6:Option Addr) (cap6:Nat) (f6:RSl rS_api_Table 55 w M ao6 cap6 u.Unreach) (hBgu:Box w gu (cS_api_Update u ao1 cap1 ao2 cap2 ao3 cap3 ao4 cap4 ao5 cap5 ao6 cap6)) (hgu:gu∈M) (l:List S_api_Raw) (ao7:Option Addr) (cap7:Nat) (f7:RSl rS_api_Raw 65 w M ao7 cap7 l) (k:Nat) (r:Int×Bool×S_api_Update) (H:update_tables.f k u l=some r) :
    To Tryz.prog 54 [.pointer (some ⟨gu,0,none⟩),.slice ao7 l.length cap7] w fun v w'=>∃ (aoq1:Option Addr) (capq1:Nat) (aoq2:Option Addr) (capq2:Nat) (aoq3:Option Addr) (capq3:Nat) (aoq4:Option Addr) (capq4:Nat) (aoq5:Option Addr) (capq5:Nat) (aoq6:Option Addr) (capq6:Nat),v=.tuple #[.int .i64 r.1,.bool r.2.1]∧RSl rS_api_Segment 101 w' M aoq1 capq1 r.2.2.Attrs.Path∧RSl rS_api_Addr 25 w' M aoq2 capq2 r.2.2.Attrs.Clusters∧RSl (rArr .u8 8) 124 w' M aoq3 capq3 r.2.2.Attrs.Exts∧RSl rS_api_Tunnel 96 w' M aoq4 capq4 r.2.2.Attrs.Tunnels∧RSl rS_api_Table 55 w' M aoq5 capq5 r.2.2.Reach∧RSl rS_api_Table 55 w' M aoq6 capq6 r.2.2.Unreach∧Box w' gu (cS_api_Update r.2.2 aoq1 capq1 aoq2 capq2 aoq3 capq3 aoq4 capq4 aoq5 capq5 aoq6 capq6)∧Chg [gu] w w'∧MS M w':=by
  obtain ⟨x,rfl⟩:∃ x,l=[x]:=by
    cases l with
    | nil=>cases H
    | cons x l=>cases l with
      | nil=>exact ⟨x,rfl⟩
      | cons y l=>cases H
  simp only [update_tables.f] at H
  obtain ⟨hk,H⟩:=ite_some H
  obtain ⟨fl,kd,vl⟩:=x
  simp only at hk
  subst hk
  obtain ⟨rd,Hrd,H⟩:=bind_some H
  obtain ⟨q,Hq,H⟩:=bind_some H
  obtain ⟨bd,Hbd,H⟩:=bind_some H
  have hsame:∀ w',Chg [] w w'→r.2.2=u→TbPost w w' M gu r:=fun w' hc hu=>by
    have hc2:Chg [gu] w w':=hc.mono (Ok.nil _ _)
    unfold TbPost
    rw [hu]
    exact ⟨ao1,cap1,ao2,cap2,ao3,cap3,ao4,cap4,ao5,cap5,ao6,cap6,f1.chg hc (Ok.nil _ _) (Ok.refl _ _),f2.chg hc (Ok.nil _ _) (Ok.refl _ _),f3.chg hc (Ok.nil _ _) (Ok.refl _ _),f4.chg hc (Ok.nil _ _) (Ok.refl _ _),f5.chg hc (Ok.nil _ _) (Ok.refl _ _),f6.chg hc (Ok.nil _ _) (Ok.refl _ _),hBgu.chg hc (fun h=>nomatch h),hc2,hM.chg hc⟩
  refine ent Tryz.func54 rfl [(0,.pointer (some ⟨gu,0,none⟩)),(1,.slice ao7 1 cap7)] rfl (by rfl) fun a ha=>?_
  refine wp_seq_k fun K hK=>?_
  refine wp_region_lit ?_
  refine sf ha 2 [(0,pt gu 0),(1,.slice ao7 1 cap7),(4,.int .i64 0)] fun a ha=>?_
  refine hK _ _ ?_;clear hK K
  refine wp_seq_k fun K hK=>?_
  refine wsr fun K2 hK2=>?_
  refine sf ha 3 [(0,pt gu 0),(4,.int .i64 0),(11,.slice ao7 1 cap7),(12,.int .i64 1),(13,.int .i64 0)] fun a ha=>?_
  refine hK2 _ _ ?_;clear hK2 K2
  have J:∀ (a:Act) (w5:World),Has a Tryz.f54.ntmps [(4,.int .i64 r.1)]→r.2.1=true→TbPost w w5 M gu r→K a w5:=by
    clear ha
    intro a w5 ha hr hP
    refine hK _ _ ?_;clear hK K
    refine wp_seq_k fun K hK=>?_
    refine wp_region_lit ?_
    refine sf ha 3 [(4,.int .i64 r.1),(5,.bool true)] fun a ha=>?_
    refine hK _ _ ?_;clear hK K
    refine wp_ret ?_
    obtain ⟨aoq1,capq1,aoq2,capq2,aoq3,capq3,aoq4,capq4,aoq5,capq5,aoq6,capq6,hrest⟩:=hP
    refine rt2 ha rfl rfl rfl ?_
    exact ⟨aoq1,capq1,aoq2,capq2,aoq3,capq3,aoq4,capq4,aoq5,capq5,aoq6,capq6,by rw [hr],hrest⟩
  refine wp_block ?_
  refine wp_loop_ghost (fun kk a w5=>(kk=1∧w5=w∧Has a Tryz.f54.ntmps [(0,pt gu 0),(4,.int .i64 0),(11,.slice ao7 1 cap7),(12,.int .i64 1),(13,.int .i64 0)])∨(kk=0∧Has a Tryz.f54.ntmps [(4,.int .i64 r.1),(12,.int .i64 1),(13,.int .i64 1)]∧r.2.1=true∧TbPost w w5 M gu r)) 1 ?_ ?_
  · exact .inl ⟨rfl,rfl,ha⟩
  clear ha
  rintro kk a w5 (⟨rfl,rfl,ha⟩ | ⟨rfl,ha,hr,hP⟩)
  rotate_left
  · refine wsr fun K2 hK2=>?_
    refine sf ha 1 [(14,.bool false),(4,.int .i64 r.1)] fun a ha=>?_
    refine hK2 _ _ ?_
    refine wp_seq_k fun K2 hK2=>?_
    refine cnd ha rfl (fun h=>nomatch h) (fun _=>?_)
    refine wx ?_
    exact J _ _ (ha.sel (by kernel_rfl)) hr hP
  clear J
  refine wsr fun K2 hK2=>?_
  refine sf ha 1 [(14,.bool true),(0,pt gu 0),(4,.int .i64 0),(11,.slice ao7 1 cap7),(12,.int .i64 1),(13,.int .i64 0)] fun a ha=>?_
  refine hK2 _ _ ?_;clear hK2 K2
  refine wp_seq_k fun K2 hK2=>?_
  refine cnd ha rfl (fun _=>?_) (fun h=>nomatch h)
  refine wp_skip ?_
  refine hK2 _ _ ?_;clear hK2 K2
  refine wp_seq_k fun KZ hKZ=>?_
  refine wp_block ?_
  refine wsr fun K3 hK3=>?_
  refine ix (r:=rS_api_Raw) (xs:=[⟨fl,15,vl⟩]) (i:=(0:Int)) ha (by kernel_rfl) (by kernel_rfl) rfl rfl rfl rfl rfl f7 (by decide) (by simp) fun a ge oe cs hn hR' hE ha=>?_
  obtain ⟨ao8,cap8,rfl,f8⟩:=rS_api_Raw.open (x:=⟨fl,15,vl⟩) hR'
  refine ldA (cs:=cS_api_Raw ⟨fl,15,vl⟩ ao8 cap8) ha rfl (by kernel_rfl) rfl rfl rfl (cells_sub hE (all:=cS_api_Raw ⟨fl,15,vl⟩ ao8 cap8) [] [] (by kernel_rfl)) fun a ha=>?_
  refine al (cs:=cS_api_Raw (⟨(0:Int),(0:Int),([]:List Int)⟩:S_api_Raw) none 0) (z:=.agg (cS_api_Raw (⟨(0:Int),(0:Int),([]:List Int)⟩:S_api_Raw) none 0).toArray) ha (fun w=>by kernel_rfl) rfl rfl rfl rfl fun a w6 g7 hN ha=>?_
  refine stA (l:=cS_api_Raw ⟨fl,15,vl⟩ ao8 cap8) ha rfl rfl rfl (by kernel_rfl) rfl rfl hN.box rfl fun a w7 ha hb2 hc7 _=>?_
  have hB7:Box w7 g7 (cS_api_Raw ⟨fl,15,vl⟩ ao8 cap8):=hb2.cast (by kernel_rfl)
  have q1:Chg [] w5 w7:=hN.chg.trans hc7 (Ok.one (.inr hN.ge))
  have f8:=f8.chg q1 (Ok.nil _ _) (Ok.refl _ _)
  have hM7:=hM.chg q1
  refine wpl_end ?_
  have ha:=ha.sel (env':=[(7,.pointer (some ⟨g7,0,none⟩)),(0,.pointer (some ⟨gu,0,none⟩)),(4,.int .i64 0),(11,.slice ao7 1 cap7),(12,.int .i64 1),(13,.int .i64 0)]) (by kernel_rfl)
  refine hK3 _ _ ?_;clear hK3 K3
  refine wsr fun K3 hK3=>?_
  refine sf ha 1 [(17,pt g7 1),(7,pt g7 0),(0,pt gu 0),(4,.int .i64 0),(11,.slice ao7 1 cap7),(12,.int .i64 1),(13,.int .i64 0)] fun a ha=>?_
  refine ld (v:=.int .i64 15) ha rfl (by kernel_rfl) rfl rfl rfl (hB7.cell' (o:=1) rfl (by kernel_rfl)) fun a ha=>?_
  refine sf ha 2 [(8,.bool false),(7,pt g7 0),(0,pt gu 0),(4,.int .i64 0),(11,.slice ao7 1 cap7),(12,.int .i64 1),(13,.int .i64 0)] fun a ha=>?_
  refine hK3 _ _ ?_;clear hK3 K3
  refine wp_seq_k fun K3 hK3=>?_
  refine wsr fun K4 hK4=>?_
  refine sf ha 3 [(22,.bool true),(8,.bool false),(7,pt g7 0),(0,pt gu 0),(4,.int .i64 0),(11,.slice ao7 1 cap7),(12,.int .i64 1),(13,.int .i64 0)] fun a ha=>?_
  refine sgf ha 1 [2] [(23,pt g7 1),(22,.bool true),(8,.bool false),(7,pt g7 0),(0,pt gu 0),(4,.int .i64 0),(11,.slice ao7 1 cap7),(12,.int .i64 1),(13,.int .i64 0)] fun a ha=>?_
  refine ld (v:=.int .i64 15) ha rfl (by kernel_rfl) rfl rfl rfl (hB7.cell' (o:=1) rfl (by kernel_rfl)) fun a ha=>?_
  refine sgf ha 2 [2,3] [(26,.bool false),(8,.bool false),(7,pt g7 0),(0,pt gu 0),(4,.int .i64 0),(11,.slice ao7 1 cap7),(12,.int .i64 1),(13,.int .i64 0)] fun a ha=>?_
  refine hK4 _ _ ?_;clear hK4 K4
  refine cnd ha rfl (fun h=>nomatch h) (fun _=>?_)
  refine wp_skip ?_
  refine hK3 _ _ ?_;clear hK3 K3
  refine wsr fun K3 hK3=>?_
  refine sf ha 1 [(27,pt g7 2),(8,.bool false),(0,pt gu 0),(4,.int .i64 0),(11,.slice ao7 1 cap7),(12,.int .i64 1),(13,.int .i64 0)] fun a ha=>?_
  refine ld (v:=.slice ao8 vl.length cap8) ha rfl (by kernel_rfl) rfl rfl rfl (hB7.cell' (o:=2) rfl (by kernel_rfl)) fun a ha=>?_
  refine cL ha (cursor_Open.walk w7 M hM7 vl ao8 cap8 f8 rd Hrd) ?_
  rintro _ w8 ⟨gr,ao9,cap9,rfl,f9,hBr,hger,c8,hM8⟩ a ha
  refine oP (.agg (cTR gr (tZ 0 0 [] []) none 0 none 0).toArray) ha fun a ha=>?_
  refine bx (cs:=cTR gr (tZ 0 0 [] []) none 0 none 0) ha rfl rfl rfl rfl rfl fun a w9 gt hT ha=>?_
  refine sf ha 1 [(9,pt gt 0),(8,.bool false),(0,pt gu 0),(4,.int .i64 0),(11,.slice ao7 1 cap7),(12,.int .i64 1),(13,.int .i64 0)] fun a ha=>?_
  refine hK3 _ _ ?_;clear hK3 K3
  have z1:=hger gr (by simp)
  have z2:=hT.ge
  have z3:=hBr.lt
  have z4:=q1.size
  have z5:=c8.size
  have hne:gt≠gr:=by omega
  have hC9:Chg [] w5 w9:=(q1.trans c8 (Ok.nil _ _)).trans hT.chg (Ok.nil _ _)
  have hM9:MS ([gt]++([gr]++M)) w9:=MS.app hT.ms (hM8.chg hT.chg)
  have hBr:=hBr.c0 hT.chg
  have f9:RSl (rInt .u8) 5 w9 ([gt]++([gr]++M)) ao9 cap9 rd.rest.left:=f9.chg hT.chg (Ok.nil _ _) (Ok.app (hT.ok _) (Ok.refl _ _))
  have hguM:gu < w5.heap.size:=hM gu hgu
  have hgt:gu≠gt:=by omega
  have hgr:gu≠gr:=by omega
  refine wsr fun K3 hK3=>?_
  refine sf ha 1 [(32,pt gt 0),(9,pt gt 0),(8,.bool false),(0,pt gu 0),(4,.int .i64 0),(11,.slice ao7 1 cap7),(12,.int .i64 1),(13,.int .i64 0)] fun a ha=>?_
  refine cL ha (known_walk w9 _ hM9 gt gr hne (by simp) (by simp) rd ao9 cap9 f9 hBr hT.box k q Hq) ?_
  rintro _ w10 ⟨rfl,ao10,cap10,f10,hBr,hBt,c10,hM10⟩ a ha
  have hC10:Chg [] w5 w10:=hC9.trans c10 (fun y hy=>.inr (by simp at hy;omega))
  refine sf ha 1 [(10,.bool q.1),(9,pt gt 0),(8,.bool false),(0,pt gu 0),(4,.int .i64 0),(11,.slice ao7 1 cap7),(12,.int .i64 1),(13,.int .i64 0)] fun a ha=>?_
  refine hK3 _ _ ?_;clear hK3 K3
  refine wp_block ?_
  refine wsr fun K3 hK3=>?_
  refine sf ha 3 [(37,pt gt 0),(10,.bool q.1),(9,pt gt 0),(8,.bool false),(0,pt gu 0),(4,.int .i64 0),(11,.slice ao7 1 cap7),(12,.int .i64 1),(13,.int .i64 0)] fun a ha=>?_
  refine ld (v:=.pointer (some ⟨gr,0,none⟩)) ha rfl (by kernel_rfl) rfl rfl rfl (hBt.cell' (o:=0) rfl (by kernel_rfl)) fun a ha=>?_
  refine sf ha 2 [(40,pt gr 0),(10,.bool q.1),(9,pt gt 0),(8,.bool false),(0,pt gu 0),(4,.int .i64 0),(11,.slice ao7 1 cap7),(12,.int .i64 1),(13,.int .i64 0)] fun a ha=>?_
  refine cL ha (cursor_rest_Bad.walk w10 _ hM10 gr q.2.1.rest ao10 cap10 f10 hBr (by simp) bd Hbd) ?_
  rintro _ w11 ⟨rfl,c11,hM11⟩ a ha
  have hC11:=hC10.trans c11 (Ok.nil _ _)
  have hBt:=hBt.c0 c11
  have hBr:=hBr.c0 c11
  have f10:=f10.chg c11 (Ok.nil _ _) (Ok.refl _ _)
  refine sf ha 1 [(34,.bool bd),(10,.bool q.1),(9,pt gt 0),(8,.bool false),(0,pt gu 0),(4,.int .i64 0),(11,.slice ao7 1 cap7),(12,.int .i64 1),(13,.int .i64 0)] fun a ha=>?_
  refine hK3 _ _ ?_;clear hK3 K3
  refine cnd ha rfl (fun c1=>?_) (fun c1=>?_)
  · rw [if_pos c1] at H
    have H:=oj H
    subst H
    have hP:=hsame w11 hC11 rfl
    refine wsr fun K3 hK3=>?_
    refine sf ha 3 [(4,.int .i64 0),(5,.bool false)] fun a ha=>?_
    refine hK3 _ _ ?_;clear hK3 K3
    refine wp_ret ?_
    try simp only [Exit.then,Exit.inBlock,topQ]
    obtain ⟨aoq1,capq1,aoq2,capq2,aoq3,capq3,aoq4,capq4,aoq5,capq5,aoq6,capq6,hrest⟩:=hP
    refine rt2 ha rfl rfl rfl ?_
    exact ⟨aoq1,capq1,aoq2,capq2,aoq3,capq3,aoq4,capq4,aoq5,capq5,aoq6,capq6,rfl,hrest⟩
  rw [if_neg (by rw [c1];simp)] at H
  refine wsr fun K3 hK3=>?_
  refine sf ha 3 [(43,.bool (!q.1)),(9,pt gt 0),(8,.bool false),(0,pt gu 0),(4,.int .i64 0),(12,.int .i64 1),(13,.int .i64 0)] fun a ha=>?_
  refine hK3 _ _ ?_;clear hK3 K3
  refine cnd ha rfl (fun c2=>?_) (fun c2=>?_)
  · have c2:q.1=false:=by simpa using c2
    rw [if_pos c2] at H
    have H:=oj H
    subst H
    refine wsr fun K3 hK3=>?_
    refine sf ha 1 [(46,.int .i64 0),(12,.int .i64 1),(13,.int .i64 0)] fun a ha=>?_
    refine oP (.int .i64 (if (1:Int) > 0 then 1 else 0)) ha fun a ha=>?_
    refine sf ha 1 [(4,.int .i64 1),(12,.int .i64 1),(13,.int .i64 0)] fun a ha=>?_
    refine hK3 _ _ ?_;clear hK3 K3
    refine wx ?_
    refine hKZ _ _ ?_
    refine wp_region_lit ?_
    refine sf ha 2 [(4,.int .i64 1),(12,.int .i64 1),(13,.int .i64 1)] fun a ha=>?_
    exact ⟨0,by omega,.inr ⟨rfl,ha,rfl,hsame w11 hC11 rfl⟩⟩
  have c2:q.1=true:=by simpa using c2
  rw [if_neg (by rw [c2];simp)] at H
  obtain ⟨rr,Hrr,H⟩:=bind_some H
  refine wp_seq_k fun K5 hK5=>?_
  refine wsr fun K3 hK3=>?_
  refine sgf ha 7 [0,0,1,1,1,4,0] [(48,.bool false),(9,pt gt 0),(8,.bool false),(0,pt gu 0),(4,.int .i64 0),(12,.int .i64 1),(13,.int .i64 0)] fun a ha=>?_
  refine hK3 _ _ ?_;clear hK3 K3
  refine cnd ha rfl (fun h=>nomatch h) (fun _=>?_)
  refine wp_region_lit ?_
  refine sf ha 1 [(55,pt gt 0),(9,pt gt 0),(8,.bool false),(0,pt gu 0),(4,.int .i64 0),(12,.int .i64 1),(13,.int .i64 0)] fun a ha=>?_
  refine cL ha (routes_walk w11 _ hM11 gt gr hne (by simp) (by simp) q.2.1 ao10 cap10 f10 hBr q.2.2.1 q.2.2.2 hBt k rr Hrr) ?_
  rintro _ w12 ⟨rfl,am,cm,au,cu,fm,fu,hBt,c12,hM12⟩ a ha
  have hC12:Chg [] w5 w12:=hC11.trans c12 (fun y hy=>.inr (by simp at hy;omega))
  refine sf ha 2 [(48,.bool (!rr.1)),(9,pt gt 0),(8,.bool false),(0,pt gu 0),(4,.int .i64 0),(12,.int .i64 1),(13,.int .i64 0)] fun a ha=>?_
  refine hK5 _ _ ?_;clear hK5 K5
  refine cnd ha rfl (fun c3=>?_) (fun c3=>?_)
  · have c3:rr.1=false:=by simpa using c3
    rw [if_pos c3] at H
    have H:=oj H
    subst H
    have hP:=hsame w12 hC12 rfl
    refine wsr fun K3 hK3=>?_
    refine sf ha 3 [(4,.int .i64 0),(5,.bool false)] fun a ha=>?_
    refine hK3 _ _ ?_;clear hK3 K3
    refine wp_ret ?_
    try simp only [Exit.then,Exit.inBlock,topQ]
    obtain ⟨aoq1,capq1,aoq2,capq2,aoq3,capq3,aoq4,capq4,aoq5,capq5,aoq6,capq6,hrest⟩:=hP
    refine rt2 ha rfl rfl rfl ?_
    exact ⟨aoq1,capq1,aoq2,capq2,aoq3,capq3,aoq4,capq4,aoq5,capq5,aoq6,capq6,rfl,hrest⟩
  have c3:rr.1=true:=by simpa using c3
  rw [if_neg (by rw [c3];simp)] at H
  have H:=oj H
  refine wsr fun K3 hK3=>?_
  refine sf ha 3 [(59,.bool true),(9,pt gt 0),(0,pt gu 0),(4,.int .i64 0),(12,.int .i64 1),(13,.int .i64 0)] fun a ha=>?_
  refine hK3 _ _ ?_;clear hK3 K3
  refine cnd ha rfl (fun _=>?_) (fun h=>nomatch h)
  refine wp_region_lit ?_
  refine sf ha 4 [(62,pt gu 0),(65,pt gt 1),(0,pt gu 0),(4,.int .i64 0),(12,.int .i64 1),(13,.int .i64 0)] fun a ha=>?_
  refine ldA (cs:=cS_api_Table (tZ q.2.2.1 q.2.2.2 rr.2.1 rr.2.2) am cm au cu) ha rfl (by kernel_rfl) rfl rfl rfl (cells_sub (Box.cells hBt) (all:=cTR gr (tZ q.2.2.1 q.2.2.2 rr.2.1 rr.2.2) am cm au cu) [.pointer (some ⟨gr,0,none⟩)] [] (by kernel_rfl)) fun a ha=>?_
  refine bslA (vals:=[.agg (cS_api_Table (tZ q.2.2.1 q.2.2.2 rr.2.1 rr.2.2) am cm au cu).toArray]) (T:=55) (z:=.agg (cS_api_Table (tZ 0 0 [] []) none 0 none 0).toArray) ha rfl (by kernel_rfl) rfl (by kernel_rfl) (s:=21) (by kernel_rfl) rfl rfl (fun w=>by kernel_rfl) (by kernel_rfl) rfl rfl rfl fun a w13 gL hL ha=>?_
  have hL:=(show New _ _ _ (.cells (cS_api_Table (tZ q.2.2.1 q.2.2.2 rr.2.1 rr.2.2) am cm au cu++([]:List Value)).toArray 55 (0,0)) from hL)
  have hC13:Chg [] w5 w13:=hC12.trans hL.chg (Ok.nil _ _)
  have fm:=fm.chg (M':=[gL]++M) hL.chg (Ok.nil _ _) (Ok.app (hL.ok _) (fun _ h=>.inl (mr (mr h))))
  have fu:=fu.chg (M':=[gL]++M) hL.chg (Ok.nil _ _) (Ok.app (hL.ok _) (fun _ h=>.inl (mr (mr h))))
  have fL:Own rS_api_Table 55 w13 ([gL]++M) (some ⟨gL,0,none⟩) 1 [tZ q.2.2.1 q.2.2.2 rr.2.1 rr.2.2]:=hL.own ⟨cS_api_Table (tZ q.2.2.1 q.2.2.2 rr.2.1 rr.2.2) am cm au cu,_,rfl,rS_api_Table.mk _ fm fu,rfl⟩ (Nat.le_of_ble_eq_true rfl)
  have fT:RSl rS_api_Table 55 w13 M (some ⟨gL,0,none⟩) 1 [tZ q.2.2.1 q.2.2.2 rr.2.1 rr.2.2]:=fL.toRSl (fun _ h=>.inl (mr h)) (fun z hz hzM=>by
    simp [blkL] at hz
    subst hz
    have:=hM z hzM
    have:=hL.ge
    have:=hC12.size
    omega)
  refine sf ha 2 [(67,.slice (some ⟨gL,0,none⟩) 1 1),(69,pt gu 25),(0,pt gu 0),(4,.int .i64 0),(12,.int .i64 1),(13,.int .i64 0)] fun a ha=>?_
  refine st ha rfl rfl rfl (by kernel_rfl) rfl rfl (hBgu.chg hC13 (fun h=>nomatch h)) (Nat.le_of_ble_eq_true (by kernel_rfl)) fun a w14 ha hb2 c14 _=>?_
  have hC14:Chg [gu] w5 w14:=(hC13.mono (Ok.nil _ _)).trans c14 (Ok.one (.inl (by simp)))
  refine wpl_end ?_
  refine hKZ _ _ ?_
  refine wp_region_lit ?_
  refine sf ha 2 [(4,.int .i64 0),(12,.int .i64 1),(13,.int .i64 1)] fun a ha=>?_
  subst H
  refine ⟨0,by omega,.inr ⟨rfl,ha,rfl,?_⟩⟩
  exact ⟨ao1,cap1,ao2,cap2,ao3,cap3,ao4,cap4,ao5,cap5,some ⟨gL,0,none⟩,1,f1.chg hC14 (Ok.one (.inl hgu)) (Ok.refl _ _),f2.chg hC14 (Ok.one (.inl hgu)) (Ok.refl _ _),f3.chg hC14 (Ok.one (.inl hgu)) (Ok.refl _ _),f4.chg hC14 (Ok.one (.inl hgu)) (Ok.refl _ _),f5.chg hC14 (Ok.one (.inl hgu)) (Ok.refl _ _),fT.chg c14 (Ok.one (.inl hgu)) (Ok.refl _ _),hb2.cast (by kernel_rfl),hC14,hM.chg hC14⟩

def update_Parse.f (k:Nat) (a0:List Int):Option (S_api_Update×Int×S_api_Note):=(cursor_Open.f a0).bind fun t12=>(cursor_Reader_Num.f k t12 (2:Int)).bind fun t17=>(cursor_Reader_Take.f t17.2 t17.1).bind fun t19=>(cursor_Reader_Num.f k t19.2 (2:Int)).bind fun t23=>(cursor_Reader_Take.f t23.2 t23.1).bind fun t25=>(attr_Split.f k t25.1).bind fun t28=>(cursor_rest_Bad.f t25.2.rest).bind fun t32=>(if (if t32=true then true else (t28.2 != (0:Int)))=true then (update_reset.f (1:Int)).bind fun t35=>some ((t35.1:S_api_Update),(t35.2.1:Int),(t35.2.2:S_api_Note)) else (attr_Read.f k t28.1).bind fun t48=>(if (t48.2.2==(3:Int))=true then none else (update_Empty.f ).bind fun t64=>(update_tables.f k t64 t48.2.1).bind fun t78=>(if (!t78.2.1)=true then (update_reset.f (9:Int)).bind fun t89=>some ((t89.1:S_api_Update),(t89.2.1:Int),(t89.2.2:S_api_Note)) else (if ((t78.2.2.Reach.length:Int)==(0:Int))=true then some ((t78.2.2:S_api_Update),(if t78.1 > t48.2.2 then t78.1 else t48.2.2:Int),((⟨(0:Int),(0:Int),([]:List Int)⟩:S_api_Note):S_api_Note)) else (if ((if t78.1 > t48.2.2 then t78.1 else t48.2.2)==(2:Int))=true then (if 0≤(0:Int)∧(0:Int) < (t78.2.2.Reach.length:Int) then (if (([(⟨(rd t78.2.2.Reach (0:Int)).Size,(rd t78.2.2.Reach (0:Int)).Safi,(⟨(0:Int),(List.replicate 16 (0:Int))⟩:S_api_Addr),(rd t78.2.2.Reach (0:Int)).M,(rd t78.2.2.Reach (0:Int)).U⟩:S_api_Table)]:List S_api_Table).length+t78.2.2.Unreach.length)*88≤140737488355328 then some (((⟨t78.2.2.Attrs,([]:List S_api_Table),(([(⟨(rd t78.2.2.Reach (0:Int)).Size,(rd t78.2.2.Reach (0:Int)).Safi,(⟨(0:Int),(List.replicate 16 (0:Int))⟩:S_api_Addr),(rd t78.2.2.Reach (0:Int)).M,(rd t78.2.2.Reach (0:Int)).U⟩:S_api_Table)]:List S_api_Table)++t78.2.2.Unreach)⟩:S_api_Update):S_api_Update),(if t78.1 > t48.2.2 then t78.1 else t48.2.2:Int),((⟨(0:Int),(0:Int),([]:List Int)⟩:S_api_Note):S_api_Note)) else none) else none) else some (((⟨t48.1,t78.2.2.Reach,t78.2.2.Unreach⟩:S_api_Update):S_api_Update),(if t78.1 > t48.2.2 then t78.1 else t48.2.2:Int),((⟨(0:Int),(0:Int),([]:List Int)⟩:S_api_Note):S_api_Note)))))))
set_option maxRecDepth 100000 in
theorem update_Parse.walk (w:World) (M:List Nat) (hM:MS M w) (a0:List Int) (ao1:Option Addr) (cap1:Nat) (f1:RSl (rInt .u8) 5 w M ao1 cap1 a0) (k:Nat) (r:S_api_Update×Int×S_api_Note) (H:update_Parse.f k a0=some r) :
    To Tryz.prog 19 [.slice ao1 a0.length cap1] w fun v w'=>∃ (ao158:Option Addr) (cap158:Nat) (ao159:Option Addr) (cap159:Nat) (ao160:Option Addr) (cap160:Nat) (ao161:Option Addr) (cap161:Nat) (ao162:Option Addr) (cap162:Nat) (ao163:Option Addr) (cap163:Nat) (ao164:Option Addr) (cap164:Nat),v=.tuple #[.agg (cS_api_Update r.1 ao158 cap158 ao159 cap159 ao160 cap160 ao161 cap161 ao162 cap162 ao163 cap163).toArray,.int .i64 r.2.1,.agg (cS_api_Note r.2.2 ao164 cap164).toArray]∧(RSl rS_api_Segment 101 w' (blkL ao164++(M)) ao158 cap158 r.1.Attrs.Path)∧(RSl rS_api_Addr 25 w' (blkL ao164++(M)) ao159 cap159 r.1.Attrs.Clusters)∧(RSl (rArr .u8 8) 124 w' (blkL ao164++(M)) ao160 cap160 r.1.Attrs.Exts)∧(RSl rS_api_Tunnel 96 w' (blkL ao164++(M)) ao161 cap161 r.1.Attrs.Tunnels)∧(RSl rS_api_Table 55 w' (blkL ao164++(M)) ao162 cap162 r.1.Reach)∧(RSl rS_api_Table 55 w' (blkL ao164++(M)) ao163 cap163 r.1.Unreach)∧(Own (rInt .u8) 5 w' (blkL ao164++(M)) ao164 cap164 r.2.2.Data)∧(∀ x∈blkL ao164,w.heap.size≤x)∧Chg [] w w'∧MS (blkL ao164++(M)) w':=by
 unfold update_Parse.f at H;refine ent Tryz.func19 rfl [(0,.slice ao1 a0.length cap1)] rfl (by rfl) fun a ha=>?_;have hC:Chg [] w w:=Chg.refl _ _;refine wsr fun K2 hK2=>?_;refine alE (cS_api_Update (⟨(⟨(0:Int),([]:List S_api_Segment),(0:Int),(0:Int),(⟨(0:Int),(List.replicate 16 (0:Int))⟩:S_api_Addr),([]:List S_api_Addr),([]:List (List Int)),([]:List S_api_Tunnel)⟩:S_api_Attrs),([]:List S_api_Table),([]:List S_api_Table)⟩:S_api_Update) none 0 none 0 none 0 none 0 none 0 none 0) ha fun a w3 g4 hN5 ha=>?_;have o1:=oN M w;have o2:=oA hN5 M;have f1:=f1.chg hN5.chg o1 o2;have e_i6:=eN hC (hN5.ge1);have hM:=MS.app hN5.ms (hM.chg hN5.chg);have hC:=hC.t0 hN5.chg;have hBg4:=hN5.box;refine sd ha 1 [] [(2,pt g4 0)] fun a ha=>?_;refine alE (cS_api_Note (⟨(0:Int),(0:Int),([]:List Int)⟩:S_api_Note) none 0) ha fun a w7 g8 hN9 ha=>?_;have o1:=oN ([g4]++(M)) w3;have o2:=oA hN9 ([g4]++(M));have f1:=f1.chg hN9.chg o1 o2;have hBg4:=hBg4.c0 hN9.chg;have p_i10_i6:=pn (B:=[g4]) hM (hN9.ge1) fun _ hy=>ml hy;have e_i10:=eN hC (hN9.ge1);have hM:=MS.app hN9.ms (hM.chg hN9.chg);have hC:=hC.t0 hN9.chg;have hBg8:=hN9.box;refine hK2 _ _ ?_;refine wsr fun K11 hK11=>?_;refine sd ha 1 [0] [(4,pt g8 0),(15,.slice ao1 a0.length cap1)] fun a ha=>?_;obtain ⟨t12,H12,H⟩:=bind_some H;refine cL ha (cursor_Open.walk w7 _ hM a0 ao1 cap1 f1 _ H12) ?_;rintro _ w12 ⟨g13,ao15,cap15,rfl,f15,hBg13,ne_i14,hc12,hMn⟩ a ha;have hBg4:=hBg4.c0 hc12;have hBg8:=hBg8.c0 hc12;have p_i14_i10:=pn (B:=[g8]) hM ne_i14 fun _ hy=>ml hy;have p_i14_i6:=pn (B:=[g4]) hM ne_i14 fun _ hy=>mr (ml hy);have e_i14:=eN hC ne_i14;have hM:MS ([g13]++([g8]++([g4]++(M)))) w12:=(MS.app (fun x h=>hMn x (ml h)) (hM.chg hc12))
 have hC:=hC.t0 hc12;refine sd ha 1 [15] [(5,pt g13 0)] fun a ha=>?_;refine hK11 _ _ ?_;refine wsr fun K16 hK16=>?_;refine sd ha 2 [] [(17,pt g13 0),(18,pt g13 0)] fun a ha=>?_;obtain ⟨t17,H17,H⟩:=bind_some H;refine cL ha (cursor_Reader_Num.walk w12 _ hM g13 t12 ao15 cap15 f15 hBg13 (ml (List.mem_singleton.2 rfl)) (2:Int) k _ H17) ?_;rintro _ w17 ⟨ao18,cap18,rfl,f18,qhBg13,hc17,hMn⟩ a ha;have hBg4:=hBg4.chg hc17 ((fun x (hx:x∈[g4]) (hy:x∈[g13])=>p_i14_i6 x hy hx) g4 (by simp));have hBg8:=hBg8.chg hc17 ((fun x (hx:x∈[g8]) (hy:x∈[g13])=>p_i14_i10 x hy hx) g8 (by simp));have hM:=hM.chg hc17;have hC:=hC.t1 hc17 e_i14;have hBg13:=qhBg13;obtain ⟨t19,H19,H⟩:=bind_some H;refine cL ha (cursor_Reader_Take.walk w17 _ hM g13 t17.2 ao18 cap18 f18 hBg13 (ml (List.mem_singleton.2 rfl)) t17.1 _ H19) ?_;rintro _ w19 ⟨ao20,cap20,ao21,cap21,rfl,f20,f21,qhBg13,ne_i20,hc19,hMn⟩ a ha;have hBg4:=hBg4.chg hc19 ((fun x (hx:x∈[g4]) (hy:x∈[g13])=>p_i14_i6 x hy hx) g4 (by simp));have hBg8:=hBg8.chg hc19 ((fun x (hx:x∈[g8]) (hy:x∈[g13])=>p_i14_i10 x hy hx) g8 (by simp));have hM:MS (blkL ao20++([g13]++([g8]++([g4]++(M))))) w19:=(MS.app (fun x h=>hMn x (ml h)) (hM.chg hc19))
 have hC:=hC.t1 hc19 e_i14;have hBg13:=qhBg13;refine hK16 _ _ ?_;refine wsr fun K22 hK22=>?_;refine sd ha 2 [17,18] [(22,pt g13 0),(23,pt g13 0)] fun a ha=>?_;obtain ⟨t23,H23,H⟩:=bind_some H;refine cL ha (cursor_Reader_Num.walk w19 _ hM g13 t19.2 ao21 cap21 f21 hBg13 (mr (ml (List.mem_singleton.2 rfl))) (2:Int) k _ H23) ?_;rintro _ w23 ⟨ao24,cap24,rfl,f24,qhBg13,hc23,hMn⟩ a ha;have hBg4:=hBg4.chg hc23 ((fun x (hx:x∈[g4]) (hy:x∈[g13])=>p_i14_i6 x hy hx) g4 (by simp));have hBg8:=hBg8.chg hc23 ((fun x (hx:x∈[g8]) (hy:x∈[g13])=>p_i14_i10 x hy hx) g8 (by simp));have hM:=hM.chg hc23;have hC:=hC.t1 hc23 e_i14;have hBg13:=qhBg13;obtain ⟨t25,H25,H⟩:=bind_some H;refine cL ha (cursor_Reader_Take.walk w23 _ hM g13 t23.2 ao24 cap24 f24 hBg13 (mr (ml (List.mem_singleton.2 rfl))) t23.1 _ H25) ?_;rintro _ w25 ⟨ao26,cap26,ao27,cap27,rfl,f26,f27,qhBg13,ne_i26,hc25,hMn⟩ a ha;have hBg4:=hBg4.chg hc25 ((fun x (hx:x∈[g4]) (hy:x∈[g13])=>p_i14_i6 x hy hx) g4 (by simp));have hBg8:=hBg8.chg hc25 ((fun x (hx:x∈[g8]) (hy:x∈[g13])=>p_i14_i10 x hy hx) g8 (by simp));have p_i26_i20:=pn (B:=(blkL ao20)) hM ne_i26 fun _ hy=>ml hy;have p_i26_i14:=pn (B:=[g13]) hM ne_i26 fun _ hy=>mr (ml hy);have p_i26_i10:=pn (B:=[g8]) hM ne_i26 fun _ hy=>mr (mr (ml hy));have p_i26_i6:=pn (B:=[g4]) hM ne_i26 fun _ hy=>mr (mr (mr (ml hy)));have p_i26_M:=pn (B:=M) hM ne_i26 fun _ hy=>mr (mr (mr (mr (hy))));have hM:MS (blkL ao26++(blkL ao20++([g13]++([g8]++([g4]++(M)))))) w25:=(MS.app (fun x h=>hMn x (ml h)) (hM.chg hc25))
 have hC:=hC.t1 hc25 e_i14;have hBg13:=qhBg13;have fz:=f26.toRSl (M':=blkL ao20++([g13]++([g8]++([g4]++(M))))) (fun _ h=>.inl (mr (h))) (fun x hx hm=>(List.mem_append.1 hm).elim (fun h=>p_i26_i20 x hx h) (fun h=>(List.mem_append.1 h).elim (fun h=>p_i26_i14 x hx h) (fun h=>(List.mem_append.1 h).elim (fun h=>p_i26_i10 x hx h) (fun h=>(List.mem_append.1 h).elim (fun h=>p_i26_i6 x hx h) (fun h=>p_i26_M x hx h)))));have o1:=oN (blkL ao26++(blkL ao20++([g13]++([g8]++([g4]++(M)))))) w25;have o2:Ok (blkL ao20++([g13]++([g8]++([g4]++(M))))) (blkL ao26++(blkL ao20++([g13]++([g8]++([g4]++(M)))))) w25.heap.size:=(fun _ h=>.inl (mr (h)))
 have f27:=f27.chg (Chg.refl [] _) o1 o2;have hM:MS (blkL ao20++([g13]++([g8]++([g4]++(M))))) w25:=hM.sb fun _ h=>mr (h);have f26:=fz;obtain ⟨t28,H28,H⟩:=bind_some H;refine cL ha (attr_Split.walk w25 _ hM t25.1 ao26 cap26 f26 k _ H28) ?_;rintro _ w28 ⟨ao29,cap29,rfl,f29,ne_i29,hc28,hMn⟩ a ha;have o1:=oN (blkL ao20++([g13]++([g8]++([g4]++(M))))) w25;have o2:Ok (blkL ao29++(blkL ao20++([g13]++([g8]++([g4]++(M)))))) (blkL ao20++([g13]++([g8]++([g4]++(M))))) w25.heap.size:=(Ok.app (fun x h=>.inr (ne_i29 x h)) (Ok.refl _ _))
 have f27:=f27.chg hc28 o1 o2;have hBg4:=hBg4.c0 hc28;have hBg8:=hBg8.c0 hc28;have hBg13:=hBg13.c0 hc28;have p_i29_i20:=pn (B:=(blkL ao20)) hM ne_i29 fun _ hy=>ml hy;have p_i29_i14:=pn (B:=[g13]) hM ne_i29 fun _ hy=>mr (ml hy);have p_i29_i10:=pn (B:=[g8]) hM ne_i29 fun _ hy=>mr (mr (ml hy));have p_i29_i6:=pn (B:=[g4]) hM ne_i29 fun _ hy=>mr (mr (mr (ml hy)));have p_i29_M:=pn (B:=M) hM ne_i29 fun _ hy=>mr (mr (mr (mr (hy))));have hM:MS (blkL ao29++(blkL ao20++([g13]++([g8]++([g4]++(M)))))) w28:=(MS.app (fun x h=>hMn x (ml h)) (hM.chg hc28))
 have hC:=hC.t0 hc28;refine sd ha 5 [22,23] [(6,.slice ao29 t28.1.length cap29),(7,.int .i64 t28.2)] fun a ha=>?_;refine hK22 _ _ ?_;refine wp_seq_k fun K30 hK30=>?_;refine wsr fun K31 hK31=>?_;refine sd ha 3 [5] [(31,pt g13 0)] fun a ha=>?_;obtain ⟨t32,H32,H⟩:=bind_some H;refine cL ha (cursor_rest_Bad.walk w28 _ hM g13 t25.2.rest ao27 cap27 f27 hBg13 (mr (mr (ml (List.mem_singleton.2 rfl)))) _ H32) ?_;rintro _ w32 ⟨rfl,hc32,hMn⟩ a ha;have o1:=oN (blkL ao29++(blkL ao20++([g13]++([g8]++([g4]++(M)))))) w28;have o2:=oR (blkL ao29++(blkL ao20++([g13]++([g8]++([g4]++(M)))))) w28;have f29:=f29.chg hc32 o1 o2 (fun _ _ h=>nomatch h) (fun _ h=>ml h);have hBg4:=hBg4.c0 hc32;have hBg8:=hBg8.c0 hc32;have hM:=hM.chg hc32;have hC:=hC.t0 hc32;refine sd ha 4 [7,31] [(36,.bool (if t32=true then true else (t28.2 != (0:Int))))] fun a ha=>?_;refine hK31 _ _ ?_;refine cnH H ha (fun hc33 H=>?_) (fun hc33 H=>?_)
 ·refine wsr fun K34 hK34=>?_;obtain ⟨t35,H35,H⟩:=bind_some H;refine cL ha (update_reset.walk w32 _ hM (1:Int) _ H35) ?_;rintro _ w35 ⟨ao36,cap36,ao37,cap37,ao38,cap38,ao39,cap39,ao40,cap40,ao41,cap41,ao42,cap42,rfl,f36,f37,f38,f39,f40,f41,f42,ne_i42,hc35,hMn⟩ a ha;have hBg4:=hBg4.c0 hc35;have hBg8:=hBg8.c0 hc35;have p_i42_i10:=pn (B:=[g8]) hM ne_i42 fun _ hy=>mr (mr (mr (ml hy)));have p_i42_i6:=pn (B:=[g4]) hM ne_i42 fun _ hy=>mr (mr (mr (mr (ml hy))));have e_i42:=eN hC ne_i42;have hM:MS (blkL ao42++(blkL ao29++(blkL ao20++([g13]++([g8]++([g4]++(M))))))) w35:=(MS.app (fun x h=>hMn x (ml h)) (hM.chg hc35))
  have hC:=hC.t0 hc35;refine sd ha 3 [6,36] [(38,.agg (cS_api_Update t35.1 ao36 cap36 ao37 cap37 ao38 cap38 ao39 cap39 ao40 cap40 ao41 cap41).toArray),(39,.int .i64 t35.2.1),(40,.agg (cS_api_Note t35.2.2 ao42 cap42).toArray)] fun a ha=>?_;refine stE (cS_api_Update t35.1 ao36 cap36 ao37 cap37 ao38 cap38 ao39 cap39 ao40 cap40 ao41 cap41) ha hBg4 fun a w43 ha hBg4 hc44 _=>?_;have o1:Ok [g4] (blkL ao42++(blkL ao29++(blkL ao20++([g13]++([g8]++([g4]++(M))))))) w35.heap.size:=(fun _ h=>.inl (mr (mr (mr (mr (mr (ml h)))))))
  have o2:=oR (blkL ao42++(blkL ao29++(blkL ao20++([g13]++([g8]++([g4]++(M))))))) w35;have f36:=f36.chg hc44 o1 o2;have f37:=f37.chg hc44 o1 o2;have f38:=f38.chg hc44 o1 o2;have f39:=f39.chg hc44 o1 o2;have f40:=f40.chg hc44 o1 o2;have f41:=f41.chg hc44 o1 o2;have f42:=f42.chg hc44 o1 o2 p_i42_i6 (fun _ h=>ml h);have hBg8:=hBg8.chg hc44 (p_i10_i6 g8 (by simp));have hM:=hM.chg hc44;have hC:=hC.t1 hc44 e_i6;refine sd ha 1 [38,39] [(3,.int .i64 t35.2.1)] fun a ha=>?_;refine stE (cS_api_Note t35.2.2 ao42 cap42) ha hBg8 fun a w45 ha hBg8 hc46 _=>?_;have o1:Ok [g8] (blkL ao42++(blkL ao29++(blkL ao20++([g13]++([g8]++([g4]++(M))))))) w43.heap.size:=(fun _ h=>.inl (mr (mr (mr (mr (ml h))))))
  have o2:=oR (blkL ao42++(blkL ao29++(blkL ao20++([g13]++([g8]++([g4]++(M))))))) w43;have f42:=f42.chg hc46 o1 o2 p_i42_i10 (fun _ h=>ml h);have f36:=f36.chg hc46 o1 o2;have f37:=f37.chg hc46 o1 o2;have f38:=f38.chg hc46 o1 o2;have f39:=f39.chg hc46 o1 o2;have f40:=f40.chg hc46 o1 o2;have f41:=f41.chg hc46 o1 o2;have hBg4:=hBg4.chg hc46 ((fun x (hx:x∈[g4]) (hy:x∈[g8])=>p_i10_i6 x hy hx) g4 (by simp));have hM:=hM.chg hc46;have hC:=hC.t1 hc46 e_i10;refine hK34 _ _ ?_;refine wrt ?_;have o1:=oN (blkL ao42++(blkL ao29++(blkL ao20++([g13]++([g8]++([g4]++(M))))))) w45;have o2:Ok (blkL ao42++(M)) (blkL ao42++(blkL ao29++(blkL ao20++([g13]++([g8]++([g4]++(M))))))) w45.heap.size:=(Ok.app (fun _ h=>.inl (ml h)) (fun _ h=>.inl (mr (mr (mr (mr (mr (mr (h)))))))))
  have f36:=f36.chg (Chg.refl [] _) o1 o2;have f37:=f37.chg (Chg.refl [] _) o1 o2;have f38:=f38.chg (Chg.refl [] _) o1 o2;have f39:=f39.chg (Chg.refl [] _) o1 o2;have f40:=f40.chg (Chg.refl [] _) o1 o2;have f41:=f41.chg (Chg.refl [] _) o1 o2;have f42:=f42.chg (Chg.refl [] _) o1 o2 (fun _ _ h=>nomatch h) (fun _ h=>ml h);have hM:MS (blkL ao42++(M)) w45:=(MS.app (fun x h=>hM.chg (Chg.refl [] _) x (ml h)) (fun x h=>hM.chg (Chg.refl [] _) x (mr (mr (mr (mr (mr (mr (h)))))))))
  obtain rfl:=oj H;refine rtr ha (res3 rfl (roA ha rfl hBg4 (by kernel_rfl)) (roT ha rfl) (roA ha rfl hBg8 (by kernel_rfl))) ?_;exact ⟨ao36,cap36,ao37,cap37,ao38,cap38,ao39,cap39,ao40,cap40,ao41,cap41,ao42,cap42,rfl,f36,f37,f38,f39,f40,f41,f42,e_i42,hC,hM⟩
 ·refine wp_skip ?_;refine hK30 _ _ ?_;refine wsr fun K47 hK47=>?_;refine sd ha 1 [36] [(42,.slice ao29 t28.1.length cap29)] fun a ha=>?_;have fz:=f29.toRSl (M':=blkL ao20++([g13]++([g8]++([g4]++(M))))) (fun _ h=>.inl (mr (h))) (fun x hx hm=>(List.mem_append.1 hm).elim (fun h=>p_i29_i20 x hx h) (fun h=>(List.mem_append.1 h).elim (fun h=>p_i29_i14 x hx h) (fun h=>(List.mem_append.1 h).elim (fun h=>p_i29_i10 x hx h) (fun h=>(List.mem_append.1 h).elim (fun h=>p_i29_i6 x hx h) (fun h=>p_i29_M x hx h)))));have hM:MS (blkL ao20++([g13]++([g8]++([g4]++(M))))) w32:=hM.sb fun _ h=>mr (h);have f29:=fz;obtain ⟨t48,H48,H⟩:=bind_some H;refine cL ha (attr_Read.walk w32 _ hM t28.1 ao29 cap29 f29 k _ H48) ?_;rintro _ w48 ⟨ao49,cap49,ao50,cap50,ao51,cap51,ao52,cap52,ao53,cap53,rfl,f49,f50,f51,f52,f53,hc48,hMn⟩ a ha;have hBg4:=hBg4.c0 hc48;have hBg8:=hBg8.c0 hc48;have hM:=hM.chg hc48;have hC:=hC.t0 hc48;refine sd ha 4 [42] [(44,.agg (cS_api_Attrs t48.1 ao49 cap49 ao50 cap50 ao51 cap51 ao52 cap52).toArray),(45,.slice ao53 t48.2.1.length cap53),(46,.int .i64 t48.2.2)] fun a ha=>?_;refine alE (cS_api_Attrs (⟨(0:Int),([]:List S_api_Segment),(0:Int),(0:Int),(⟨(0:Int),(List.replicate 16 (0:Int))⟩:S_api_Addr),([]:List S_api_Addr),([]:List (List Int)),([]:List S_api_Tunnel)⟩:S_api_Attrs) none 0 none 0 none 0 none 0) ha fun a w54 g55 hN56 ha=>?_;have o1:=oN (blkL ao20++([g13]++([g8]++([g4]++(M))))) w48;have o2:=oA hN56 (blkL ao20++([g13]++([g8]++([g4]++(M)))));have f49:=f49.chg hN56.chg o1 o2;have f50:=f50.chg hN56.chg o1 o2;have f51:=f51.chg hN56.chg o1 o2;have f52:=f52.chg hN56.chg o1 o2;have f53:=f53.chg hN56.chg o1 o2;have hBg4:=hBg4.c0 hN56.chg;have hBg8:=hBg8.c0 hN56.chg;have p_i57_i10:=pn (B:=[g8]) hM (hN56.ge1) fun _ hy=>mr (mr (ml hy));have p_i57_i6:=pn (B:=[g4]) hM (hN56.ge1) fun _ hy=>mr (mr (mr (ml hy)));have e_i57:=eN hC (hN56.ge1);have hM:=MS.app hN56.ms (hM.chg hN56.chg);have hC:=hC.t0 hN56.chg;have hBg55:=hN56.box;refine stE (cS_api_Attrs t48.1 ao49 cap49 ao50 cap50 ao51 cap51 ao52 cap52) ha hBg55 fun a w58 ha hBg55 hc59 _=>?_;have o1:Ok [g55] ([g55]++(blkL ao20++([g13]++([g8]++([g4]++(M)))))) w54.heap.size:=(fun _ h=>.inl (ml h))
  have o2:=oR ([g55]++(blkL ao20++([g13]++([g8]++([g4]++(M)))))) w54;have f49:=f49.chg hc59 o1 o2;have f50:=f50.chg hc59 o1 o2;have f51:=f51.chg hc59 o1 o2;have f52:=f52.chg hc59 o1 o2;have f53:=f53.chg hc59 o1 o2;have hBg4:=hBg4.chg hc59 ((fun x (hx:x∈[g4]) (hy:x∈[g55])=>p_i57_i6 x hy hx) g4 (by simp));have hBg8:=hBg8.chg hc59 ((fun x (hx:x∈[g8]) (hy:x∈[g55])=>p_i57_i10 x hy hx) g8 (by simp));have hM:=hM.chg hc59;have hC:=hC.t1 hc59 e_i57;refine sd ha 2 [44,45,46] [(8,pt g55 0),(9,.slice ao53 t48.2.1.length cap53),(10,.int .i64 t48.2.2)] fun a ha=>?_;refine hK47 _ _ ?_;refine wp_seq_k fun K60 hK60=>?_;refine sqd ha 2 [] [(48,.bool (t48.2.2==(3:Int)))] fun a ha=>?_;refine cnH H ha (fun hc62 H=>?_) (fun hc62 H=>?_)
  ·exact nomatch (show none=some _ from H)
  ·refine wp_skip ?_;refine hK60 _ _ ?_;refine wsr fun K63 hK63=>?_;obtain ⟨t64,H64,H⟩:=bind_some H;refine cL ha (update_Empty.walk w58 _ hM  _ H64) ?_;rintro _ w64 ⟨ao65,cap65,ao66,cap66,ao67,cap67,ao68,cap68,ao69,cap69,ao70,cap70,rfl,f65,f66,f67,f68,f69,f70,hc64,hMn⟩ a ha;have o1:=oN ([g55]++(blkL ao20++([g13]++([g8]++([g4]++(M)))))) w58;have o2:=oR ([g55]++(blkL ao20++([g13]++([g8]++([g4]++(M)))))) w58;have f53:=f53.chg hc64 o1 o2;have f49:=f49.chg hc64 o1 o2;have f50:=f50.chg hc64 o1 o2;have f51:=f51.chg hc64 o1 o2;have f52:=f52.chg hc64 o1 o2;have hBg4:=hBg4.c0 hc64;have hBg8:=hBg8.c0 hc64;have hBg55:=hBg55.c0 hc64;have hM:=hM.chg hc64;have hC:=hC.t0 hc64;refine alE (cS_api_Update (⟨(⟨(0:Int),([]:List S_api_Segment),(0:Int),(0:Int),(⟨(0:Int),(List.replicate 16 (0:Int))⟩:S_api_Addr),([]:List S_api_Addr),([]:List (List Int)),([]:List S_api_Tunnel)⟩:S_api_Attrs),([]:List S_api_Table),([]:List S_api_Table)⟩:S_api_Update) none 0 none 0 none 0 none 0 none 0 none 0) ha fun a w71 g72 hN73 ha=>?_;have o1:=oN ([g55]++(blkL ao20++([g13]++([g8]++([g4]++(M)))))) w64;have o2:=oA hN73 ([g55]++(blkL ao20++([g13]++([g8]++([g4]++(M))))));have f53:=f53.chg hN73.chg o1 o2;have f65:=f65.chg hN73.chg o1 o2;have f66:=f66.chg hN73.chg o1 o2;have f67:=f67.chg hN73.chg o1 o2;have f68:=f68.chg hN73.chg o1 o2;have f69:=f69.chg hN73.chg o1 o2;have f70:=f70.chg hN73.chg o1 o2;have f49:=f49.chg hN73.chg o1 o2;have f50:=f50.chg hN73.chg o1 o2;have f51:=f51.chg hN73.chg o1 o2;have f52:=f52.chg hN73.chg o1 o2;have hBg4:=hBg4.c0 hN73.chg;have hBg8:=hBg8.c0 hN73.chg;have hBg55:=hBg55.c0 hN73.chg;have p_i74_i57:=pn (B:=[g55]) hM (hN73.ge1) fun _ hy=>ml hy;have p_i74_i10:=pn (B:=[g8]) hM (hN73.ge1) fun _ hy=>mr (mr (mr (ml hy)));have p_i74_i6:=pn (B:=[g4]) hM (hN73.ge1) fun _ hy=>mr (mr (mr (mr (ml hy))));have e_i74:=eN hC (hN73.ge1);have hM:=MS.app hN73.ms (hM.chg hN73.chg);have hC:=hC.t0 hN73.chg;have hBg72:=hN73.box;refine stE (cS_api_Update t64 ao65 cap65 ao66 cap66 ao67 cap67 ao68 cap68 ao69 cap69 ao70 cap70) ha hBg72 fun a w75 ha hBg72 hc76 _=>?_;have o1:Ok [g72] ([g72]++([g55]++(blkL ao20++([g13]++([g8]++([g4]++(M))))))) w71.heap.size:=(fun _ h=>.inl (ml h))
   have o2:=oR ([g72]++([g55]++(blkL ao20++([g13]++([g8]++([g4]++(M))))))) w71;have f53:=f53.chg hc76 o1 o2;have f65:=f65.chg hc76 o1 o2;have f66:=f66.chg hc76 o1 o2;have f67:=f67.chg hc76 o1 o2;have f68:=f68.chg hc76 o1 o2;have f69:=f69.chg hc76 o1 o2;have f70:=f70.chg hc76 o1 o2;have f49:=f49.chg hc76 o1 o2;have f50:=f50.chg hc76 o1 o2;have f51:=f51.chg hc76 o1 o2;have f52:=f52.chg hc76 o1 o2;have hBg4:=hBg4.chg hc76 ((fun x (hx:x∈[g4]) (hy:x∈[g72])=>p_i74_i6 x hy hx) g4 (by simp));have hBg8:=hBg8.chg hc76 ((fun x (hx:x∈[g8]) (hy:x∈[g72])=>p_i74_i10 x hy hx) g8 (by simp));have hBg55:=hBg55.chg hc76 ((fun x (hx:x∈[g55]) (hy:x∈[g72])=>p_i74_i57 x hy hx) g55 (by simp));have hM:=hM.chg hc76;have hC:=hC.t1 hc76 e_i74;refine hK63 _ _ ?_;refine wsr fun K77 hK77=>?_;refine sd ha 1 [6,9,48] [(11,pt g72 0),(57,.slice ao53 t48.2.1.length cap53)] fun a ha=>?_;obtain ⟨t78,H78,H⟩:=bind_some H;refine cL ha (update_tables.walk w75 _ hM g72 t64 ao65 cap65 f65 ao66 cap66 f66 ao67 cap67 f67 ao68 cap68 f68 ao69 cap69 f69 ao70 cap70 f70 hBg72 (ml (List.mem_singleton.2 rfl)) t48.2.1 ao53 cap53 f53 k _ H78) ?_;rintro _ w78 ⟨ao79,cap79,ao80,cap80,ao81,cap81,ao82,cap82,ao83,cap83,ao84,cap84,rfl,f79,f80,f81,f82,f83,f84,qhBg72,hc78,hMn⟩ a ha;have o1:Ok [g72] ([g72]++([g55]++(blkL ao20++([g13]++([g8]++([g4]++(M))))))) w75.heap.size:=(fun _ h=>.inl (ml h))
   have o2:=oR ([g72]++([g55]++(blkL ao20++([g13]++([g8]++([g4]++(M))))))) w75;have f49:=f49.chg hc78 o1 o2;have f50:=f50.chg hc78 o1 o2;have f51:=f51.chg hc78 o1 o2;have f52:=f52.chg hc78 o1 o2;have hBg4:=hBg4.chg hc78 ((fun x (hx:x∈[g4]) (hy:x∈[g72])=>p_i74_i6 x hy hx) g4 (by simp));have hBg8:=hBg8.chg hc78 ((fun x (hx:x∈[g8]) (hy:x∈[g72])=>p_i74_i10 x hy hx) g8 (by simp));have hBg55:=hBg55.chg hc78 ((fun x (hx:x∈[g55]) (hy:x∈[g72])=>p_i74_i57 x hy hx) g55 (by simp));have hM:=hM.chg hc78;have hC:=hC.t1 hc78 e_i74;have hBg72:=qhBg72;refine sd ha 5 [57] [(12,.int .i64 t78.1),(13,.bool t78.2.1)] fun a ha=>?_;refine hK77 _ _ ?_;refine wp_seq_k fun K85 hK85=>?_;refine sqd ha 2 [13] [(62,.bool (!t78.2.1))] fun a ha=>?_;refine cnH H ha (fun hc87 H=>?_) (fun hc87 H=>?_)
   ·refine wsr fun K88 hK88=>?_;obtain ⟨t89,H89,H⟩:=bind_some H;refine cL ha (update_reset.walk w78 _ hM (9:Int) _ H89) ?_;rintro _ w89 ⟨ao90,cap90,ao91,cap91,ao92,cap92,ao93,cap93,ao94,cap94,ao95,cap95,ao96,cap96,rfl,f90,f91,f92,f93,f94,f95,f96,ne_i96,hc89,hMn⟩ a ha;have o1:=oN ([g72]++([g55]++(blkL ao20++([g13]++([g8]++([g4]++(M))))))) w78;have o2:Ok (blkL ao96++([g72]++([g55]++(blkL ao20++([g13]++([g8]++([g4]++(M)))))))) ([g72]++([g55]++(blkL ao20++([g13]++([g8]++([g4]++(M))))))) w78.heap.size:=(Ok.app (fun x h=>.inr (ne_i96 x h)) (Ok.refl _ _))
    have f49:=f49.chg hc89 o1 o2;have f50:=f50.chg hc89 o1 o2;have f51:=f51.chg hc89 o1 o2;have f52:=f52.chg hc89 o1 o2;have f79:=f79.chg hc89 o1 o2;have f80:=f80.chg hc89 o1 o2;have f81:=f81.chg hc89 o1 o2;have f82:=f82.chg hc89 o1 o2;have f83:=f83.chg hc89 o1 o2;have f84:=f84.chg hc89 o1 o2;have hBg4:=hBg4.c0 hc89;have hBg8:=hBg8.c0 hc89;have hBg55:=hBg55.c0 hc89;have hBg72:=hBg72.c0 hc89;have p_i96_i10:=pn (B:=[g8]) hM ne_i96 fun _ hy=>mr (mr (mr (mr (ml hy))));have p_i96_i6:=pn (B:=[g4]) hM ne_i96 fun _ hy=>mr (mr (mr (mr (mr (ml hy)))));have e_i96:=eN hC ne_i96;have hM:MS (blkL ao96++([g72]++([g55]++(blkL ao20++([g13]++([g8]++([g4]++(M)))))))) w89:=(MS.app (fun x h=>hMn x (ml h)) (hM.chg hc89))
    have hC:=hC.t0 hc89;refine sd ha 3 [8,10,11,12,62] [(64,.agg (cS_api_Update t89.1 ao90 cap90 ao91 cap91 ao92 cap92 ao93 cap93 ao94 cap94 ao95 cap95).toArray),(65,.int .i64 t89.2.1),(66,.agg (cS_api_Note t89.2.2 ao96 cap96).toArray)] fun a ha=>?_;refine stE (cS_api_Update t89.1 ao90 cap90 ao91 cap91 ao92 cap92 ao93 cap93 ao94 cap94 ao95 cap95) ha hBg4 fun a w97 ha hBg4 hc98 _=>?_;have o1:Ok [g4] (blkL ao96++([g72]++([g55]++(blkL ao20++([g13]++([g8]++([g4]++(M)))))))) w89.heap.size:=(fun _ h=>.inl (mr (mr (mr (mr (mr (mr (ml h))))))))
    have o2:=oR (blkL ao96++([g72]++([g55]++(blkL ao20++([g13]++([g8]++([g4]++(M)))))))) w89;have f90:=f90.chg hc98 o1 o2;have f91:=f91.chg hc98 o1 o2;have f92:=f92.chg hc98 o1 o2;have f93:=f93.chg hc98 o1 o2;have f94:=f94.chg hc98 o1 o2;have f95:=f95.chg hc98 o1 o2;have f96:=f96.chg hc98 o1 o2 p_i96_i6 (fun _ h=>ml h);have f49:=f49.chg hc98 o1 o2;have f50:=f50.chg hc98 o1 o2;have f51:=f51.chg hc98 o1 o2;have f52:=f52.chg hc98 o1 o2;have f79:=f79.chg hc98 o1 o2;have f80:=f80.chg hc98 o1 o2;have f81:=f81.chg hc98 o1 o2;have f82:=f82.chg hc98 o1 o2;have f83:=f83.chg hc98 o1 o2;have f84:=f84.chg hc98 o1 o2;have hBg8:=hBg8.chg hc98 (p_i10_i6 g8 (by simp));have hBg55:=hBg55.chg hc98 (p_i57_i6 g55 (by simp));have hBg72:=hBg72.chg hc98 (p_i74_i6 g72 (by simp));have hM:=hM.chg hc98;have hC:=hC.t1 hc98 e_i6;refine sd ha 1 [64,65] [(3,.int .i64 t89.2.1)] fun a ha=>?_;refine stE (cS_api_Note t89.2.2 ao96 cap96) ha hBg8 fun a w99 ha hBg8 hc100 _=>?_;have o1:Ok [g8] (blkL ao96++([g72]++([g55]++(blkL ao20++([g13]++([g8]++([g4]++(M)))))))) w97.heap.size:=(fun _ h=>.inl (mr (mr (mr (mr (mr (ml h)))))))
    have o2:=oR (blkL ao96++([g72]++([g55]++(blkL ao20++([g13]++([g8]++([g4]++(M)))))))) w97;have f96:=f96.chg hc100 o1 o2 p_i96_i10 (fun _ h=>ml h);have f90:=f90.chg hc100 o1 o2;have f91:=f91.chg hc100 o1 o2;have f92:=f92.chg hc100 o1 o2;have f93:=f93.chg hc100 o1 o2;have f94:=f94.chg hc100 o1 o2;have f95:=f95.chg hc100 o1 o2;have f49:=f49.chg hc100 o1 o2;have f50:=f50.chg hc100 o1 o2;have f51:=f51.chg hc100 o1 o2;have f52:=f52.chg hc100 o1 o2;have f79:=f79.chg hc100 o1 o2;have f80:=f80.chg hc100 o1 o2;have f81:=f81.chg hc100 o1 o2;have f82:=f82.chg hc100 o1 o2;have f83:=f83.chg hc100 o1 o2;have f84:=f84.chg hc100 o1 o2;have hBg4:=hBg4.chg hc100 ((fun x (hx:x∈[g4]) (hy:x∈[g8])=>p_i10_i6 x hy hx) g4 (by simp));have hBg55:=hBg55.chg hc100 (p_i57_i10 g55 (by simp));have hBg72:=hBg72.chg hc100 (p_i74_i10 g72 (by simp));have hM:=hM.chg hc100;have hC:=hC.t1 hc100 e_i10;refine hK88 _ _ ?_;refine wrt ?_;have o1:=oN (blkL ao96++([g72]++([g55]++(blkL ao20++([g13]++([g8]++([g4]++(M)))))))) w99;have o2:Ok (blkL ao96++(M)) (blkL ao96++([g72]++([g55]++(blkL ao20++([g13]++([g8]++([g4]++(M)))))))) w99.heap.size:=(Ok.app (fun _ h=>.inl (ml h)) (fun _ h=>.inl (mr (mr (mr (mr (mr (mr (mr (h))))))))))
    have f90:=f90.chg (Chg.refl [] _) o1 o2;have f91:=f91.chg (Chg.refl [] _) o1 o2;have f92:=f92.chg (Chg.refl [] _) o1 o2;have f93:=f93.chg (Chg.refl [] _) o1 o2;have f94:=f94.chg (Chg.refl [] _) o1 o2;have f95:=f95.chg (Chg.refl [] _) o1 o2;have f96:=f96.chg (Chg.refl [] _) o1 o2 (fun _ _ h=>nomatch h) (fun _ h=>ml h);have f49:=f49.chg (Chg.refl [] _) o1 o2;have f50:=f50.chg (Chg.refl [] _) o1 o2;have f51:=f51.chg (Chg.refl [] _) o1 o2;have f52:=f52.chg (Chg.refl [] _) o1 o2;have f79:=f79.chg (Chg.refl [] _) o1 o2;have f80:=f80.chg (Chg.refl [] _) o1 o2;have f81:=f81.chg (Chg.refl [] _) o1 o2;have f82:=f82.chg (Chg.refl [] _) o1 o2;have f83:=f83.chg (Chg.refl [] _) o1 o2;have f84:=f84.chg (Chg.refl [] _) o1 o2;have hM:MS (blkL ao96++(M)) w99:=(MS.app (fun x h=>hM.chg (Chg.refl [] _) x (ml h)) (fun x h=>hM.chg (Chg.refl [] _) x (mr (mr (mr (mr (mr (mr (mr (h))))))))))
    obtain rfl:=oj H;refine rtr ha (res3 rfl (roA ha rfl hBg4 (by kernel_rfl)) (roT ha rfl) (roA ha rfl hBg8 (by kernel_rfl))) ?_;exact ⟨ao90,cap90,ao91,cap91,ao92,cap92,ao93,cap93,ao94,cap94,ao95,cap95,ao96,cap96,rfl,f90,f91,f92,f93,f94,f95,f96,e_i96,hC,hM⟩
   ·refine wp_skip ?_;refine hK85 _ _ ?_;refine wsr fun K101 hK101=>?_;refine sd ha 2 [10,12,62] [(67,.int .i64 t48.2.2),(68,.int .i64 t78.1)] fun a ha=>?_;refine oP (.int .i64 (if t78.1 > t48.2.2 then t78.1 else t48.2.2)) ha fun a ha=>?_;refine sd ha 1 [67,68] [(10,.int .i64 (if t78.1 > t48.2.2 then t78.1 else t48.2.2))] fun a ha=>?_;refine hK101 _ _ ?_;refine wp_seq_k fun K102 hK102=>?_;refine wp_block ?_;refine wsr fun K103 hK103=>?_;refine sd ha 1 [] [(73,pt g72 24)] fun a ha=>?_;refine ld (v:=.slice ao83 t78.2.2.Reach.length cap83) ha rfl (by kernel_rfl) rfl rfl rfl (hBg72.cell' (o:=24) rfl (by kernel_rfl)) fun a ha=>?_;refine sd ha 3 [73] [(72,.bool ((t78.2.2.Reach.length:Int)==(0:Int)))] fun a ha=>?_;refine hK103 _ _ ?_;refine cnH H ha (fun hc104 H=>?_) (fun hc104 H=>?_)
    ·refine wp_skip ?_;refine hK102 _ _ ?_;refine wsr fun K105 hK105=>?_;refine ldE (Box.cells hBg72) ha fun a ha=>?_;refine sd ha 1 [8,10,11,72] [(93,.agg (cS_api_Update t78.2.2 ao79 cap79 ao80 cap80 ao81 cap81 ao82 cap82 ao83 cap83 ao84 cap84).toArray),(94,.int .i64 (if t78.1 > t48.2.2 then t78.1 else t48.2.2))] fun a ha=>?_;refine oP (.agg (cS_api_Note (⟨(0:Int),(0:Int),([]:List Int)⟩:S_api_Note) none 0).toArray) ha fun a ha=>?_;refine stE (cS_api_Update t78.2.2 ao79 cap79 ao80 cap80 ao81 cap81 ao82 cap82 ao83 cap83 ao84 cap84) ha hBg4 fun a w106 ha hBg4 hc107 _=>?_;have o1:Ok [g4] ([g72]++([g55]++(blkL ao20++([g13]++([g8]++([g4]++(M))))))) w78.heap.size:=(fun _ h=>.inl (mr (mr (mr (mr (mr (ml h)))))))
     have o2:=oR ([g72]++([g55]++(blkL ao20++([g13]++([g8]++([g4]++(M))))))) w78;have f79:=f79.chg hc107 o1 o2;have f80:=f80.chg hc107 o1 o2;have f81:=f81.chg hc107 o1 o2;have f82:=f82.chg hc107 o1 o2;have f83:=f83.chg hc107 o1 o2;have f84:=f84.chg hc107 o1 o2;have f49:=f49.chg hc107 o1 o2;have f50:=f50.chg hc107 o1 o2;have f51:=f51.chg hc107 o1 o2;have f52:=f52.chg hc107 o1 o2;have hBg8:=hBg8.chg hc107 (p_i10_i6 g8 (by simp));have hBg55:=hBg55.chg hc107 (p_i57_i6 g55 (by simp));have hBg72:=hBg72.chg hc107 (p_i74_i6 g72 (by simp));have hM:=hM.chg hc107;have hC:=hC.t1 hc107 e_i6;refine sd ha 1 [93,94] [(3,.int .i64 (if t78.1 > t48.2.2 then t78.1 else t48.2.2)),(95,.agg (cS_api_Note (⟨(0:Int),(0:Int),([]:List Int)⟩:S_api_Note) none 0).toArray)] fun a ha=>?_;refine stE (cS_api_Note (⟨(0:Int),(0:Int),([]:List Int)⟩:S_api_Note) none 0) ha hBg8 fun a w108 ha hBg8 hc109 _=>?_;have o1:Ok [g8] ([g72]++([g55]++(blkL ao20++([g13]++([g8]++([g4]++(M))))))) w106.heap.size:=(fun _ h=>.inl (mr (mr (mr (mr (ml h))))))
     have o2:=oR ([g72]++([g55]++(blkL ao20++([g13]++([g8]++([g4]++(M))))))) w106;have f79:=f79.chg hc109 o1 o2;have f80:=f80.chg hc109 o1 o2;have f81:=f81.chg hc109 o1 o2;have f82:=f82.chg hc109 o1 o2;have f83:=f83.chg hc109 o1 o2;have f84:=f84.chg hc109 o1 o2;have f49:=f49.chg hc109 o1 o2;have f50:=f50.chg hc109 o1 o2;have f51:=f51.chg hc109 o1 o2;have f52:=f52.chg hc109 o1 o2;have hBg4:=hBg4.chg hc109 ((fun x (hx:x∈[g4]) (hy:x∈[g8])=>p_i10_i6 x hy hx) g4 (by simp));have hBg55:=hBg55.chg hc109 (p_i57_i10 g55 (by simp));have hBg72:=hBg72.chg hc109 (p_i74_i10 g72 (by simp));have hM:=hM.chg hc109;have hC:=hC.t1 hc109 e_i10;refine hK105 _ _ ?_;refine wrt ?_;have o1:=oN ([g72]++([g55]++(blkL ao20++([g13]++([g8]++([g4]++(M))))))) w108;have o2:Ok (blkL none++(M)) ([g72]++([g55]++(blkL ao20++([g13]++([g8]++([g4]++(M))))))) w108.heap.size:=(Ok.app (fun _ h=>nomatch h) (fun _ h=>.inl (mr (mr (mr (mr (mr (mr (h)))))))))
     have f79:=f79.chg (Chg.refl [] _) o1 o2;have f80:=f80.chg (Chg.refl [] _) o1 o2;have f81:=f81.chg (Chg.refl [] _) o1 o2;have f82:=f82.chg (Chg.refl [] _) o1 o2;have f83:=f83.chg (Chg.refl [] _) o1 o2;have f84:=f84.chg (Chg.refl [] _) o1 o2;have f49:=f49.chg (Chg.refl [] _) o1 o2;have f50:=f50.chg (Chg.refl [] _) o1 o2;have f51:=f51.chg (Chg.refl [] _) o1 o2;have f52:=f52.chg (Chg.refl [] _) o1 o2;have e_z110:∀ x∈blkL none,w.heap.size≤x:=fun x hx=>Nat.le_trans hC.size ((fun _ h=>nomatch h) x hx);have hM:MS (blkL none++(M)) w108:=(MS.app (fun _ h=>nomatch h) (fun x h=>hM.chg (Chg.refl [] _) x (mr (mr (mr (mr (mr (mr (h)))))))))
     obtain rfl:=oj H;refine rtr ha (res3 rfl (roA ha rfl hBg4 (by kernel_rfl)) (roT ha rfl) (roA ha rfl hBg8 (by kernel_rfl))) ?_;exact ⟨ao79,cap79,ao80,cap80,ao81,cap81,ao82,cap82,ao83,cap83,ao84,cap84,none,0,rfl,f79,f80,f81,f82,f83,f84,Own.nil,e_z110,hC,hM⟩
    ·refine sqd ha 3 [72] [(77,.bool ((if t78.1 > t48.2.2 then t78.1 else t48.2.2)==(2:Int)))] fun a ha=>?_;refine cnH H ha (fun hc112 H=>?_) (fun hc112 H=>?_)
     ·refine wsr fun K113 hK113=>?_;refine sd ha 1 [8,77] [(80,pt g72 24)] fun a ha=>?_;refine ld (v:=.slice ao83 t78.2.2.Reach.length cap83) ha rfl (by kernel_rfl) rfl rfl rfl (hBg72.cell' (o:=24) rfl (by kernel_rfl)) fun a ha=>?_;obtain ⟨⟨hx114,hx114'⟩,H⟩:=ite_some H;refine ix (r:=rS_api_Table) ha (by kernel_rfl) (by kernel_rfl) rfl rfl rfl rfl rfl f83 hx114 hx114' fun a ge115 oe116 cs117 hn120 hR118 hE119 ha=>?_;rw [rd_get] at hR118;obtain ⟨ao121,cap121,ao122,cap122,rfl,f121,f122⟩:=rS_api_Table.open hR118;refine ldE hE119 ha fun a ha=>?_;refine alE (cS_api_Table (⟨(0:Int),(0:Int),(⟨(0:Int),(List.replicate 16 (0:Int))⟩:S_api_Addr),([]:List S_api_Mroute),([]:List S_api_Uroute)⟩:S_api_Table) none 0 none 0) ha fun a w123 g124 hN125 ha=>?_;have o1:=oN ([g72]++([g55]++(blkL ao20++([g13]++([g8]++([g4]++(M))))))) w78;have o2:=oA hN125 ([g72]++([g55]++(blkL ao20++([g13]++([g8]++([g4]++(M)))))));have f121:=f121.chg hN125.chg o1 o2;have f122:=f122.chg hN125.chg o1 o2;have f49:=f49.chg hN125.chg o1 o2;have f50:=f50.chg hN125.chg o1 o2;have f51:=f51.chg hN125.chg o1 o2;have f52:=f52.chg hN125.chg o1 o2;have f79:=f79.chg hN125.chg o1 o2;have f80:=f80.chg hN125.chg o1 o2;have f81:=f81.chg hN125.chg o1 o2;have f82:=f82.chg hN125.chg o1 o2;have f83:=f83.chg hN125.chg o1 o2;have f84:=f84.chg hN125.chg o1 o2;have hBg4:=hBg4.c0 hN125.chg;have hBg8:=hBg8.c0 hN125.chg;have hBg55:=hBg55.c0 hN125.chg;have hBg72:=hBg72.c0 hN125.chg;have p_i126_i74:=pn (B:=[g72]) hM (hN125.ge1) fun _ hy=>ml hy;have p_i126_i57:=pn (B:=[g55]) hM (hN125.ge1) fun _ hy=>mr (ml hy);have p_i126_i10:=pn (B:=[g8]) hM (hN125.ge1) fun _ hy=>mr (mr (mr (mr (ml hy))));have p_i126_i6:=pn (B:=[g4]) hM (hN125.ge1) fun _ hy=>mr (mr (mr (mr (mr (ml hy)))));have e_i126:=eN hC (hN125.ge1);have hM:=MS.app hN125.ms (hM.chg hN125.chg);have hC:=hC.t0 hN125.chg;have hBg124:=hN125.box;refine stE (cS_api_Table (rd t78.2.2.Reach (0:Int)) ao121 cap121 ao122 cap122) ha hBg124 fun a w127 ha hBg124 hc128 _=>?_;have o1:Ok [g124] ([g124]++([g72]++([g55]++(blkL ao20++([g13]++([g8]++([g4]++(M)))))))) w123.heap.size:=(fun _ h=>.inl (ml h))
      have o2:=oR ([g124]++([g72]++([g55]++(blkL ao20++([g13]++([g8]++([g4]++(M)))))))) w123;have f121:=f121.chg hc128 o1 o2;have f122:=f122.chg hc128 o1 o2;have f49:=f49.chg hc128 o1 o2;have f50:=f50.chg hc128 o1 o2;have f51:=f51.chg hc128 o1 o2;have f52:=f52.chg hc128 o1 o2;have f79:=f79.chg hc128 o1 o2;have f80:=f80.chg hc128 o1 o2;have f81:=f81.chg hc128 o1 o2;have f82:=f82.chg hc128 o1 o2;have f83:=f83.chg hc128 o1 o2;have f84:=f84.chg hc128 o1 o2;have hBg4:=hBg4.chg hc128 ((fun x (hx:x∈[g4]) (hy:x∈[g124])=>p_i126_i6 x hy hx) g4 (by simp));have hBg8:=hBg8.chg hc128 ((fun x (hx:x∈[g8]) (hy:x∈[g124])=>p_i126_i10 x hy hx) g8 (by simp));have hBg55:=hBg55.chg hc128 ((fun x (hx:x∈[g55]) (hy:x∈[g124])=>p_i126_i57 x hy hx) g55 (by simp));have hBg72:=hBg72.chg hc128 ((fun x (hx:x∈[g72]) (hy:x∈[g124])=>p_i126_i74 x hy hx) g72 (by simp));have hM:=hM.chg hc128;have hC:=hC.t1 hc128 e_i126;refine hK113 _ _ ?_;refine wsr fun K129 hK129=>?_;refine oP (.agg (cS_api_Addr (⟨(0:Int),(List.replicate 16 (0:Int))⟩:S_api_Addr)).toArray) ha fun a ha=>?_;refine sd ha 1 [80] [(14,pt g124 0),(84,.agg (cS_api_Addr (⟨(0:Int),(List.replicate 16 (0:Int))⟩:S_api_Addr)).toArray),(85,pt g124 2)] fun a ha=>?_;refine stA (l:=(cS_api_Addr (⟨(0:Int),(List.replicate 16 (0:Int))⟩:S_api_Addr))) ha rfl rfl rfl (by kernel_rfl) rfl rfl hBg124 rfl fun a w130 ha hb2 hc131 _=>?_;have o1:Ok [g124] ([g124]++([g72]++([g55]++(blkL ao20++([g13]++([g8]++([g4]++(M)))))))) w127.heap.size:=(fun _ h=>.inl (ml h))
      have o2:=oR ([g124]++([g72]++([g55]++(blkL ao20++([g13]++([g8]++([g4]++(M)))))))) w127;have f49:=f49.chg hc131 o1 o2;have f50:=f50.chg hc131 o1 o2;have f51:=f51.chg hc131 o1 o2;have f52:=f52.chg hc131 o1 o2;have f79:=f79.chg hc131 o1 o2;have f80:=f80.chg hc131 o1 o2;have f81:=f81.chg hc131 o1 o2;have f82:=f82.chg hc131 o1 o2;have f83:=f83.chg hc131 o1 o2;have f84:=f84.chg hc131 o1 o2;have f121:=f121.chg hc131 o1 o2;have f122:=f122.chg hc131 o1 o2;have hBg4:=hBg4.chg hc131 ((fun x (hx:x∈[g4]) (hy:x∈[g124])=>p_i126_i6 x hy hx) g4 (by simp));have hBg8:=hBg8.chg hc131 ((fun x (hx:x∈[g8]) (hy:x∈[g124])=>p_i126_i10 x hy hx) g8 (by simp));have hBg55:=hBg55.chg hc131 ((fun x (hx:x∈[g55]) (hy:x∈[g124])=>p_i126_i57 x hy hx) g55 (by simp));have hBg72:=hBg72.chg hc131 ((fun x (hx:x∈[g72]) (hy:x∈[g124])=>p_i126_i74 x hy hx) g72 (by simp));have hM:=hM.chg hc131;have hC:=hC.t1 hc131 e_i126;have hBg124:Box w130 g124 (cS_api_Table (⟨(rd t78.2.2.Reach (0:Int)).Size,(rd t78.2.2.Reach (0:Int)).Safi,(⟨(0:Int),(List.replicate 16 (0:Int))⟩:S_api_Addr),(rd t78.2.2.Reach (0:Int)).M,(rd t78.2.2.Reach (0:Int)).U⟩:S_api_Table) ao121 cap121 ao122 cap122):=hb2;refine hK129 _ _ ?_;refine wp_region_lit ?_;refine ldE (Box.cells hBg124) ha fun a ha=>?_;refine bslA (vals:=([.agg (cS_api_Table (⟨(rd t78.2.2.Reach (0:Int)).Size,(rd t78.2.2.Reach (0:Int)).Safi,(⟨(0:Int),(List.replicate 16 (0:Int))⟩:S_api_Addr),(rd t78.2.2.Reach (0:Int)).M,(rd t78.2.2.Reach (0:Int)).U⟩:S_api_Table) ao121 cap121 ao122 cap122).toArray]:List Value)) (T:=55) (z:=.agg (cS_api_Table (⟨(0:Int),(0:Int),(⟨(0:Int),(List.replicate 16 (0:Int))⟩:S_api_Addr),([]:List S_api_Mroute),([]:List S_api_Uroute)⟩:S_api_Table) none 0 none 0).toArray) ha rfl (by kernel_rfl) rfl (by kernel_rfl) (s:=21) (by kernel_rfl) rfl rfl (fun w=>by kernel_rfl) (by kernel_rfl) rfl rfl rfl fun a w132 g133 hN134 ha=>?_;have hN134:=(show New _ _ _ (.cells (((cS_api_Table (⟨(rd t78.2.2.Reach (0:Int)).Size,(rd t78.2.2.Reach (0:Int)).Safi,(⟨(0:Int),(List.replicate 16 (0:Int))⟩:S_api_Addr),(rd t78.2.2.Reach (0:Int)).M,(rd t78.2.2.Reach (0:Int)).U⟩:S_api_Table) ao121 cap121 ao122 cap122)++([]:List Value))).toArray 55 (0,0)) from hN134)
      have o1:=oN ([g124]++([g72]++([g55]++(blkL ao20++([g13]++([g8]++([g4]++(M)))))))) w130;have o2:=oA hN134 ([g124]++([g72]++([g55]++(blkL ao20++([g13]++([g8]++([g4]++(M))))))));have f121:=f121.chg hN134.chg o1 o2;have f122:=f122.chg hN134.chg o1 o2;have f49:=f49.chg hN134.chg o1 o2;have f50:=f50.chg hN134.chg o1 o2;have f51:=f51.chg hN134.chg o1 o2;have f52:=f52.chg hN134.chg o1 o2;have f79:=f79.chg hN134.chg o1 o2;have f80:=f80.chg hN134.chg o1 o2;have f81:=f81.chg hN134.chg o1 o2;have f82:=f82.chg hN134.chg o1 o2;have f83:=f83.chg hN134.chg o1 o2;have f84:=f84.chg hN134.chg o1 o2;have hBg4:=hBg4.c0 hN134.chg;have hBg8:=hBg8.c0 hN134.chg;have hBg55:=hBg55.c0 hN134.chg;have hBg72:=hBg72.c0 hN134.chg;have p_i135_i126:=pn (B:=[g124]) hM (hN134.ge1) fun _ hy=>ml hy;have p_i135_i74:=pn (B:=[g72]) hM (hN134.ge1) fun _ hy=>mr (ml hy);have p_i135_i57:=pn (B:=[g55]) hM (hN134.ge1) fun _ hy=>mr (mr (ml hy));have p_i135_i20:=pn (B:=(blkL ao20)) hM (hN134.ge1) fun _ hy=>mr (mr (mr (ml hy)));have p_i135_i14:=pn (B:=[g13]) hM (hN134.ge1) fun _ hy=>mr (mr (mr (mr (ml hy))));have p_i135_i10:=pn (B:=[g8]) hM (hN134.ge1) fun _ hy=>mr (mr (mr (mr (mr (ml hy)))));have p_i135_i6:=pn (B:=[g4]) hM (hN134.ge1) fun _ hy=>mr (mr (mr (mr (mr (mr (ml hy))))));have p_i135_M:=pn (B:=M) hM (hN134.ge1) fun _ hy=>mr (mr (mr (mr (mr (mr (mr (hy)))))));have e_i135:=eN hC (hN134.ge1);have hM:=MS.app hN134.ms (hM.chg hN134.chg);have hC:=hC.t0 hN134.chg;have f136:Own rS_api_Table 55 w132 ([g133]++([g124]++([g72]++([g55]++(blkL ao20++([g13]++([g8]++([g4]++(M))))))))) (some ⟨g133,0,none⟩) 1 ([(⟨(rd t78.2.2.Reach (0:Int)).Size,(rd t78.2.2.Reach (0:Int)).Safi,(⟨(0:Int),(List.replicate 16 (0:Int))⟩:S_api_Addr),(rd t78.2.2.Reach (0:Int)).M,(rd t78.2.2.Reach (0:Int)).U⟩:S_api_Table)]:List S_api_Table):=hN134.own ⟨(cS_api_Table (⟨(rd t78.2.2.Reach (0:Int)).Size,(rd t78.2.2.Reach (0:Int)).Safi,(⟨(0:Int),(List.replicate 16 (0:Int))⟩:S_api_Addr),(rd t78.2.2.Reach (0:Int)).M,(rd t78.2.2.Reach (0:Int)).U⟩:S_api_Table) ao121 cap121 ao122 cap122),_,rfl,(rS_api_Table.mk (⟨(rd t78.2.2.Reach (0:Int)).Size,(rd t78.2.2.Reach (0:Int)).Safi,(⟨(0:Int),(List.replicate 16 (0:Int))⟩:S_api_Addr),(rd t78.2.2.Reach (0:Int)).M,(rd t78.2.2.Reach (0:Int)).U⟩:S_api_Table) f121 f122),rfl⟩ (Nat.le_of_ble_eq_true rfl);refine sd ha 1 [14,84,85] [(87,.slice (some ⟨g133,0,none⟩) ([(⟨(rd t78.2.2.Reach (0:Int)).Size,(rd t78.2.2.Reach (0:Int)).Safi,(⟨(0:Int),(List.replicate 16 (0:Int))⟩:S_api_Addr),(rd t78.2.2.Reach (0:Int)).M,(rd t78.2.2.Reach (0:Int)).U⟩:S_api_Table)]:List S_api_Table).length 1),(88,pt g72 25)] fun a ha=>?_;refine ld (v:=.slice ao84 t78.2.2.Unreach.length cap84) ha rfl (by kernel_rfl) rfl rfl rfl (hBg72.cell' (o:=25) rfl (by kernel_rfl)) fun a ha=>?_;obtain ⟨hx137,H⟩:=ite_some H;refine app (r:=rS_api_Table) (xs:=([(⟨(rd t78.2.2.Reach (0:Int)).Size,(rd t78.2.2.Reach (0:Int)).Safi,(⟨(0:Int),(List.replicate 16 (0:Int))⟩:S_api_Addr),(rd t78.2.2.Reach (0:Int)).M,(rd t78.2.2.Reach (0:Int)).U⟩:S_api_Table)]:List S_api_Table)) (ys:=t78.2.2.Unreach) ha (ElemT.mk' (bytes:=88) (by kernel_rfl)) rfl rfl rfl rfl rfl f136 f84.src hx137 (by decide) fun a w138 ao139 cap139 hO139 hc139 hk139 hl139 ha=>?_;have o1:Ok [g133] ([g133]++([g124]++([g72]++([g55]++(blkL ao20++([g13]++([g8]++([g4]++(M))))))))) w132.heap.size:=(fun _ h=>.inl (ml h))
      have o2:Ok (blkL ao139++([g124]++([g72]++([g55]++(blkL ao20++([g13]++([g8]++([g4]++(M))))))))) ([g133]++([g124]++([g72]++([g55]++(blkL ao20++([g13]++([g8]++([g4]++(M))))))))) w132.heap.size:=(Ok.app (Ok.to hk139 (fun _ h=>ml h)) (fun _ h=>.inl (mr (h))))
      have f84:=f84.chg hc139 o1 o2;have f49:=f49.chg hc139 o1 o2;have f50:=f50.chg hc139 o1 o2;have f51:=f51.chg hc139 o1 o2;have f52:=f52.chg hc139 o1 o2;have f79:=f79.chg hc139 o1 o2;have f80:=f80.chg hc139 o1 o2;have f81:=f81.chg hc139 o1 o2;have f82:=f82.chg hc139 o1 o2;have f83:=f83.chg hc139 o1 o2;have hBg4:=hBg4.chg hc139 ((fun x (hx:x∈[g4]) (hy:x∈[g133])=>p_i135_i6 x hy hx) g4 (by simp));have hBg8:=hBg8.chg hc139 ((fun x (hx:x∈[g8]) (hy:x∈[g133])=>p_i135_i10 x hy hx) g8 (by simp));have hBg55:=hBg55.chg hc139 ((fun x (hx:x∈[g55]) (hy:x∈[g133])=>p_i135_i57 x hy hx) g55 (by simp));have hBg72:=hBg72.chg hc139 ((fun x (hx:x∈[g72]) (hy:x∈[g133])=>p_i135_i74 x hy hx) g72 (by simp));have p_i139_i126:=pf (B:=[g124]) hk139 p_i135_i126 hM fun _ hy=>mr (ml hy);have p_i139_i74:=pf (B:=[g72]) hk139 p_i135_i74 hM fun _ hy=>mr (mr (ml hy));have p_i139_i57:=pf (B:=[g55]) hk139 p_i135_i57 hM fun _ hy=>mr (mr (mr (ml hy)));have p_i139_i20:=pf (B:=(blkL ao20)) hk139 p_i135_i20 hM fun _ hy=>mr (mr (mr (mr (ml hy))));have p_i139_i14:=pf (B:=[g13]) hk139 p_i135_i14 hM fun _ hy=>mr (mr (mr (mr (mr (ml hy)))));have p_i139_i10:=pf (B:=[g8]) hk139 p_i135_i10 hM fun _ hy=>mr (mr (mr (mr (mr (mr (ml hy))))));have p_i139_i6:=pf (B:=[g4]) hk139 p_i135_i6 hM fun _ hy=>mr (mr (mr (mr (mr (mr (mr (ml hy)))))));have p_i139_M:=pf (B:=M) hk139 p_i135_M hM fun _ hy=>mr (mr (mr (mr (mr (mr (mr (mr (hy))))))));have hM:MS (blkL ao139++([g124]++([g72]++([g55]++(blkL ao20++([g13]++([g8]++([g4]++(M))))))))) w138:=(MS.app hl139 (fun x h=>hM.chg hc139 x (mr (h))))
      have hC:=hC.t1 hc139 e_i135;have f139:=hO139.chg (M':=blkL ao139++([g124]++([g72]++([g55]++(blkL ao20++([g13]++([g8]++([g4]++(M))))))))) (Chg.refl [] _) (Ok.nil _ _) (Ok.app (fun _ h=>.inl (ml h)) (Ok.to (fun _ h=>.inl (mr (h))) (fun _ h=>mr h))) (fun _ _ h=>nomatch h) (fun _ h=>ml h);refine sd ha 1 [87,88] [(90,.slice ao139 (([(⟨(rd t78.2.2.Reach (0:Int)).Size,(rd t78.2.2.Reach (0:Int)).Safi,(⟨(0:Int),(List.replicate 16 (0:Int))⟩:S_api_Addr),(rd t78.2.2.Reach (0:Int)).M,(rd t78.2.2.Reach (0:Int)).U⟩:S_api_Table)]:List S_api_Table)++t78.2.2.Unreach).length cap139),(91,pt g72 24)] fun a ha=>?_;refine st ha rfl rfl rfl (by kernel_rfl) rfl rfl hBg72 (Nat.le_of_ble_eq_true (by kernel_rfl)) fun a w140 ha hb2 hc141 _=>?_;have o1:Ok [g72] (blkL ao139++([g124]++([g72]++([g55]++(blkL ao20++([g13]++([g8]++([g4]++(M))))))))) w138.heap.size:=(fun _ h=>.inl (mr (mr (ml h))))
      have o2:=oR (blkL ao139++([g124]++([g72]++([g55]++(blkL ao20++([g13]++([g8]++([g4]++(M))))))))) w138;have f139:=f139.chg hc141 o1 o2 p_i139_i74 (fun _ h=>ml h);have f49:=f49.chg hc141 o1 o2;have f50:=f50.chg hc141 o1 o2;have f51:=f51.chg hc141 o1 o2;have f52:=f52.chg hc141 o1 o2;have f79:=f79.chg hc141 o1 o2;have f80:=f80.chg hc141 o1 o2;have f81:=f81.chg hc141 o1 o2;have f82:=f82.chg hc141 o1 o2;have f83:=f83.chg hc141 o1 o2;have f84:=f84.chg hc141 o1 o2;have hBg4:=hBg4.chg hc141 ((fun x (hx:x∈[g4]) (hy:x∈[g72])=>p_i74_i6 x hy hx) g4 (by simp));have hBg8:=hBg8.chg hc141 ((fun x (hx:x∈[g8]) (hy:x∈[g72])=>p_i74_i10 x hy hx) g8 (by simp));have hBg55:=hBg55.chg hc141 ((fun x (hx:x∈[g55]) (hy:x∈[g72])=>p_i74_i57 x hy hx) g55 (by simp));have hM:=hM.chg hc141;have hC:=hC.t1 hc141 e_i74;have hBg72:Box w140 g72 (cS_api_Update (⟨t78.2.2.Attrs,([]:List S_api_Table),t78.2.2.Unreach⟩:S_api_Update) ao79 cap79 ao80 cap80 ao81 cap81 ao82 cap82 none 0 ao84 cap84):=hb2;refine sd ha 1 [91] [(92,pt g72 25)] fun a ha=>?_;refine st ha rfl rfl rfl (by kernel_rfl) rfl rfl hBg72 (Nat.le_of_ble_eq_true (by kernel_rfl)) fun a w142 ha hb2 hc143 _=>?_;have o1:Ok [g72] (blkL ao139++([g124]++([g72]++([g55]++(blkL ao20++([g13]++([g8]++([g4]++(M))))))))) w140.heap.size:=(fun _ h=>.inl (mr (mr (ml h))))
      have o2:=oR (blkL ao139++([g124]++([g72]++([g55]++(blkL ao20++([g13]++([g8]++([g4]++(M))))))))) w140;have f139:=f139.chg hc143 o1 o2 p_i139_i74 (fun _ h=>ml h);have f49:=f49.chg hc143 o1 o2;have f50:=f50.chg hc143 o1 o2;have f51:=f51.chg hc143 o1 o2;have f52:=f52.chg hc143 o1 o2;have f79:=f79.chg hc143 o1 o2;have f80:=f80.chg hc143 o1 o2;have f81:=f81.chg hc143 o1 o2;have f82:=f82.chg hc143 o1 o2;have f84:=f84.chg hc143 o1 o2;have hBg4:=hBg4.chg hc143 ((fun x (hx:x∈[g4]) (hy:x∈[g72])=>p_i74_i6 x hy hx) g4 (by simp));have hBg8:=hBg8.chg hc143 ((fun x (hx:x∈[g8]) (hy:x∈[g72])=>p_i74_i10 x hy hx) g8 (by simp));have hBg55:=hBg55.chg hc143 ((fun x (hx:x∈[g55]) (hy:x∈[g72])=>p_i74_i57 x hy hx) g55 (by simp));have hM:=hM.chg hc143;have hC:=hC.t1 hc143 e_i74;have hBg72:Box w142 g72 (cS_api_Update (⟨t78.2.2.Attrs,([]:List S_api_Table),(([(⟨(rd t78.2.2.Reach (0:Int)).Size,(rd t78.2.2.Reach (0:Int)).Safi,(⟨(0:Int),(List.replicate 16 (0:Int))⟩:S_api_Addr),(rd t78.2.2.Reach (0:Int)).M,(rd t78.2.2.Reach (0:Int)).U⟩:S_api_Table)]:List S_api_Table)++t78.2.2.Unreach)⟩:S_api_Update) ao79 cap79 ao80 cap80 ao81 cap81 ao82 cap82 none 0 ao139 cap139):=hb2;refine hK102 _ _ ?_;refine wsr fun K144 hK144=>?_;refine ldE (Box.cells hBg72) ha fun a ha=>?_;refine sd ha 1 [10,11,90,92] [(93,.agg (cS_api_Update (⟨t78.2.2.Attrs,([]:List S_api_Table),(([(⟨(rd t78.2.2.Reach (0:Int)).Size,(rd t78.2.2.Reach (0:Int)).Safi,(⟨(0:Int),(List.replicate 16 (0:Int))⟩:S_api_Addr),(rd t78.2.2.Reach (0:Int)).M,(rd t78.2.2.Reach (0:Int)).U⟩:S_api_Table)]:List S_api_Table)++t78.2.2.Unreach)⟩:S_api_Update) ao79 cap79 ao80 cap80 ao81 cap81 ao82 cap82 none 0 ao139 cap139).toArray),(94,.int .i64 (if t78.1 > t48.2.2 then t78.1 else t48.2.2))] fun a ha=>?_;refine oP (.agg (cS_api_Note (⟨(0:Int),(0:Int),([]:List Int)⟩:S_api_Note) none 0).toArray) ha fun a ha=>?_;refine stE (cS_api_Update (⟨t78.2.2.Attrs,([]:List S_api_Table),(([(⟨(rd t78.2.2.Reach (0:Int)).Size,(rd t78.2.2.Reach (0:Int)).Safi,(⟨(0:Int),(List.replicate 16 (0:Int))⟩:S_api_Addr),(rd t78.2.2.Reach (0:Int)).M,(rd t78.2.2.Reach (0:Int)).U⟩:S_api_Table)]:List S_api_Table)++t78.2.2.Unreach)⟩:S_api_Update) ao79 cap79 ao80 cap80 ao81 cap81 ao82 cap82 none 0 ao139 cap139) ha hBg4 fun a w145 ha hBg4 hc146 _=>?_;have o1:Ok [g4] (blkL ao139++([g124]++([g72]++([g55]++(blkL ao20++([g13]++([g8]++([g4]++(M))))))))) w142.heap.size:=(fun _ h=>.inl (mr (mr (mr (mr (mr (mr (mr (ml h)))))))))
      have o2:=oR (blkL ao139++([g124]++([g72]++([g55]++(blkL ao20++([g13]++([g8]++([g4]++(M))))))))) w142;have f79:=f79.chg hc146 o1 o2;have f80:=f80.chg hc146 o1 o2;have f81:=f81.chg hc146 o1 o2;have f82:=f82.chg hc146 o1 o2;have f139:=f139.chg hc146 o1 o2 p_i139_i6 (fun _ h=>ml h);have f49:=f49.chg hc146 o1 o2;have f50:=f50.chg hc146 o1 o2;have f51:=f51.chg hc146 o1 o2;have f52:=f52.chg hc146 o1 o2;have hBg8:=hBg8.chg hc146 (p_i10_i6 g8 (by simp));have hBg55:=hBg55.chg hc146 (p_i57_i6 g55 (by simp));have hBg72:=hBg72.chg hc146 (p_i74_i6 g72 (by simp));have hM:=hM.chg hc146;have hC:=hC.t1 hc146 e_i6;refine sd ha 1 [93,94] [(3,.int .i64 (if t78.1 > t48.2.2 then t78.1 else t48.2.2)),(95,.agg (cS_api_Note (⟨(0:Int),(0:Int),([]:List Int)⟩:S_api_Note) none 0).toArray)] fun a ha=>?_;refine stE (cS_api_Note (⟨(0:Int),(0:Int),([]:List Int)⟩:S_api_Note) none 0) ha hBg8 fun a w147 ha hBg8 hc148 _=>?_;have o1:Ok [g8] (blkL ao139++([g124]++([g72]++([g55]++(blkL ao20++([g13]++([g8]++([g4]++(M))))))))) w145.heap.size:=(fun _ h=>.inl (mr (mr (mr (mr (mr (mr (ml h))))))))
      have o2:=oR (blkL ao139++([g124]++([g72]++([g55]++(blkL ao20++([g13]++([g8]++([g4]++(M))))))))) w145;have f79:=f79.chg hc148 o1 o2;have f80:=f80.chg hc148 o1 o2;have f81:=f81.chg hc148 o1 o2;have f82:=f82.chg hc148 o1 o2;have f139:=f139.chg hc148 o1 o2 p_i139_i10 (fun _ h=>ml h);have f49:=f49.chg hc148 o1 o2;have f50:=f50.chg hc148 o1 o2;have f51:=f51.chg hc148 o1 o2;have f52:=f52.chg hc148 o1 o2;have hBg4:=hBg4.chg hc148 ((fun x (hx:x∈[g4]) (hy:x∈[g8])=>p_i10_i6 x hy hx) g4 (by simp));have hBg55:=hBg55.chg hc148 (p_i57_i10 g55 (by simp));have hBg72:=hBg72.chg hc148 (p_i74_i10 g72 (by simp));have hM:=hM.chg hc148;have hC:=hC.t1 hc148 e_i10;refine hK144 _ _ ?_;refine wrt ?_;have fz:=f139.toRSl (M':=[g124]++([g72]++([g55]++(blkL ao20++([g13]++([g8]++([g4]++(M)))))))) (fun _ h=>.inl (mr (h))) (fun x hx hm=>(List.mem_append.1 hm).elim (fun h=>p_i139_i126 x hx h) (fun h=>(List.mem_append.1 h).elim (fun h=>p_i139_i74 x hx h) (fun h=>(List.mem_append.1 h).elim (fun h=>p_i139_i57 x hx h) (fun h=>(List.mem_append.1 h).elim (fun h=>p_i139_i20 x hx h) (fun h=>(List.mem_append.1 h).elim (fun h=>p_i139_i14 x hx h) (fun h=>(List.mem_append.1 h).elim (fun h=>p_i139_i10 x hx h) (fun h=>(List.mem_append.1 h).elim (fun h=>p_i139_i6 x hx h) (fun h=>p_i139_M x hx h))))))));have o1:=oN (blkL ao139++([g124]++([g72]++([g55]++(blkL ao20++([g13]++([g8]++([g4]++(M))))))))) w147;have o2:Ok ([g124]++([g72]++([g55]++(blkL ao20++([g13]++([g8]++([g4]++(M)))))))) (blkL ao139++([g124]++([g72]++([g55]++(blkL ao20++([g13]++([g8]++([g4]++(M))))))))) w147.heap.size:=(fun _ h=>.inl (mr (h)))
      have f79:=f79.chg (Chg.refl [] _) o1 o2;have f80:=f80.chg (Chg.refl [] _) o1 o2;have f81:=f81.chg (Chg.refl [] _) o1 o2;have f82:=f82.chg (Chg.refl [] _) o1 o2;have f49:=f49.chg (Chg.refl [] _) o1 o2;have f50:=f50.chg (Chg.refl [] _) o1 o2;have f51:=f51.chg (Chg.refl [] _) o1 o2;have f52:=f52.chg (Chg.refl [] _) o1 o2;have hM:MS ([g124]++([g72]++([g55]++(blkL ao20++([g13]++([g8]++([g4]++(M)))))))) w147:=hM.sb fun _ h=>mr (h);have f139:=fz;have o1:=oN ([g124]++([g72]++([g55]++(blkL ao20++([g13]++([g8]++([g4]++(M)))))))) w147;have o2:Ok (blkL none++(M)) ([g124]++([g72]++([g55]++(blkL ao20++([g13]++([g8]++([g4]++(M)))))))) w147.heap.size:=(Ok.app (fun _ h=>nomatch h) (fun _ h=>.inl (mr (mr (mr (mr (mr (mr (mr (h))))))))))
      have f79:=f79.chg (Chg.refl [] _) o1 o2;have f80:=f80.chg (Chg.refl [] _) o1 o2;have f81:=f81.chg (Chg.refl [] _) o1 o2;have f82:=f82.chg (Chg.refl [] _) o1 o2;have f139:=f139.chg (Chg.refl [] _) o1 o2;have f49:=f49.chg (Chg.refl [] _) o1 o2;have f50:=f50.chg (Chg.refl [] _) o1 o2;have f51:=f51.chg (Chg.refl [] _) o1 o2;have f52:=f52.chg (Chg.refl [] _) o1 o2;have e_z149:∀ x∈blkL none,w.heap.size≤x:=fun x hx=>Nat.le_trans hC.size ((fun _ h=>nomatch h) x hx);have hM:MS (blkL none++(M)) w147:=(MS.app (fun _ h=>nomatch h) (fun x h=>hM.chg (Chg.refl [] _) x (mr (mr (mr (mr (mr (mr (mr (h))))))))))
      obtain rfl:=oj H;refine rtr ha (res3 rfl (roA ha rfl hBg4 (by kernel_rfl)) (roT ha rfl) (roA ha rfl hBg8 (by kernel_rfl))) ?_;exact ⟨ao79,cap79,ao80,cap80,ao81,cap81,ao82,cap82,none,0,ao139,cap139,none,0,rfl,f79,f80,f81,f82,(RSl.nil (Nat.zero_le _)),f139,Own.nil,e_z149,hC,hM⟩
     ·refine wp_region_lit ?_;refine ldE (Box.cells hBg55) ha fun a ha=>?_;refine sd ha 1 [8,77] [(70,.agg (cS_api_Attrs t48.1 ao49 cap49 ao50 cap50 ao51 cap51 ao52 cap52).toArray),(71,pt g72 0)] fun a ha=>?_;refine stA (l:=(cS_api_Attrs t48.1 ao49 cap49 ao50 cap50 ao51 cap51 ao52 cap52)) ha rfl rfl rfl (by kernel_rfl) rfl rfl hBg72 rfl fun a w150 ha hb2 hc151 _=>?_;have o1:Ok [g72] ([g72]++([g55]++(blkL ao20++([g13]++([g8]++([g4]++(M))))))) w78.heap.size:=(fun _ h=>.inl (ml h))
      have o2:=oR ([g72]++([g55]++(blkL ao20++([g13]++([g8]++([g4]++(M))))))) w78;have f49:=f49.chg hc151 o1 o2;have f50:=f50.chg hc151 o1 o2;have f51:=f51.chg hc151 o1 o2;have f52:=f52.chg hc151 o1 o2;have f83:=f83.chg hc151 o1 o2;have f84:=f84.chg hc151 o1 o2;have hBg4:=hBg4.chg hc151 ((fun x (hx:x∈[g4]) (hy:x∈[g72])=>p_i74_i6 x hy hx) g4 (by simp));have hBg8:=hBg8.chg hc151 ((fun x (hx:x∈[g8]) (hy:x∈[g72])=>p_i74_i10 x hy hx) g8 (by simp));have hM:=hM.chg hc151;have hC:=hC.t1 hc151 e_i74;have hBg72:Box w150 g72 (cS_api_Update (⟨t48.1,t78.2.2.Reach,t78.2.2.Unreach⟩:S_api_Update) ao49 cap49 ao50 cap50 ao51 cap51 ao52 cap52 ao83 cap83 ao84 cap84):=hb2;refine hK102 _ _ ?_;refine wsr fun K152 hK152=>?_;refine ldE (Box.cells hBg72) ha fun a ha=>?_;refine sd ha 1 [10,11,70,71] [(93,.agg (cS_api_Update (⟨t48.1,t78.2.2.Reach,t78.2.2.Unreach⟩:S_api_Update) ao49 cap49 ao50 cap50 ao51 cap51 ao52 cap52 ao83 cap83 ao84 cap84).toArray),(94,.int .i64 (if t78.1 > t48.2.2 then t78.1 else t48.2.2))] fun a ha=>?_;refine oP (.agg (cS_api_Note (⟨(0:Int),(0:Int),([]:List Int)⟩:S_api_Note) none 0).toArray) ha fun a ha=>?_;refine stE (cS_api_Update (⟨t48.1,t78.2.2.Reach,t78.2.2.Unreach⟩:S_api_Update) ao49 cap49 ao50 cap50 ao51 cap51 ao52 cap52 ao83 cap83 ao84 cap84) ha hBg4 fun a w153 ha hBg4 hc154 _=>?_;have o1:Ok [g4] ([g72]++([g55]++(blkL ao20++([g13]++([g8]++([g4]++(M))))))) w150.heap.size:=(fun _ h=>.inl (mr (mr (mr (mr (mr (ml h)))))))
      have o2:=oR ([g72]++([g55]++(blkL ao20++([g13]++([g8]++([g4]++(M))))))) w150;have f49:=f49.chg hc154 o1 o2;have f50:=f50.chg hc154 o1 o2;have f51:=f51.chg hc154 o1 o2;have f52:=f52.chg hc154 o1 o2;have f83:=f83.chg hc154 o1 o2;have f84:=f84.chg hc154 o1 o2;have hBg8:=hBg8.chg hc154 (p_i10_i6 g8 (by simp));have hM:=hM.chg hc154;have hC:=hC.t1 hc154 e_i6;refine sd ha 1 [93,94] [(3,.int .i64 (if t78.1 > t48.2.2 then t78.1 else t48.2.2)),(95,.agg (cS_api_Note (⟨(0:Int),(0:Int),([]:List Int)⟩:S_api_Note) none 0).toArray)] fun a ha=>?_;refine stE (cS_api_Note (⟨(0:Int),(0:Int),([]:List Int)⟩:S_api_Note) none 0) ha hBg8 fun a w155 ha hBg8 hc156 _=>?_;have o1:Ok [g8] ([g72]++([g55]++(blkL ao20++([g13]++([g8]++([g4]++(M))))))) w153.heap.size:=(fun _ h=>.inl (mr (mr (mr (mr (ml h))))))
      have o2:=oR ([g72]++([g55]++(blkL ao20++([g13]++([g8]++([g4]++(M))))))) w153;have f49:=f49.chg hc156 o1 o2;have f50:=f50.chg hc156 o1 o2;have f51:=f51.chg hc156 o1 o2;have f52:=f52.chg hc156 o1 o2;have f83:=f83.chg hc156 o1 o2;have f84:=f84.chg hc156 o1 o2;have hBg4:=hBg4.chg hc156 ((fun x (hx:x∈[g4]) (hy:x∈[g8])=>p_i10_i6 x hy hx) g4 (by simp));have hM:=hM.chg hc156;have hC:=hC.t1 hc156 e_i10;refine hK152 _ _ ?_;refine wrt ?_;have o1:=oN ([g72]++([g55]++(blkL ao20++([g13]++([g8]++([g4]++(M))))))) w155;have o2:Ok (blkL none++(M)) ([g72]++([g55]++(blkL ao20++([g13]++([g8]++([g4]++(M))))))) w155.heap.size:=(Ok.app (fun _ h=>nomatch h) (fun _ h=>.inl (mr (mr (mr (mr (mr (mr (h)))))))))
      have f49:=f49.chg (Chg.refl [] _) o1 o2;have f50:=f50.chg (Chg.refl [] _) o1 o2;have f51:=f51.chg (Chg.refl [] _) o1 o2;have f52:=f52.chg (Chg.refl [] _) o1 o2;have f83:=f83.chg (Chg.refl [] _) o1 o2;have f84:=f84.chg (Chg.refl [] _) o1 o2;have e_z157:∀ x∈blkL none,w.heap.size≤x:=fun x hx=>Nat.le_trans hC.size ((fun _ h=>nomatch h) x hx);have hM:MS (blkL none++(M)) w155:=(MS.app (fun _ h=>nomatch h) (fun x h=>hM.chg (Chg.refl [] _) x (mr (mr (mr (mr (mr (mr (h)))))))))
      obtain rfl:=oj H;refine rtr ha (res3 rfl (roA ha rfl hBg4 (by kernel_rfl)) (roT ha rfl) (roA ha rfl hBg8 (by kernel_rfl))) ?_;exact ⟨ao49,cap49,ao50,cap50,ao51,cap51,ao52,cap52,ao83,cap83,ao84,cap84,none,0,rfl,f49,f50,f51,f52,f83,f84,Own.nil,e_z157,hC,hM⟩
def bytes_trimRightByte.l0 (a1:Int):Nat→(List Int)→Option (List Int)
  | 0,_=>none
  | kk+1,x6=>((if (decide ((x6.length:Int) > (0:Int)))=true then (if 0≤(IntKind.i64.wrap ((x6.length:Int) - (1:Int)))∧(IntKind.i64.wrap ((x6.length:Int) - (1:Int))) < (x6.length:Int) then some ((rd x6 (IntKind.i64.wrap ((x6.length:Int) - (1:Int))))==a1:Bool) else none) else some (false:Bool))).bind fun s11=>(if s11=true then (if 0≤(0:Int)∧(0:Int)≤(IntKind.i64.wrap ((x6.length:Int) - (1:Int)))∧(IntKind.i64.wrap ((x6.length:Int) - (1:Int)))≤(x6.length:Int) then bytes_trimRightByte.l0 a1 kk ((x6.take (Int.toNat (IntKind.i64.wrap ((x6.length:Int) - (1:Int))))).drop (Int.toNat (0:Int))) else none) else some (x6:List Int))
def bytes_trimRightByte.f (k:Nat) (a0:List Int) (a1:Int):Option (List Int):=(bytes_trimRightByte.l0 a1 k a0).bind fun s4=>some ((s4:List Int))
set_option maxRecDepth 100000 in
theorem bytes_trimRightByte.walk (w:World) (M:List Nat) (hM:MS M w) (a0:List Int) (ao1:Option Addr) (cap1:Nat) (f1:RSl (rInt .u8) 5 w M ao1 cap1 a0) (a1:Int) (k:Nat) (r:List Int) (H:bytes_trimRightByte.f k a0 a1=some r) :
    To Tryz.prog 147 [.slice ao1 a0.length cap1,.int .u8 a1] w fun v w'=>∃ (ao23:Option Addr) (cap23:Nat),v=.slice ao23 r.length cap23∧(RSl (rInt .u8) 5 w' (M) ao23 cap23 r)∧Chg [] w w'∧MS (M) w':=by
 unfold bytes_trimRightByte.f at H;refine ent Tryz.func147 rfl [(0,.slice ao1 a0.length cap1),(1,.int .u8 a1)] rfl (by rfl) fun a ha=>?_;have hC:Chg [] w w:=Chg.refl _ _;refine sqd ha 1 [] [] fun a ha=>?_;refine wp_seq_k fun K3 hK3=>?_;refine wp_block ?_;obtain ⟨s4,H4,H⟩:=bind_some H;have J4:∀ (a:Act) (wx4:World) (ao7:Option Addr) (cap7:Nat),Has a Tryz.f147.ntmps [(0,.slice ao7 s4.length cap7)]→(RSl (rInt .u8) 5 wx4 (M) ao7 cap7 s4)→(Chg [] w wx4)→(MS (M) wx4)→K3 a wx4:=by
  intro a wx4 ao7 cap7 ha f7 hC hM;refine hK3 _ _ ?_;refine sq ha 2 [(4,.slice ao7 s4.length cap7)] fun a ha=>?_;refine wrt ?_;obtain rfl:=oj H;refine rt1 ha rfl rfl ?_;exact ⟨ao7,cap7,rfl,f7,hC,hM⟩
 have Hc4:=H;have H:=H4;refine wp_loop_ghost (fun kk a w4=>∃ (x6:List Int) (ao5:Option Addr) (cap5:Nat),bytes_trimRightByte.l0 a1 kk x6=some s4∧Has a Tryz.f147.ntmps [(0,.slice ao5 x6.length cap5),(1,.int .u8 a1)]∧(RSl (rInt .u8) 5 w4 (M) ao5 cap5 x6)∧(Chg [] w w4)∧(MS (M) w4)) k ?_ ?_
 ·skip;exact ⟨a0,ao1,cap1,H,(ha.sel (by kernel_rfl)),f1,hC,hM⟩
 ·rintro kk a w4 ⟨x6,ao5,cap5,H,ha,f5,hC,hM⟩;obtain _ | kk:=kk
  ·exact nomatch (show none=some _ from H)
  rw [bytes_trimRightByte.l0] at H;refine wp_seq_k fun K9 hK9=>?_;refine wsr fun K10 hK10=>?_;obtain ⟨s11,H11,H⟩:=bind_some H;have J11:∀ (a:Act) (w11:World),Has a Tryz.f147.ntmps [(0,.slice ao5 x6.length cap5),(1,.int .u8 a1),(17,.bool s11)]→(RSl (rInt .u8) 5 w11 (M) ao5 cap5 x6)→(Chg [] w w11)→(MS (M) w11)→K10 a w11:=by
   intro a w11 ha f5 hC hM;refine hK10 _ _ ?_;refine cnH H ha (fun hc12 H=>?_) (fun hc12 H=>?_)
   ·refine wp_skip ?_;refine hK9 _ _ ?_;refine wp_block ?_;refine wp_region_lit ?_;refine sd ha 4 [0,17] [(18,.slice ao5 x6.length cap5),(21,.int .i64 (IntKind.i64.wrap ((x6.length:Int) - (1:Int))))] fun a ha=>?_;obtain ⟨⟨hx13,hx13',hx13''⟩,H⟩:=ite_some H;refine slc (r:=(rInt .u8)) (l:=(0:Int)) (h:=(IntKind.i64.wrap ((x6.length:Int) - (1:Int)))) ha (by kernel_rfl) (by kernel_rfl) rfl rfl rfl rfl rfl rfl f5 hx13 hx13' hx13'' fun a ao14 cap14 f14 ha=>?_;refine sd ha 1 [18,21] [(0,.slice ao14 ((x6.take (Int.toNat (IntKind.i64.wrap ((x6.length:Int) - (1:Int))))).drop (Int.toNat (0:Int))).length cap14)] fun a ha=>?_;exact ⟨kk,Nat.lt_succ_self _,⟨((x6.take (Int.toNat (IntKind.i64.wrap ((x6.length:Int) - (1:Int))))).drop (Int.toNat (0:Int))),ao14,cap14,H,(ha.sel (by kernel_rfl)),f14,hC,hM⟩⟩
   ·refine wx ?_;obtain rfl:=oj H;exact J4 _ _ ao5 cap5 (ha.sel (by kernel_rfl)) f5 hC hM
  have H:=H11;refine sd ha 4 [] [(8,.bool (decide ((x6.length:Int) > (0:Int))))] fun a ha=>?_;rcases Bool.eq_false_or_eq_true (decide ((x6.length:Int) > (0:Int))) with hb15 | hb15
  ·have ha:=ha.lit hb15;have H:=ite_t hb15 H;refine sgd ha 4 [2,2,2,2] [] [(8,.bool true),(9,.slice ao5 x6.length cap5),(12,.int .i64 (IntKind.i64.wrap ((x6.length:Int) - (1:Int))))] fun a ha=>?_;obtain ⟨⟨hx16,hx16'⟩,H⟩:=ite_some H;refine ix (r:=(rInt .u8)) ha (by kernel_rfl) (by kernel_rfl) rfl rfl rfl rfl rfl f5 hx16 hx16' fun a ge17 oe18 cs19 hn22 hR20 hE21 ha=>?_;rw [rd_get] at hR20;obtain rfl:=hR20;have hE21:Cs w4 ge17 oe18 ([.int .u8 (rd x6 (IntKind.i64.wrap ((x6.length:Int) - (1:Int))))]:List Value):=hE21;refine ld ha rfl (by kernel_rfl) rfl rfl rfl (hE21 0 (.int .u8 (rd x6 (IntKind.i64.wrap ((x6.length:Int) - (1:Int))))) (by kernel_rfl)) fun a ha=>?_;refine sgd ha 3 [2,2,3] [8,9,12] [(17,.bool ((rd x6 (IntKind.i64.wrap ((x6.length:Int) - (1:Int))))==a1))] fun a ha=>?_;obtain rfl:=oj H;exact J11 _ _ (ha.sel (by kernel_rfl)) f5 hC hM
  ·have ha:=ha.lit hb15;have H:=ite_f hb15 H;refine sgd ha 9 [1,1,1,1,1,1,1,1,4] [8] [(17,.bool false)] fun a ha=>?_;obtain rfl:=oj H;exact J11 _ _ (ha.sel (by kernel_rfl)) f5 hC hM
def bytes_trimLeftByte.l0 (a1:Int):Nat→(List Int)→Option (List Int)
  | 0,_=>none
  | kk+1,x6=>((if (decide ((x6.length:Int) > (0:Int)))=true then (if 0≤(0:Int)∧(0:Int) < (x6.length:Int) then some ((rd x6 (0:Int))==a1:Bool) else none) else some (false:Bool))).bind fun s15=>(if s15=true then (if 0≤(1:Int)∧(1:Int)≤(x6.length:Int)∧(x6.length:Int)≤(x6.length:Int) then bytes_trimLeftByte.l0 a1 kk ((x6.take (Int.toNat (x6.length:Int))).drop (Int.toNat (1:Int))) else none) else some (x6:List Int))
def bytes_trimLeftByte.f (k:Nat) (a0:List Int) (a1:Int):Option (List Int):=(bytes_trimLeftByte.l0 a1 k a0).bind fun s4=>(if ((s4.length:Int)==(0:Int))=true then some ((([]:List Int):List Int)) else some ((s4:List Int)))
set_option maxRecDepth 100000 in
theorem bytes_trimLeftByte.walk (w:World) (M:List Nat) (hM:MS M w) (a0:List Int) (ao1:Option Addr) (cap1:Nat) (f1:RSl (rInt .u8) 5 w M ao1 cap1 a0) (a1:Int) (k:Nat) (r:List Int) (H:bytes_trimLeftByte.f k a0 a1=some r) :
    To Tryz.prog 146 [.slice ao1 a0.length cap1,.int .u8 a1] w fun v w'=>∃ (ao27:Option Addr) (cap27:Nat),v=.slice ao27 r.length cap27∧(RSl (rInt .u8) 5 w' (M) ao27 cap27 r)∧Chg [] w w'∧MS (M) w':=by
 unfold bytes_trimLeftByte.f at H;refine ent Tryz.func146 rfl [(0,.slice ao1 a0.length cap1),(1,.int .u8 a1)] rfl (by rfl) fun a ha=>?_;have hC:Chg [] w w:=Chg.refl _ _;refine sqd ha 1 [] [] fun a ha=>?_;refine wp_seq_k fun K3 hK3=>?_;refine wp_block ?_;obtain ⟨s4,H4,H⟩:=bind_some H;have J4:∀ (a:Act) (wx4:World) (ao7:Option Addr) (cap7:Nat),Has a Tryz.f146.ntmps [(0,.slice ao7 s4.length cap7)]→(RSl (rInt .u8) 5 wx4 (M) ao7 cap7 s4)→(Chg [] w wx4)→(MS (M) wx4)→K3 a wx4:=by
  intro a wx4 ao7 cap7 ha f7 hC hM;refine hK3 _ _ ?_;refine wp_seq_k fun K8 hK8=>?_;refine sqd ha 3 [] [(19,.bool ((s4.length:Int)==(0:Int)))] fun a ha=>?_;refine cnH H ha (fun hc10 H=>?_) (fun hc10 H=>?_)
  ·refine sq ha 1 [(4,.slice none 0 0)] fun a ha=>?_;refine wrt ?_;obtain rfl:=oj H;refine rt1 ha rfl rfl ?_;exact ⟨none,0,rfl,(RSl.nil (Nat.zero_le _)),hC,hM⟩
  ·refine wp_skip ?_;refine hK8 _ _ ?_;refine sq ha 2 [(4,.slice ao7 s4.length cap7)] fun a ha=>?_;refine wrt ?_;obtain rfl:=oj H;refine rt1 ha rfl rfl ?_;exact ⟨ao7,cap7,rfl,f7,hC,hM⟩
 have Hc4:=H;have H:=H4;refine wp_loop_ghost (fun kk a w4=>∃ (x6:List Int) (ao5:Option Addr) (cap5:Nat),bytes_trimLeftByte.l0 a1 kk x6=some s4∧Has a Tryz.f146.ntmps [(0,.slice ao5 x6.length cap5),(1,.int .u8 a1)]∧(RSl (rInt .u8) 5 w4 (M) ao5 cap5 x6)∧(Chg [] w w4)∧(MS (M) w4)) k ?_ ?_
 ·skip;exact ⟨a0,ao1,cap1,H,(ha.sel (by kernel_rfl)),f1,hC,hM⟩
 ·rintro kk a w4 ⟨x6,ao5,cap5,H,ha,f5,hC,hM⟩;obtain _ | kk:=kk
  ·exact nomatch (show none=some _ from H)
  rw [bytes_trimLeftByte.l0] at H;refine wp_seq_k fun K13 hK13=>?_;refine wsr fun K14 hK14=>?_;obtain ⟨s15,H15,H⟩:=bind_some H;have J15:∀ (a:Act) (w15:World),Has a Tryz.f146.ntmps [(0,.slice ao5 x6.length cap5),(1,.int .u8 a1),(14,.bool s15)]→(RSl (rInt .u8) 5 w15 (M) ao5 cap5 x6)→(Chg [] w w15)→(MS (M) w15)→K14 a w15:=by
   intro a w15 ha f5 hC hM;refine hK14 _ _ ?_;refine cnH H ha (fun hc16 H=>?_) (fun hc16 H=>?_)
   ·refine wp_skip ?_;refine hK13 _ _ ?_;refine wp_block ?_;refine wp_region_lit ?_;refine sd ha 1 [0,14] [(15,.slice ao5 x6.length cap5)] fun a ha=>?_;obtain ⟨⟨hx17,hx17',hx17''⟩,H⟩:=ite_some H;refine slc (r:=(rInt .u8)) (l:=(1:Int)) (h:=(x6.length:Int)) ha (by kernel_rfl) (by kernel_rfl) rfl rfl rfl rfl rfl rfl f5 hx17 hx17' hx17'' fun a ao18 cap18 f18 ha=>?_;refine sd ha 1 [15] [(0,.slice ao18 ((x6.take (Int.toNat (x6.length:Int))).drop (Int.toNat (1:Int))).length cap18)] fun a ha=>?_;exact ⟨kk,Nat.lt_succ_self _,⟨((x6.take (Int.toNat (x6.length:Int))).drop (Int.toNat (1:Int))),ao18,cap18,H,(ha.sel (by kernel_rfl)),f18,hC,hM⟩⟩
   ·refine wx ?_;obtain rfl:=oj H;exact J4 _ _ ao5 cap5 (ha.sel (by kernel_rfl)) f5 hC hM
  have H:=H15;refine sd ha 4 [] [(8,.bool (decide ((x6.length:Int) > (0:Int))))] fun a ha=>?_;rcases Bool.eq_false_or_eq_true (decide ((x6.length:Int) > (0:Int))) with hb19 | hb19
  ·have ha:=ha.lit hb19;have H:=ite_t hb19 H;refine sgd ha 1 [2] [] [(8,.bool true),(9,.slice ao5 x6.length cap5)] fun a ha=>?_;obtain ⟨⟨hx20,hx20'⟩,H⟩:=ite_some H;refine ix (r:=(rInt .u8)) ha (by kernel_rfl) (by kernel_rfl) rfl rfl rfl rfl rfl f5 hx20 hx20' fun a ge21 oe22 cs23 hn26 hR24 hE25 ha=>?_;rw [rd_get] at hR24;obtain rfl:=hR24;have hE25:Cs w4 ge21 oe22 ([.int .u8 (rd x6 (0:Int))]:List Value):=hE25;refine ld ha rfl (by kernel_rfl) rfl rfl rfl (hE25 0 (.int .u8 (rd x6 (0:Int))) (by kernel_rfl)) fun a ha=>?_;refine sgd ha 3 [2,2,3] [8,9] [(14,.bool ((rd x6 (0:Int))==a1))] fun a ha=>?_;obtain rfl:=oj H;exact J15 _ _ (ha.sel (by kernel_rfl)) f5 hC hM
  ·have ha:=ha.lit hb19;have H:=ite_f hb19 H;refine sgd ha 6 [1,1,1,1,1,4] [8] [(14,.bool false)] fun a ha=>?_;obtain rfl:=oj H;exact J15 _ _ (ha.sel (by kernel_rfl)) f5 hC hM
def bytes_Trim.f (k:Nat) (a0:List Int) (a1:List UInt8):Option (List Int):=(if ((a0.length:Int)==(0:Int))=true then some ((([]:List Int):List Int)) else (if ((bstr a1).toList==(bstr ([]:List UInt8)).toList)=true then some ((a0:List Int)) else ((if (((bstr a1).size:Int)==(1:Int))=true then (if 0≤(0:Int)∧(0:Int) < (a1.length:Int) then some (decide (((a1.getD (Int.toNat (0:Int)) 0).toNat:Int) < (128:Int)):Bool) else none) else some (false:Bool))).bind fun s13=>(if s13=true then (if 0≤(0:Int)∧(0:Int) < (a1.length:Int) then (if 0≤(0:Int)∧(0:Int) < (a1.length:Int) then (bytes_trimRightByte.f k a0 ((a1.getD (Int.toNat (0:Int)) 0).toNat:Int)).bind fun t21=>(bytes_trimLeftByte.f k t21 ((a1.getD (Int.toNat (0:Int)) 0).toNat:Int)).bind fun t24=>some ((t24:List Int)) else none) else none) else none)))
set_option maxRecDepth 100000 in
theorem bytes_Trim.walk (w:World) (M:List Nat) (hM:MS M w) (a0:List Int) (ao1:Option Addr) (cap1:Nat) (f1:RSl (rInt .u8) 5 w M ao1 cap1 a0) (a1:List UInt8) (k:Nat) (r:List Int) (H:bytes_Trim.f k a0 a1=some r) :
    To Tryz.prog 124 [.slice ao1 a0.length cap1,.string (bstr a1)] w fun v w'=>∃ (ao28:Option Addr) (cap28:Nat),v=.slice ao28 r.length cap28∧(RSl (rInt .u8) 5 w' (M) ao28 cap28 r)∧Chg [] w w'∧MS (M) w':=by
 unfold bytes_Trim.f at H;refine ent Tryz.func124 rfl [(0,.slice ao1 a0.length cap1),(1,.string (bstr a1))] rfl (by rfl) fun a ha=>?_;have hC:Chg [] w w:=Chg.refl _ _;refine sqd ha 1 [] [] fun a ha=>?_;refine wp_seq_k fun K3 hK3=>?_;refine sqd ha 3 [] [(9,.bool ((a0.length:Int)==(0:Int)))] fun a ha=>?_;refine cnH H ha (fun hc5 H=>?_) (fun hc5 H=>?_)
 ·refine sq ha 1 [(4,.slice none 0 0)] fun a ha=>?_;refine wrt ?_;obtain rfl:=oj H;refine rt1 ha rfl rfl ?_;exact ⟨none,0,rfl,(RSl.nil (Nat.zero_le _)),hC,hM⟩
 ·refine wp_skip ?_;refine hK3 _ _ ?_;refine wp_seq_k fun K7 hK7=>?_;refine sqd ha 2 [9] [(11,.bool ((bstr a1).toList==(bstr ([]:List UInt8)).toList))] fun a ha=>?_;refine cnH H ha (fun hc9 H=>?_) (fun hc9 H=>?_)
  ·refine sq ha 2 [(4,.slice ao1 a0.length cap1)] fun a ha=>?_;refine wrt ?_;obtain rfl:=oj H;refine rt1 ha rfl rfl ?_;exact ⟨ao1,cap1,rfl,f1,hC,hM⟩
  ·refine wp_skip ?_;refine hK7 _ _ ?_;refine wp_seq_k fun K11 hK11=>?_;refine wsr fun K12 hK12=>?_;obtain ⟨s13,H13,H⟩:=bind_some H;have J13:∀ (a:Act) (w13:World),Has a Tryz.f124.ntmps [(0,.slice ao1 a0.length cap1),(1,.string (bstr a1)),(20,.bool s13)]→(RSl (rInt .u8) 5 w13 (M) ao1 cap1 a0)→(Chg [] w w13)→(MS (M) w13)→K12 a w13:=by
    intro a w13 ha f1 hC hM;refine hK12 _ _ ?_;refine cnH H ha (fun hc14 H=>?_) (fun hc14 H=>?_)
    ·refine wp_seq_k fun K15 hK15=>?_;have okS:Ok [] (M) w13.heap.size:=Ok.nil _ _;refine drw (fun w'=>Chg [] w13 w') (by kernel_rfl) fun w16 hc17 _=>?_;have hS:Chg [] w13 w16:=(Chg.refl [] _).trans hc17 (Ok.nil _ _);have o1:=oN M w13;have o2:=oR M w13;have f1:=f1.chg hc17 o1 o2;have hM:=hM.chg hc17;have hC:=hC.t0 hc17;refine tp 0 0 (.slice ao1 a0.length cap1) ha hS fun a ha=>?_;refine tp 1 0 (.string (bstr a1)) ha hS fun a ha=>?_;obtain ⟨⟨hx18,hx18'⟩,H⟩:=ite_some H;refine tz 2 ha rfl (fun w' hs=>sidx_run (l:=a1) (k:=.i64) (i:=(0:Int)) ha (by kernel_rfl) (by rfl) (by rfl) hx18 hx18' w') hS fun a ha=>?_;refine tp 4 0 (.string (bstr a1)) ha hS fun a ha=>?_;obtain ⟨⟨hx19,hx19'⟩,H⟩:=ite_some H;refine tz 5 ha rfl (fun w' hs=>sidx_run (l:=a1) (k:=.i64) (i:=(0:Int)) ha (by kernel_rfl) (by rfl) (by rfl) hx19 hx19' w') hS fun a ha=>?_;refine ac 3 (by kernel_rfl) (by rfl) fun K20 hK20=>?_;obtain ⟨t21,H21,H⟩:=bind_some H;refine cL ha (bytes_trimRightByte.walk w16 _ hM a0 ao1 cap1 f1 ((a1.getD (Int.toNat (0:Int)) 0).toNat:Int) k _ H21) ?_;rintro _ w21 ⟨ao22,cap22,rfl,f22,hc21,hMn⟩ a ha;have hM:=hM.chg hc21;have hC:=hC.t0 hc21;have hS:=hS.trans hc21 (Ok.nil _ _);refine ae hK20 hS ?_;clear hK20 K20;refine ac 6 (by kernel_rfl) (by rfl) fun K23 hK23=>?_;obtain ⟨t24,H24,H⟩:=bind_some H;refine cL ha (bytes_trimLeftByte.walk w21 _ hM t21 ao22 cap22 f22 ((a1.getD (Int.toNat (0:Int)) 0).toNat:Int) k _ H24) ?_;rintro _ w24 ⟨ao25,cap25,rfl,f25,hc24,hMn⟩ a ha;have hM:=hM.chg hc24;have hC:=hC.t0 hc24;have hS:=hS.trans hc24 (Ok.nil _ _);refine ae hK23 hS ?_;clear hK23 K23;refine tp 7 0 (.slice ao25 t24.length cap25) ha hS fun a ha=>?_;refine dn (by kernel_rfl) ?_;refine hK15 _ _ ?_;refine wrt ?_;obtain rfl:=oj H;refine rt1 ha rfl rfl ?_;exact ⟨ao25,cap25,rfl,f25,hC,hM⟩
    ·exact nomatch (show none=some _ from H)
   have H:=H13;refine sd ha 4 [11] [(16,.bool (((bstr a1).size:Int)==(1:Int)))] fun a ha=>?_;rcases Bool.eq_false_or_eq_true (((bstr a1).size:Int)==(1:Int)) with hb26 | hb26
   ·have ha:=ha.lit hb26;have H:=ite_t hb26 H;refine sgd ha 1 [2] [] [(16,.bool true),(17,.string (bstr a1))] fun a ha=>?_;obtain ⟨⟨hx27,hx27'⟩,H⟩:=ite_some H;refine hop (w':=w) ha rfl rfl rfl (sidx_run (l:=a1) (k:=.i64) (i:=(0:Int)) ha (by kernel_rfl) (by rfl) (by rfl) hx27 hx27' _) fun a ha=>?_;refine sgd ha 2 [2,3] [16,17] [(20,.bool (decide (((a1.getD (Int.toNat (0:Int)) 0).toNat:Int) < (128:Int))))] fun a ha=>?_;obtain rfl:=oj H;exact J13 _ _ (ha.sel (by kernel_rfl)) f1 hC hM
   ·have ha:=ha.lit hb26;have H:=ite_f hb26 H;refine sgd ha 4 [1,1,1,4] [16] [(20,.bool false)] fun a ha=>?_;obtain rfl:=oj H;exact J13 _ _ (ha.sel (by kernel_rfl)) f1 hC hM
def addr_Right.f (k:Nat) (a0:S_api_Addr):Option (Bool):=((if (a0.Size==(0:Int))=true then some (a0.Size==(0:Int):Bool) else (if (a0.Size==(4:Int))=true then some (a0.Size==(4:Int):Bool) else some (a0.Size==(16:Int):Bool)))).bind fun s10=>(if s10=true then (if 0≤a0.Size∧a0.Size≤(16:Int)∧(16:Int)≤(16:Int) then (bytes_Trim.f k (((arL 16 a0.B).take (Int.toNat (16:Int))).drop (Int.toNat a0.Size)) ([0]:List UInt8)).bind fun t15=>some (((t15.length:Int)==(0:Int):Bool)) else none) else some ((false:Bool)))
set_option maxRecDepth 100000 in
theorem addr_Right.walk (w:World) (M:List Nat) (hM:MS M w) (a0:S_api_Addr) (k:Nat) (r:Bool) (H:addr_Right.f k a0=some r) :
    To Tryz.prog 86 [.agg (cS_api_Addr a0).toArray] w fun v w'=>v=.bool r∧Chg [] w w'∧MS (M) w':=by
 unfold addr_Right.f at H;refine ent Tryz.func86 rfl [(0,.agg (cS_api_Addr a0).toArray)] rfl (by rfl) fun a ha=>?_;have hC:Chg [] w w:=Chg.refl _ _;refine wsr fun K1 hK1=>?_;refine bx (cs:=(cS_api_Addr a0)) ha rfl rfl rfl rfl rfl fun a w2 g3 hN4 ha=>?_;have hn6:=hN4.notin hM;have hM:=hM.chg hN4.chg;have hC:=hC.t0 hN4.chg;have hE5:Cs w2 g3 0 (cS_api_Addr a0):=Box.cells (New.box hN4);refine sf ha 1 [(1,pt g3 0)] fun a ha=>?_;refine hK1 _ _ ?_;refine wp_seq_k fun K7 hK7=>?_;refine wsr fun K8 hK8=>?_;refine sd ha 1 [] [(3,pt g3 0)] fun a ha=>?_;refine ld ha rfl (by kernel_rfl) rfl rfl rfl (hE5 0 (.int .i64 a0.Size) (by kernel_rfl)) fun a ha=>?_;refine hK8 _ _ ?_;refine wp_block ?_;refine wp_seq_k fun K9 hK9=>?_;obtain ⟨s10,H10,H⟩:=bind_some H;have J10:∀ (a:Act) (w10:World),Has a Tryz.f86.ntmps [(1,pt g3 0),(5,.bool s10)]→(Cs w10 g3 0 (cS_api_Addr a0))→(g3∉(M))→(Chg [] w w10)→(MS (M) w10)→K9 a w10:=by
  intro a w10 ha hE5 hn6 hC hM;refine hK9 _ _ ?_;refine cnH H ha (fun hc11 H=>?_) (fun hc11 H=>?_)
  ·refine wsr fun K12 hK12=>?_;refine sf ha 2 [(9,.pointer (some ⟨g3,0+1,none⟩)),(10,pt g3 0)] fun a ha=>?_;refine ld ha rfl (by kernel_rfl) rfl rfl rfl (hE5 0 (.int .i64 a0.Size) (by kernel_rfl)) fun a ha=>?_;have f13:RSl (rInt .u8) 5 w10 (M) (some ⟨g3,0+1,none⟩) 16 (arL 16 a0.B):=RSl.ofA [.int .i64 a0.Size] [] hE5 hn6 (by kernel_rfl) rfl;obtain ⟨⟨hx14,hx14',hx14''⟩,H⟩:=ite_some H;obtain ⟨ao14,cap14,f14,hr14⟩:=slA_run (kk:=.u8) (T:=5) (N:=16) (g:=g3) (o':=0+1) (xs:=(arL 16 a0.B)) (t:=23) (lo:=(Option.some (Operand.tmp 11))) (hi:=Option.none) (l:=a0.Size) (h:=(16:Int)) (dd:=some 12) (ty:=36) (pos := "addr.go:24") (af:=#[{ on:=0,ground:=Ground.data },{ on:=2,ground:=Ground.data }]) (gd:=Option.none) ha (by kernel_rfl) (by kernel_rfl) (x:=(Operand.tmp 9)) rfl (arL_length _ _) rfl rfl f13 hx14 hx14' (by rw [arL_length];exact hx14'');refine hop (v:=.slice ao14 (((arL 16 a0.B).take (Int.toNat (16:Int))).drop (Int.toNat a0.Size)).length cap14) (w':=w10) ha rfl rfl rfl (hr14 _) fun a ha=>?_;obtain ⟨t15,H15,H⟩:=bind_some H;refine cL ha (bytes_Trim.walk w10 _ hM (((arL 16 a0.B).take (Int.toNat (16:Int))).drop (Int.toNat a0.Size)) ao14 cap14 f14 ([0]:List UInt8) k _ H15) ?_;rintro _ w15 ⟨ao16,cap16,rfl,f16,hc15,hMn⟩ a ha;have hM:=hM.chg hc15;have hC:=hC.t0 hc15;refine sf ha 3 [(2,.bool ((t15.length:Int)==(0:Int)))] fun a ha=>?_;refine hK12 _ _ ?_;refine wrt ?_;obtain rfl:=oj H;refine rt1 ha rfl rfl ?_;exact ⟨rfl,hC,hM⟩
  ·refine wp_skip ?_;refine hK7 _ _ ?_;refine sq ha 1 [(2,.bool false)] fun a ha=>?_;refine wrt ?_;obtain rfl:=oj H;refine rt1 ha rfl rfl ?_;exact ⟨rfl,hC,hM⟩
 have H:=H10;refine sqd ha 2 [3] [(4,.int .i64 a0.Size),(5,.bool (a0.Size==(0:Int)))] fun a ha=>?_;refine cnH H ha (fun hc19 H=>?_) (fun hc19 H=>?_)
 ·refine wp_skip ?_;obtain rfl:=oj H;exact J10 _ _ (ha.sel (by kernel_rfl)) hE5 hn6 hC hM
 ·refine sqd ha 2 [] [(5,.bool (a0.Size==(4:Int)))] fun a ha=>?_;refine cnH H ha (fun hc21 H=>?_) (fun hc21 H=>?_)
  ·refine wp_skip ?_;obtain rfl:=oj H;exact J10 _ _ (ha.sel (by kernel_rfl)) hE5 hn6 hC hM
  ·refine wp_region_lit ?_;refine sd ha 2 [4] [(5,.bool (a0.Size==(16:Int)))] fun a ha=>?_;obtain rfl:=oj H;exact J10 _ _ (ha.sel (by kernel_rfl)) hE5 hn6 hC hM
def attr_router.f (k:Nat) (a0:S_api_Addr):Option (Bool):=((if (a0.Size==(4:Int))=true then (addr_Right.f k a0).bind fun t10=>some (t10:Bool) else some (false:Bool))).bind fun s8=>some ((s8:Bool))
set_option maxRecDepth 100000 in
theorem attr_router.walk (w:World) (M:List Nat) (hM:MS M w) (a0:S_api_Addr) (k:Nat) (r:Bool) (H:attr_router.f k a0=some r) :
    To Tryz.prog 72 [.agg (cS_api_Addr a0).toArray] w fun v w'=>v=.bool r∧Chg [] w w'∧MS (M) w':=by
 unfold attr_router.f at H;refine ent Tryz.func72 rfl [(0,.agg (cS_api_Addr a0).toArray)] rfl (by rfl) fun a ha=>?_;have hC:Chg [] w w:=Chg.refl _ _;refine wsr fun K1 hK1=>?_;refine bx (cs:=(cS_api_Addr a0)) ha rfl rfl rfl rfl rfl fun a w2 g3 hN4 ha=>?_;have hM:=hM.chg hN4.chg;have hC:=hC.t0 hN4.chg;have hE5:Cs w2 g3 0 (cS_api_Addr a0):=Box.cells (New.box hN4);refine sf ha 1 [(1,pt g3 0)] fun a ha=>?_;refine hK1 _ _ ?_;refine wsr fun K7 hK7=>?_;obtain ⟨s8,H8,H⟩:=bind_some H;have J8:∀ (a:Act) (w8:World),Has a Tryz.f72.ntmps [(2,.bool s8)]→(Chg [] w w8)→(MS (M) w8)→K7 a w8:=by
  intro a w8 ha hC hM;refine hK7 _ _ ?_;refine wrt ?_;obtain rfl:=oj H;refine rt1 ha rfl rfl ?_;exact ⟨rfl,hC,hM⟩
 have H:=H8;refine sd ha 1 [] [(3,pt g3 0)] fun a ha=>?_;refine ld ha rfl (by kernel_rfl) rfl rfl rfl (hE5 0 (.int .i64 a0.Size) (by kernel_rfl)) fun a ha=>?_;refine sd ha 2 [3] [(6,.bool (a0.Size==(4:Int)))] fun a ha=>?_;rcases Bool.eq_false_or_eq_true (a0.Size==(4:Int)) with hb9 | hb9
 ·have ha:=ha.lit hb9;have H:=ite_t hb9 H;refine ldE hE5 ha fun a ha=>?_;obtain ⟨t10,H10,H⟩:=bind_some H;refine cL ha (addr_Right.walk w2 _ hM a0 k _ H10) ?_;rintro _ w10 ⟨rfl,hc10,hMn⟩ a ha;have hM:=hM.chg hc10;have hC:=hC.t0 hc10;refine sgf ha 2 [3,0] [(2,.bool t10)] fun a ha=>?_;obtain rfl:=oj H;exact J8 _ _ (ha.sel (by kernel_rfl)) hC hM
 ·have ha:=ha.lit hb9;have H:=ite_f hb9 H;refine sgf ha 4 [1,1,4,0] [(2,.bool false)] fun a ha=>?_;obtain rfl:=oj H;exact J8 _ _ (ha.sel (by kernel_rfl)) hC hM
def attr_Right_1.f (k:Nat) (a0:S_api_Addr):Option (Bool):=(attr_router.f k a0).bind fun t8=>some ((!t8:Bool))
set_option maxRecDepth 100000 in
theorem attr_Right_1.walk (w:World) (M:List Nat) (hM:MS M w) (a0:S_api_Addr) (k:Nat) (r:Bool) (H:attr_Right_1.f k a0=some r) :
    To Tryz.prog 74 [.agg (cS_api_Addr a0).toArray] w fun v w'=>v=.bool r∧Chg [] w w'∧MS (M) w':=by
 unfold attr_Right_1.f at H;refine ent Tryz.func74 rfl [(0,.agg (cS_api_Addr a0).toArray)] rfl (by rfl) fun a ha=>?_;have hC:Chg [] w w:=Chg.refl _ _;refine wsr fun K1 hK1=>?_;refine bx (cs:=(cS_api_Addr a0)) ha rfl rfl rfl rfl rfl fun a w2 g3 hN4 ha=>?_;have hM:=hM.chg hN4.chg;have hC:=hC.t0 hN4.chg;have hE5:Cs w2 g3 0 (cS_api_Addr a0):=Box.cells (New.box hN4);refine sf ha 1 [(1,pt g3 0)] fun a ha=>?_;refine hK1 _ _ ?_;refine wsr fun K7 hK7=>?_;refine ldE hE5 ha fun a ha=>?_;obtain ⟨t8,H8,H⟩:=bind_some H;refine cL ha (attr_router.walk w2 _ hM a0 k _ H8) ?_;rintro _ w8 ⟨rfl,hc8,hMn⟩ a ha;have hM:=hM.chg hc8;have hC:=hC.t0 hc8;refine sf ha 2 [(2,.bool (!t8))] fun a ha=>?_;refine hK7 _ _ ?_;refine wrt ?_;obtain rfl:=oj H;refine rt1 ha rfl rfl ?_;exact ⟨rfl,hC,hM⟩
def api_Addr_116_attr_Right_1.l0 (k:Nat) (a0:List S_api_Addr):Nat→Int→Option ((Int) ⊕ (Unit))
  | 0,_=>none
  | kk+1,x6=>(if (decide (x6 < (a0.length:Int)))=true then (if 0≤x6∧x6 < (a0.length:Int) then (attr_Right_1.f k (rd a0 x6)).bind fun t21=>(if t21=true then some (.inl ((x6:Int))) else api_Addr_116_attr_Right_1.l0 k a0 kk (IntKind.i64.wrap (x6+(1:Int)))) else none) else some (.inr (():Unit)))
def api_Addr_116_attr_Right_1.f (k:Nat) (a0:List S_api_Addr):Option (Int):=(api_Addr_116_attr_Right_1.l0 k a0 k (0:Int)).bind fun s5=>match s5 with | .inl r=>some r | .inr s5'=>some (((-1:Int):Int))
set_option maxRecDepth 100000 in
theorem api_Addr_116_attr_Right_1.walk (w:World) (M:List Nat) (hM:MS M w) (a0:List S_api_Addr) (ao1:Option Addr) (cap1:Nat) (f1:RSl rS_api_Addr 25 w M ao1 cap1 a0) (k:Nat) (r:Int) (H:api_Addr_116_attr_Right_1.f k a0=some r) :
    To Tryz.prog 116 [.slice ao1 a0.length cap1,.func (.func 74) #[] #[]] w fun v w'=>v=.int .i64 r∧Chg [] w w'∧MS (M) w':=by
 unfold api_Addr_116_attr_Right_1.f at H;refine ent Tryz.func116 rfl [(0,.slice ao1 a0.length cap1),(1,.func (.func 74) #[] #[])] rfl (by rfl) fun a ha=>?_;have hC:Chg [] w w:=Chg.refl _ _;refine sqd ha 1 [] [] fun a ha=>?_;refine wp_seq_k fun K3 hK3=>?_;refine sqd ha 3 [] [(7,.int .i64 (a0.length:Int)),(8,.int .i64 0)] fun a ha=>?_;refine wp_block ?_;obtain ⟨s5,H5,H⟩:=bind_some H;have J5:∀ s5' (a:Act) (wx5:World),s5=.inr s5'→Has a Tryz.f116.ntmps []→(Chg [] w wx5)→(MS (M) wx5)→K3 a wx5:=by
  intro s5' a wx5 hs ha hC hM;subst hs;refine hK3 _ _ ?_;refine sq ha 1 [(4,.int .i64 (-1))] fun a ha=>?_;refine wrt ?_;obtain rfl:=oj H;refine rt1 ha rfl rfl ?_;exact ⟨rfl,hC,hM⟩
 have Hc5:=H;have H:=H5;refine wp_loop_ghost (fun kk a w5=>∃ (x6:Int),api_Addr_116_attr_Right_1.l0 k a0 kk x6=some s5∧Has a Tryz.f116.ntmps [(0,.slice ao1 a0.length cap1),(1,.func (.func 74) #[] #[]),(7,.int .i64 (a0.length:Int)),(8,.int .i64 x6)]∧(RSl rS_api_Addr 25 w5 (M) ao1 cap1 a0)∧(Chg [] w w5)∧(MS (M) w5)) k ?_ ?_
 ·skip;exact ⟨(0:Int),H,(ha.sel (by kernel_rfl)),f1,hC,hM⟩
 ·rintro kk a w5 ⟨x6,H,ha,f1,hC,hM⟩;obtain _ | kk:=kk
  ·exact nomatch (show none=some _ from H)
  rw [api_Addr_116_attr_Right_1.l0] at H;refine sqd ha 1 [] [(9,.bool (decide (x6 < (a0.length:Int))))] fun a ha=>?_;refine wp_seq_k fun K9 hK9=>?_;refine cnH H ha (fun hc10 H=>?_) (fun hc10 H=>?_)
  ·refine wp_skip ?_;refine hK9 _ _ ?_;refine wp_seq_k fun K11 hK11=>?_;refine wp_block ?_;refine sqd ha 2 [9] [(5,.int .i64 x6)] fun a ha=>?_;refine wsr fun K13 hK13=>?_;refine sd ha 3 [] [(11,.func (.func 74) #[] #[]),(12,.slice ao1 a0.length cap1),(13,.int .i64 x6)] fun a ha=>?_;obtain ⟨⟨hx14,hx14'⟩,H⟩:=ite_some H;refine ix (r:=rS_api_Addr) ha (by kernel_rfl) (by kernel_rfl) rfl rfl rfl rfl rfl f1 hx14 hx14' fun a ge15 oe16 cs17 hn20 hR18 hE19 ha=>?_;rw [rd_get] at hR18;obtain rfl:=rS_api_Addr.open hR18;refine ldE hE19 ha fun a ha=>?_;obtain ⟨t21,H21,H⟩:=bind_some H;refine clv ha (by rfl) (by rfl) (by kernel_rfl) (by rfl) (by rfl) (by rfl) (attr_Right_1.walk w5 _ hM (rd a0 x6) k _ H21) ?_;rintro _ w21 ⟨rfl,hc21,hMn⟩ a ha;have o1:=oN M w5;have o2:=oR M w5;have f1:=f1.chg hc21 o1 o2;have hM:=hM.chg hc21;have hC:=hC.t0 hc21;refine hK13 _ _ ?_;refine cnH H ha (fun hc22 H=>?_) (fun hc22 H=>?_)
   ·refine sq ha 2 [(4,.int .i64 x6)] fun a ha=>?_;refine wrt ?_;obtain rfl:=oj H;have H:=(show some _=some _ from Hc5)
    obtain rfl:=oj H;refine rt1 ha rfl rfl ?_;exact ⟨rfl,hC,hM⟩
   ·refine wp_skip ?_;refine hK11 _ _ ?_;refine wp_region_lit ?_;refine sd ha 2 [5,11,12,13] [(8,.int .i64 (IntKind.i64.wrap (x6+(1:Int))))] fun a ha=>?_;exact ⟨kk,Nat.lt_succ_self _,⟨IntKind.i64.wrap (x6+(1:Int)),H,(ha.sel (by kernel_rfl)),f1,hC,hM⟩⟩
  ·refine wx ?_;obtain rfl:=oj H;exact J5 _ _ _ rfl (ha.sel (by kernel_rfl)) hC hM
def api_Addr_attr_Right_1.f (k:Nat) (a0:List S_api_Addr):Option (Bool):=(api_Addr_116_attr_Right_1.f k a0).bind fun t4=>some ((decide (t4 ≥ (0:Int)):Bool))
set_option maxRecDepth 100000 in
theorem api_Addr_attr_Right_1.walk (w:World) (M:List Nat) (hM:MS M w) (a0:List S_api_Addr) (ao1:Option Addr) (cap1:Nat) (f1:RSl rS_api_Addr 25 w M ao1 cap1 a0) (k:Nat) (r:Bool) (H:api_Addr_attr_Right_1.f k a0=some r) :
    To Tryz.prog 73 [.slice ao1 a0.length cap1,.func (.func 74) #[] #[]] w fun v w'=>v=.bool r∧Chg [] w w'∧MS (M) w':=by
 unfold api_Addr_attr_Right_1.f at H;refine ent Tryz.func73 rfl [(0,.slice ao1 a0.length cap1),(1,.func (.func 74) #[] #[])] rfl (by rfl) fun a ha=>?_;have hC:Chg [] w w:=Chg.refl _ _;refine sqd ha 1 [] [] fun a ha=>?_;refine wsr fun K3 hK3=>?_;refine sf ha 2 [(5,.slice ao1 a0.length cap1),(6,.func (.func 74) #[] #[])] fun a ha=>?_;obtain ⟨t4,H4,H⟩:=bind_some H;refine cL ha (api_Addr_116_attr_Right_1.walk w _ hM a0 ao1 cap1 f1 k _ H4) ?_;rintro _ w4 ⟨rfl,hc4,hMn⟩ a ha;have hM:=hM.chg hc4;have hC:=hC.t0 hc4;refine sf ha 2 [(4,.bool (decide (t4 ≥ (0:Int))))] fun a ha=>?_;refine hK3 _ _ ?_;refine wrt ?_;obtain rfl:=oj H;refine rt1 ha rfl rfl ?_;exact ⟨rfl,hC,hM⟩
def addr_Of.f (a0:List Int):Option (S_api_Addr×Int):=((if ((a0.length:Int)==(0:Int))=true then some ((a0.length:Int)==(0:Int):Bool) else (if ((a0.length:Int)==(4:Int))=true then some ((a0.length:Int)==(4:Int):Bool) else some ((a0.length:Int)==(16:Int):Bool)))).bind fun s10=>(if s10=true then some (((⟨(a0.length:Int),(arC 16 (List.replicate 16 (0:Int)) a0)⟩:S_api_Addr):S_api_Addr),((0:Int):Int)) else some (((⟨(0:Int),(List.replicate 16 (0:Int))⟩:S_api_Addr):S_api_Addr),((1:Int):Int)))
set_option maxRecDepth 100000 in
theorem addr_Of.walk (w:World) (M:List Nat) (hM:MS M w) (a0:List Int) (ao1:Option Addr) (cap1:Nat) (f1:RSl (rInt .u8) 5 w M ao1 cap1 a0) (r:S_api_Addr×Int) (H:addr_Of.f a0=some r) :
    To Tryz.prog 118 [.slice ao1 a0.length cap1] w fun v w'=>v=.tuple #[.agg (cS_api_Addr r.1).toArray,.int .i64 r.2]∧Chg [] w w'∧MS (M) w':=by
 unfold addr_Of.f at H;refine ent Tryz.func118 rfl [(0,.slice ao1 a0.length cap1)] rfl (by rfl) fun a ha=>?_;have hC:Chg [] w w:=Chg.refl _ _;refine wsr fun K2 hK2=>?_;refine alE (cS_api_Addr (⟨(0:Int),(List.replicate 16 (0:Int))⟩:S_api_Addr)) ha fun a w3 g4 hN5 ha=>?_;have o1:=oN M w;have o2:=oA hN5 M;have f1:=f1.chg hN5.chg o1 o2;have e_i6:=eN hC (hN5.ge1);have hM:=MS.app hN5.ms (hM.chg hN5.chg);have hC:=hC.t0 hN5.chg;have hBg4:=hN5.box;refine sd ha 1 [] [(2,pt g4 0)] fun a ha=>?_;refine hK2 _ _ ?_;refine wp_seq_k fun K7 hK7=>?_;refine sqd ha 2 [] [(6,.int .i64 (a0.length:Int))] fun a ha=>?_;refine wp_block ?_;refine wp_seq_k fun K9 hK9=>?_;obtain ⟨s10,H10,H⟩:=bind_some H;have J10:∀ (a:Act) (w10:World),Has a Tryz.f118.ntmps [(0,.slice ao1 a0.length cap1),(2,pt g4 0),(7,.bool s10)]→(RSl (rInt .u8) 5 w10 ([g4]++(M)) ao1 cap1 a0)→(Box w10 g4 (cS_api_Addr (⟨(0:Int),(List.replicate 16 (0:Int))⟩:S_api_Addr)))→(Chg [] w w10)→(MS ([g4]++(M)) w10)→K9 a w10:=by
  intro a w10 ha f1 hBg4 hC hM;refine hK9 _ _ ?_;refine cnH H ha (fun hc11 H=>?_) (fun hc11 H=>?_)
  ·refine wsr fun K12 hK12=>?_;refine sd ha 2 [7] [(12,.int .i64 (a0.length:Int))] fun a ha=>?_;refine oP (.agg (cS_api_Addr (⟨(a0.length:Int),(List.replicate 16 (0:Int))⟩:S_api_Addr)).toArray) ha fun a ha=>?_;refine alE (cS_api_Addr (⟨(0:Int),(List.replicate 16 (0:Int))⟩:S_api_Addr)) ha fun a w13 g14 hN15 ha=>?_;have o1:=oN ([g4]++(M)) w10;have o2:=oA hN15 ([g4]++(M));have f1:=f1.chg hN15.chg o1 o2;have hBg4:=hBg4.c0 hN15.chg;have p_i16_i6:=pn (B:=[g4]) hM (hN15.ge1) fun _ hy=>ml hy;have e_i16:=eN hC (hN15.ge1);have hM:=MS.app hN15.ms (hM.chg hN15.chg);have hC:=hC.t0 hN15.chg;have hBg14:=hN15.box;refine stE (cS_api_Addr (⟨(a0.length:Int),(List.replicate 16 (0:Int))⟩:S_api_Addr)) ha hBg14 fun a w17 ha hBg14 hc18 _=>?_;have o1:Ok [g14] ([g14]++([g4]++(M))) w13.heap.size:=(fun _ h=>.inl (ml h))
   have o2:=oR ([g14]++([g4]++(M))) w13;have f1:=f1.chg hc18 o1 o2;have hBg4:=hBg4.chg hc18 ((fun x (hx:x∈[g4]) (hy:x∈[g14])=>p_i16_i6 x hy hx) g4 (by simp));have hM:=hM.chg hc18;have hC:=hC.t1 hc18 e_i16;refine hK12 _ _ ?_;refine wsr fun K19 hK19=>?_;refine sd ha 1 [12] [(4,pt g14 0),(14,pt g14 1)] fun a ha=>?_;refine oP (.slice (some ⟨g14,1,none⟩) 16 16) ha fun a ha=>?_;refine sd ha 1 [0,14] [(15,.slice (some ⟨g14,1,none⟩) 16 16),(16,.slice ao1 a0.length cap1)] fun a ha=>?_;refine cpyA (T:=5) (k:=.u8) (x0:=(List.replicate 16 (0:Int))) (N:=16) ([.int .i64 (a0.length:Int)]:List Value) ([]:List Value) ha (by kernel_rfl) (by kernel_rfl) rfl rfl rfl rfl rfl hBg14 (by kernel_rfl) f1 fun a w20 hb2 hc21 ha=>?_;have hBg4:=hBg4.chg hc21 ((fun x (hx:x∈[g4]) (hy:x∈[g14])=>p_i16_i6 x hy hx) g4 (by simp));have hM:=hM.chg hc21;have hC:=hC.t1 hc21 e_i16;have hBg14:Box w20 g14 (cS_api_Addr (⟨(a0.length:Int),(arC 16 (List.replicate 16 (0:Int)) a0)⟩:S_api_Addr)):=hb2.cast (by kernel_rfl);refine hK19 _ _ ?_;refine wsr fun K22 hK22=>?_;refine ldE (Box.cells hBg14) ha fun a ha=>?_;refine stE (cS_api_Addr (⟨(a0.length:Int),(arC 16 (List.replicate 16 (0:Int)) a0)⟩:S_api_Addr)) ha hBg4 fun a w23 ha hBg4 hc24 _=>?_;have hM:=hM.chg hc24;have hC:=hC.t1 hc24 e_i6;refine sf ha 1 [(2,pt g4 0),(3,.int .i64 0)] fun a ha=>?_;refine hK22 _ _ ?_;refine wrt ?_;have hM:MS M w23:=hM.sb fun _ h=>mr (mr (h));obtain rfl:=oj H;refine rtr ha (res2 rfl (roA ha rfl hBg4 (by kernel_rfl)) (roT ha rfl)) ?_;exact ⟨rfl,hC,hM⟩
  ·refine wp_skip ?_;refine hK7 _ _ ?_;refine wsr fun K25 hK25=>?_;refine oP (.agg (cS_api_Addr (⟨(0:Int),(List.replicate 16 (0:Int))⟩:S_api_Addr)).toArray) ha fun a ha=>?_;refine stE (cS_api_Addr (⟨(0:Int),(List.replicate 16 (0:Int))⟩:S_api_Addr)) ha hBg4 fun a w26 ha hBg4 hc27 _=>?_;have hM:=hM.chg hc27;have hC:=hC.t1 hc27 e_i6;refine sd ha 1 [0,7] [(3,.int .i64 1)] fun a ha=>?_;refine hK25 _ _ ?_;refine wrt ?_;have hM:MS M w26:=hM.sb fun _ h=>mr (h);obtain rfl:=oj H;refine rtr ha (res2 rfl (roA ha rfl hBg4 (by kernel_rfl)) (roT ha rfl)) ?_;exact ⟨rfl,hC,hM⟩
 have H:=H10;refine sqd ha 2 [] [(7,.bool ((a0.length:Int)==(0:Int)))] fun a ha=>?_;refine cnH H ha (fun hc29 H=>?_) (fun hc29 H=>?_)
 ·refine wp_skip ?_;obtain rfl:=oj H;exact J10 _ _ (ha.sel (by kernel_rfl)) f1 hBg4 hC hM
 ·refine sqd ha 2 [] [(7,.bool ((a0.length:Int)==(4:Int)))] fun a ha=>?_;refine cnH H ha (fun hc31 H=>?_) (fun hc31 H=>?_)
  ·refine wp_skip ?_;obtain rfl:=oj H;exact J10 _ _ (ha.sel (by kernel_rfl)) f1 hBg4 hC hM
  ·refine wp_region_lit ?_;refine sd ha 2 [6] [(7,.bool ((a0.length:Int)==(16:Int)))] fun a ha=>?_;obtain rfl:=oj H;exact J10 _ _ (ha.sel (by kernel_rfl)) f1 hBg4 hC hM
end Go.E
