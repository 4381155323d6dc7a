/- What the functions that the law reaches compute, and the walks that show it. -/
import Derived.Test.YtildkadbjkfgfaaGreatDoorEngU
import Derived.Test.YtildkadbjkfgfaaGreatDoorShelf
import Derived.Test.YtildkadbjkfgfaaGreatDoorEngX
import Derived.Test.YtildkadbjkfgfaaGreatDoorEngQ
import Derived.Test.YtildkadbjkfgfaaGreatDoorEngY
import Derived.Test.YtildkadbjkfgfaaGreatDoorEngZ
import Derived.Test.YtildkadbjkfgfaaGreatDoorProg
set_option linter.unusedVariables false
set_option linter.unusedSimpArgs false
namespace Go.E
open Go.RowKit Go.Proofs

structure S_api_Addr where
  Size : Int
  B : List Int
  deriving DecidableEq, Inhabited
def cS_api_Addr (x : S_api_Addr) : List Value := ([.int .i64 x.Size] : List Value) ++ (cA .u8 16 x.B)
def rS_api_Addr : Rep S_api_Addr := rIso (fun x : S_api_Addr => (x.Size, x.B)) (rPair (rInt .i64) (rArr .u8 16))
theorem rS_api_Addr.open {w : World} {M : List Nat} {cs : List Value} {x : S_api_Addr} (h : rS_api_Addr.R w M cs x) : cs = cS_api_Addr x := by
  obtain ⟨c0, k0, e0, h0, h1⟩ := h
  obtain rfl := h0
  obtain rfl := h1
  subst e0
  exact rfl
theorem rS_api_Addr.mk {w : World} {M : List Nat} (x : S_api_Addr) : rS_api_Addr.R w M (cS_api_Addr x) x := ⟨_, _, rfl, rfl, rfl⟩
def okS_api_Addr (x : S_api_Addr) : Prop := (okI .i64) x.Size ∧ (okA .u8 16) x.B
structure S_api_Join where
  Vrf : List UInt8
  Iface : List UInt8
  Source : S_api_Addr
  Group : S_api_Addr
  deriving DecidableEq, Inhabited
def cS_api_Join (x : S_api_Join) : List Value := ([.string (bstr x.Vrf)] : List Value) ++ (([.string (bstr x.Iface)] : List Value) ++ (cS_api_Addr x.Source ++ (cS_api_Addr x.Group)))
def rS_api_Join : Rep S_api_Join := rIso (fun x : S_api_Join => (x.Vrf, (x.Iface, (x.Source, x.Group)))) (rPair rStr (rPair rStr (rPair rS_api_Addr rS_api_Addr)))
theorem rS_api_Join.open {w : World} {M : List Nat} {cs : List Value} {x : S_api_Join} (h : rS_api_Join.R w M cs x) : cs = cS_api_Join x := by
  obtain ⟨c0, k0, e0, h0, ⟨c1, k1, e1, h1, ⟨c2, k2, e2, h2, h3⟩⟩⟩ := h
  have h2 := rS_api_Addr.open h2
  have h3 := rS_api_Addr.open h3
  obtain rfl := h0
  obtain rfl := h1
  obtain rfl := h2
  obtain rfl := h3
  subst e2
  subst e1
  subst e0
  exact rfl
theorem rS_api_Join.mk {w : World} {M : List Nat} (x : S_api_Join) : rS_api_Join.R w M (cS_api_Join x) x := ⟨_, _, rfl, rfl, ⟨_, _, rfl, rfl, ⟨_, _, rfl, (rS_api_Addr.mk x.Source), (rS_api_Addr.mk x.Group)⟩⟩⟩
def okS_api_Join (x : S_api_Join) : Prop := okS x.Vrf ∧ okS x.Iface ∧ (okS_api_Addr) x.Source ∧ (okS_api_Addr) x.Group
structure S_vinerylaw20_Act where
  Do : Int
  J : S_api_Join
  deriving DecidableEq, Inhabited
def cS_vinerylaw20_Act (x : S_vinerylaw20_Act) : List Value := ([.int .i64 x.Do] : List Value) ++ (cS_api_Join x.J)
def rS_vinerylaw20_Act : Rep S_vinerylaw20_Act := rIso (fun x : S_vinerylaw20_Act => (x.Do, x.J)) (rPair (rInt .i64) rS_api_Join)
theorem rS_vinerylaw20_Act.open {w : World} {M : List Nat} {cs : List Value} {x : S_vinerylaw20_Act} (h : rS_vinerylaw20_Act.R w M cs x) : cs = cS_vinerylaw20_Act x := by
  obtain ⟨c0, k0, e0, h0, h1⟩ := h
  have h1 := rS_api_Join.open h1
  obtain rfl := h0
  obtain rfl := h1
  subst e0
  exact rfl
theorem rS_vinerylaw20_Act.mk {w : World} {M : List Nat} (x : S_vinerylaw20_Act) : rS_vinerylaw20_Act.R w M (cS_vinerylaw20_Act x) x := ⟨_, _, rfl, rfl, (rS_api_Join.mk x.J)⟩
def okS_vinerylaw20_Act (x : S_vinerylaw20_Act) : Prop := (okI .i64) x.Do ∧ (okS_api_Join) x.J
structure S_joins_Joins where
  all : List S_api_Join
  deriving DecidableEq, Inhabited
def cS_joins_Joins (x : S_joins_Joins) (ao1 : Option Addr) (cap1 : Nat) : List Value := ([.slice ao1 x.all.length cap1] : List Value)
def rS_joins_Joins : Rep S_joins_Joins := rIso (fun x : S_joins_Joins => x.all) (rSl 38 rS_api_Join)
theorem rS_joins_Joins.open {w : World} {M : List Nat} {cs : List Value} {x : S_joins_Joins} (h : rS_joins_Joins.R w M cs x) : ∃ (ao1 : Option Addr) (cap1 : Nat), cs = cS_joins_Joins x ao1 cap1 ∧ RSl rS_api_Join 38 w M ao1 cap1 x.all := by
  have h0 := h
  obtain ⟨ao1, cap1, rfl, f1⟩ := h0
  exact ⟨ao1, cap1, rfl, f1⟩
theorem rS_joins_Joins.mk {w : World} {M : List Nat} (x : S_joins_Joins) {ao1 : Option Addr} {cap1 : Nat} (f1 : RSl rS_api_Join 38 w M ao1 cap1 x.all) : rS_joins_Joins.R w M (cS_joins_Joins x ao1 cap1) x := ⟨ao1, cap1, rfl, f1⟩
def okS_joins_Joins (x : S_joins_Joins) : Prop := (okL 80 (okS_api_Join)) x.all
structure S_api_Flow where
  Vrf : List UInt8
  Source : S_api_Addr
  Group : S_api_Addr
  deriving DecidableEq, Inhabited
def cS_api_Flow (x : S_api_Flow) : List Value := ([.string (bstr x.Vrf)] : List Value) ++ (cS_api_Addr x.Source ++ (cS_api_Addr x.Group))
def rS_api_Flow : Rep S_api_Flow := rIso (fun x : S_api_Flow => (x.Vrf, (x.Source, x.Group))) (rPair rStr (rPair rS_api_Addr rS_api_Addr))
theorem rS_api_Flow.open {w : World} {M : List Nat} {cs : List Value} {x : S_api_Flow} (h : rS_api_Flow.R w M cs x) : cs = cS_api_Flow x := by
  obtain ⟨c0, k0, e0, h0, ⟨c1, k1, e1, h1, h2⟩⟩ := h
  have h1 := rS_api_Addr.open h1
  have h2 := rS_api_Addr.open h2
  obtain rfl := h0
  obtain rfl := h1
  obtain rfl := h2
  subst e1
  subst e0
  exact rfl
theorem rS_api_Flow.mk {w : World} {M : List Nat} (x : S_api_Flow) : rS_api_Flow.R w M (cS_api_Flow x) x := ⟨_, _, rfl, rfl, ⟨_, _, rfl, (rS_api_Addr.mk x.Source), (rS_api_Addr.mk x.Group)⟩⟩
def okS_api_Flow (x : S_api_Flow) : Prop := okS x.Vrf ∧ (okS_api_Addr) x.Source ∧ (okS_api_Addr) x.Group
def strings_Trim.f (s c : List UInt8) : Option (List UInt8) := if s.length ≤ 9223372036854775807 ∧ c.length < 4294967281 ∧ c.all (fun b => decide (b.toNat < 128)) = true then some (Go.Lib.trimS s c) else none
theorem strings_Trim.walk (w : World) (M : List Nat) (hM : MS M w) (s c : List UInt8) (r : List UInt8) (H : strings_Trim.f s c = some r) :
    To Tryz.prog 52 [.string (bstr s), .string (bstr c)] w fun v w' => v = .string (bstr r) ∧ Chg [] w w' ∧ MS M w' := by
  unfold strings_Trim.f at H
  obtain ⟨⟨h1, h2, h3⟩, H⟩ := ite_some H
  obtain rfl := Option.some.inj H
  refine Calls.mono (Tryz.strings_Trim_laid (bstr s) (bstr c) w (by simpa [bstr, ByteArray.size] using h1) (by simpa [bstr, ByteArray.size] using h2) (by
    simp only [bstr, List.toList_toArray]
    exact ascii_of_all h3)) ?_
  rintro e w' ⟨rfl, hb⟩
  have hc : Chg [] w w' := ⟨hb.os, hb.tape, hb.output, hb.size, fun k hk _ => hb.block k hk⟩
  exact ⟨_, rfl, by simp [bstr], hc, hM.chg hc⟩

def joins_named.f (a0 : List UInt8) : Option (Bool) := ((if (!((bstr a0).toList == (bstr ([] : List UInt8)).toList)) = true then (if (decide (((bstr a0).size : Int) ≤ (8 : Int))) = true then (strings_Trim.f a0 ([97, 98, 99, 100, 101, 102, 103, 104, 105, 106, 107, 108, 109, 110, 111, 112, 113, 114, 115, 116, 117, 118, 119, 120, 121, 122] : List UInt8)).bind fun t6 => some ((bstr t6).toList == (bstr ([] : List UInt8)).toList : Bool) else some (false : Bool)) else some (false : Bool))).bind fun s3 => some ((s3 : Bool))
set_option maxRecDepth 100000 in
theorem joins_named.walk (w : World) (M : List Nat) (hM : MS M w) (a0 : List UInt8) (r : Bool) (H : joins_named.f a0 = some r) :
    To Tryz.prog 35 [.string (bstr a0)] w fun v w' => v = .bool r ∧ Chg [] w w' ∧ MS (M) w' := by
 unfold joins_named.f at H
 refine ent Tryz.func35 rfl [(0, .string (bstr a0))] rfl (by rfl) fun a ha => ?_
 have hC : Chg [] w w := Chg.refl _ _
 refine wp_seq_k fun K1 hK1 => ?_
 refine wp_region_lit ?_
 refine seg ha 1 [(0, .string (bstr a0))] (by kernel_rfl) fun a ha => ?_
 refine hK1 _ _ ?_; try clear hK1 K1
 refine wp_seq_k fun K2 hK2 => ?_
 refine wp_region_lit ?_
 obtain ⟨s3, H3, H⟩ := bind_some H
 have J3 : ∀ (a : Act) (w3 : World), Has a Tryz.f35.ntmps [(2, .bool s3)] → (Chg [] w w3) → (MS (M) w3) → K2 a w3 := by
  intro a w3 ha hC hM
  refine hK2 _ _ ?_; try clear hK2 K2
  refine wp_ret ?_
  try simp only [Exit.then, Exit.inBlock]
  obtain rfl := Option.some.inj H
  refine rt1 ha rfl rfl ?_
  exact ⟨rfl, hC, hM⟩
 have H := H3
 refine seg ha 3 [(5, .bool (!((bstr a0).toList == (bstr ([] : List UInt8)).toList))), (0, .string (bstr a0))] (by kernel_rfl) fun a ha => ?_
 rcases Bool.eq_false_or_eq_true (!((bstr a0).toList == (bstr ([] : List UInt8)).toList)) with hb4 | hb4
 ·have ha := ha.lit hb4
  have H := ite_t hb4 H
  refine sgh ha 5 [2, 2, 2, 3, 0] [(10, .bool (decide (((bstr a0).size : Int) ≤ (8 : Int)))), (0, .string (bstr a0))] (by kernel_rfl) fun a ha => ?_
  rcases Bool.eq_false_or_eq_true (decide (((bstr a0).size : Int) ≤ (8 : Int))) with hb5 | hb5
  ·have ha := ha.lit hb5
   have H := ite_t hb5 H
   refine sgh ha 1 [2] [(10, .bool true), (11, .string (bstr a0))] (by kernel_rfl) fun a ha => ?_
   obtain ⟨t6, H6, H⟩ := bind_some H
   refine cl ha (by rfl) (by kernel_rfl) (by rfl) (by rfl) (by rfl) (strings_Trim.walk w _ hM a0 ([97, 98, 99, 100, 101, 102, 103, 104, 105, 106, 107, 108, 109, 110, 111, 112, 113, 114, 115, 116, 117, 118, 119, 120, 121, 122] : List UInt8) _ H6) ?_
   rintro _ w6 ⟨rfl, hc6, hMn⟩ a ha
   have hM : MS (M) w6 := (hM.chg hc6)
   have hC := hC.trans hc6 (Ok.nil _ _)
   refine sgh ha 3 [2, 3, 0] [(2, .bool ((bstr t6).toList == (bstr ([] : List UInt8)).toList))] (by kernel_rfl) fun a ha => ?_
   obtain rfl := Option.some.inj H
   exact J3 _ _ (ha.sel (by kernel_rfl)) hC hM
  ·have ha := ha.lit hb5
   have H := ite_f hb5 H
   refine sgh ha 5 [1, 1, 1, 4, 0] [(2, .bool false)] (by kernel_rfl) fun a ha => ?_
   obtain rfl := Option.some.inj H
   exact J3 _ _ (ha.sel (by kernel_rfl)) hC hM
 ·have ha := ha.lit hb4
  have H := ite_f hb4 H
  refine sgh ha 10 [1, 1, 1, 4, 0, 1, 1, 1, 4, 0] [(2, .bool false)] (by kernel_rfl) fun a ha => ?_
  obtain rfl := Option.some.inj H
  exact J3 _ _ (ha.sel (by kernel_rfl)) hC hM
def bytes_trimRightByte.l0 (a1 : Int) : Nat → (List Int) → Option (List Int)
  | 0, _ => none
  | kk + 1, x6 => ((if (decide ((x6.length : Int) > (0 : Int))) = true then (if 0 ≤ (IntKind.i64.wrap ((x6.length : Int) - (1 : Int))) ∧ (IntKind.i64.wrap ((x6.length : Int) - (1 : Int))) < (x6.length : Int) then some ((rd x6 (IntKind.i64.wrap ((x6.length : Int) - (1 : Int)))) == a1 : Bool) else none) else some (false : Bool))).bind fun s11 => (if s11 = true then (if 0 ≤ (0 : Int) ∧ (0 : Int) ≤ (IntKind.i64.wrap ((x6.length : Int) - (1 : Int))) ∧ (IntKind.i64.wrap ((x6.length : Int) - (1 : Int))) ≤ (x6.length : Int) then bytes_trimRightByte.l0 a1 kk ((x6.take (Int.toNat (IntKind.i64.wrap ((x6.length : Int) - (1 : Int))))).drop (Int.toNat (0 : Int))) else none) else some (x6 : List Int))
def bytes_trimRightByte.f (k : Nat) (a0 : List Int) (a1 : Int) : Option (List Int) := (bytes_trimRightByte.l0 a1 k a0).bind fun s4 => some ((s4 : List Int))
set_option maxRecDepth 100000 in
theorem bytes_trimRightByte.walk (w : World) (M : List Nat) (hM : MS M w) (a0 : List Int) (ao1 : Option Addr) (cap1 : Nat) (f1 : RSl (rInt .u8) 5 w M ao1 cap1 a0) (a1 : Int) (k : Nat) (r : List Int) (H : bytes_trimRightByte.f k a0 a1 = some r) :
    To Tryz.prog 70 [.slice ao1 a0.length cap1, .int .u8 a1] w fun v w' => ∃ (ao23 : Option Addr) (cap23 : Nat), v = .slice ao23 r.length cap23 ∧ (RSl (rInt .u8) 5 w' (M) ao23 cap23 r) ∧ Chg [] w w' ∧ MS (M) w' := by
 unfold bytes_trimRightByte.f at H
 refine ent Tryz.func70 rfl [(0, .slice ao1 a0.length cap1), (1, .int .u8 a1)] rfl (by rfl) fun a ha => ?_
 have hC : Chg [] w w := Chg.refl _ _
 refine wp_seq_k fun K2 hK2 => ?_
 refine wp_region_lit ?_
 refine seg ha 1 [(0, .slice ao1 a0.length cap1), (1, .int .u8 a1)] (by kernel_rfl) fun a ha => ?_
 refine hK2 _ _ ?_; try clear hK2 K2
 refine wp_seq_k fun K3 hK3 => ?_
 refine wp_block ?_
 obtain ⟨s4, H4, H⟩ := bind_some H
 have J4 : ∀ (a : Act) (wx4 : World) (ao7 : Option Addr) (cap7 : Nat), Has a Tryz.f70.ntmps [(0, .slice ao7 s4.length cap7)] → (RSl (rInt .u8) 5 wx4 (M) ao7 cap7 s4) → (Chg [] w wx4) → (MS (M) wx4) → K3 a wx4 := by
  intro a wx4 ao7 cap7 ha f7 hC hM
  refine hK3 _ _ ?_; try clear hK3 K3
  refine wp_seq_k fun K8 hK8 => ?_
  refine wp_region_lit ?_
  refine seg ha 2 [(4, .slice ao7 s4.length cap7)] (by kernel_rfl) fun a ha => ?_
  refine hK8 _ _ ?_; try clear hK8 K8
  refine wp_ret ?_
  try simp only [Exit.then, Exit.inBlock]
  obtain rfl := Option.some.inj H
  refine rt1 ha rfl rfl ?_
  exact ⟨ao7, cap7, rfl, f7, hC, hM⟩
 have Hc4 := H
 have H := H4
 refine wp_loop_ghost (fun kk a w4 => ∃ (x6 : List Int) (ao5 : Option Addr) (cap5 : Nat), bytes_trimRightByte.l0 a1 kk x6 = some s4 ∧ Has a Tryz.f70.ntmps [(0, .slice ao5 x6.length cap5), (1, .int .u8 a1)] ∧ (RSl (rInt .u8) 5 w4 (M) ao5 cap5 x6) ∧ (Chg [] w w4) ∧ (MS (M) w4)) k ?_ ?_
 ·skip
  exact ⟨a0, ao1, cap1, H, (ha.sel (by kernel_rfl)), f1, hC, hM⟩
 ·rintro kk a w4 ⟨x6, ao5, cap5, H, ha, f5, hC, hM⟩
  obtain _ | kk := kk
  ·exact nomatch (show none = some _ from H)
  rw [bytes_trimRightByte.l0] at H
  refine wp_seq_k fun K9 hK9 => ?_
  refine wp_seq_k fun K10 hK10 => ?_
  refine wp_region_lit ?_
  obtain ⟨s11, H11, H⟩ := bind_some H
  have J11 : ∀ (a : Act) (w11 : World), Has a Tryz.f70.ntmps [(0, .slice ao5 x6.length cap5), (1, .int .u8 a1), (17, .bool s11)] → (RSl (rInt .u8) 5 w11 (M) ao5 cap5 x6) → (Chg [] w w11) → (MS (M) w11) → K10 a w11 := by
   intro a w11 ha f5 hC hM
   refine hK10 _ _ ?_; try clear hK10 K10
   refine cnd ha rfl (fun hc12 => ?_) (fun hc12 => ?_)
   ·have H := ite_t hc12 H
    refine wp_skip ?_
    refine hK9 _ _ ?_; try clear hK9 K9
    refine wp_block ?_
    refine wp_region_lit ?_
    refine seg ha 4 [(1, .int .u8 a1), (18, .slice ao5 x6.length cap5), (21, .int .i64 (IntKind.i64.wrap ((x6.length : Int) - (1 : Int))))] (by kernel_rfl) fun a ha => ?_
    obtain ⟨⟨hx13, hx13', hx13''⟩, H⟩ := ite_some H
    refine slc (r := (rInt .u8)) (l := (0 : Int)) (h := (IntKind.i64.wrap ((x6.length : Int) - (1 : Int)))) ha (by kernel_rfl) (by kernel_rfl) rfl rfl rfl rfl rfl rfl f5 hx13 hx13' hx13'' fun a ao14 cap14 f14 ha => ?_
    refine seg ha 1 [(0, .slice ao14 ((x6.take (Int.toNat (IntKind.i64.wrap ((x6.length : Int) - (1 : Int))))).drop (Int.toNat (0 : Int))).length cap14), (1, .int .u8 a1)] (by kernel_rfl) fun a ha => ?_
    exact ⟨kk, Nat.lt_succ_self _, ⟨((x6.take (Int.toNat (IntKind.i64.wrap ((x6.length : Int) - (1 : Int))))).drop (Int.toNat (0 : Int))), ao14, cap14, H, (ha.sel (by kernel_rfl)), f14, hC, hM⟩⟩
   ·have H := ite_f hc12 H
    refine wp_exit ?_
    simp only [Exit.then, Exit.inBlock, ↓reduceIte, Nat.reduceEqDiff]
    obtain rfl := Option.some.inj H
    exact J4 _ _ ao5 cap5 (ha.sel (by kernel_rfl)) f5 hC hM
  have H := H11
  refine seg ha 4 [(8, .bool (decide ((x6.length : Int) > (0 : Int)))), (0, .slice ao5 x6.length cap5), (1, .int .u8 a1)] (by kernel_rfl) fun a ha => ?_
  rcases Bool.eq_false_or_eq_true (decide ((x6.length : Int) > (0 : Int))) with hb15 | hb15
  ·have ha := ha.lit hb15
   have H := ite_t hb15 H
   refine sgh ha 4 [2, 2, 2, 2] [(0, .slice ao5 x6.length cap5), (1, .int .u8 a1), (8, .bool true), (9, .slice ao5 x6.length cap5), (12, .int .i64 (IntKind.i64.wrap ((x6.length : Int) - (1 : Int))))] (by kernel_rfl) fun a ha => ?_
   obtain ⟨⟨hx16, hx16'⟩, H⟩ := ite_some H
   refine ix (r := (rInt .u8)) ha (by kernel_rfl) (by kernel_rfl) rfl rfl rfl rfl rfl f5 hx16 hx16' fun a ge17 oe18 cs19 hn22 hR20 hE21 ha => ?_
   rw [rd_get] at hR20
   obtain rfl := hR20
   have hE21 : ∀ j v, ([.int .u8 (rd x6 (IntKind.i64.wrap ((x6.length : Int) - (1 : Int))))] : List Value)[j]? = some v → w4.cell? ⟨ge17, oe18 + j, none⟩ = some v := hE21
   refine ld ha rfl (by kernel_rfl) rfl rfl rfl (hE21 0 (.int .u8 (rd x6 (IntKind.i64.wrap ((x6.length : Int) - (1 : Int))))) (by kernel_rfl)) fun a ha => ?_
   refine sgh ha 3 [2, 2, 3] [(0, .slice ao5 x6.length cap5), (1, .int .u8 a1), (17, .bool ((rd x6 (IntKind.i64.wrap ((x6.length : Int) - (1 : Int)))) == a1))] (by kernel_rfl) fun a ha => ?_
   obtain rfl := Option.some.inj H
   exact J11 _ _ (ha.sel (by kernel_rfl)) f5 hC hM
  ·have ha := ha.lit hb15
   have H := ite_f hb15 H
   refine sgh ha 9 [1, 1, 1, 1, 1, 1, 1, 1, 4] [(0, .slice ao5 x6.length cap5), (1, .int .u8 a1), (17, .bool false)] (by kernel_rfl) fun a ha => ?_
   obtain rfl := Option.some.inj H
   exact J11 _ _ (ha.sel (by kernel_rfl)) f5 hC hM
def bytes_trimLeftByte.l0 (a1 : Int) : Nat → (List Int) → Option (List Int)
  | 0, _ => none
  | kk + 1, x6 => ((if (decide ((x6.length : Int) > (0 : Int))) = true then (if 0 ≤ (0 : Int) ∧ (0 : Int) < (x6.length : Int) then some ((rd x6 (0 : Int)) == a1 : Bool) else none) else some (false : Bool))).bind fun s15 => (if s15 = true then (if 0 ≤ (1 : Int) ∧ (1 : Int) ≤ (x6.length : Int) ∧ (x6.length : Int) ≤ (x6.length : Int) then bytes_trimLeftByte.l0 a1 kk ((x6.take (Int.toNat (x6.length : Int))).drop (Int.toNat (1 : Int))) else none) else some (x6 : List Int))
def bytes_trimLeftByte.f (k : Nat) (a0 : List Int) (a1 : Int) : Option (List Int) := (bytes_trimLeftByte.l0 a1 k a0).bind fun s4 => (if ((s4.length : Int) == (0 : Int)) = true then some ((([] : List Int) : List Int)) else some ((s4 : List Int)))
set_option maxRecDepth 100000 in
theorem bytes_trimLeftByte.walk (w : World) (M : List Nat) (hM : MS M w) (a0 : List Int) (ao1 : Option Addr) (cap1 : Nat) (f1 : RSl (rInt .u8) 5 w M ao1 cap1 a0) (a1 : Int) (k : Nat) (r : List Int) (H : bytes_trimLeftByte.f k a0 a1 = some r) :
    To Tryz.prog 69 [.slice ao1 a0.length cap1, .int .u8 a1] w fun v w' => ∃ (ao27 : Option Addr) (cap27 : Nat), v = .slice ao27 r.length cap27 ∧ (RSl (rInt .u8) 5 w' (M) ao27 cap27 r) ∧ Chg [] w w' ∧ MS (M) w' := by
 unfold bytes_trimLeftByte.f at H
 refine ent Tryz.func69 rfl [(0, .slice ao1 a0.length cap1), (1, .int .u8 a1)] rfl (by rfl) fun a ha => ?_
 have hC : Chg [] w w := Chg.refl _ _
 refine wp_seq_k fun K2 hK2 => ?_
 refine wp_region_lit ?_
 refine seg ha 1 [(0, .slice ao1 a0.length cap1), (1, .int .u8 a1)] (by kernel_rfl) fun a ha => ?_
 refine hK2 _ _ ?_; try clear hK2 K2
 refine wp_seq_k fun K3 hK3 => ?_
 refine wp_block ?_
 obtain ⟨s4, H4, H⟩ := bind_some H
 have J4 : ∀ (a : Act) (wx4 : World) (ao7 : Option Addr) (cap7 : Nat), Has a Tryz.f69.ntmps [(0, .slice ao7 s4.length cap7)] → (RSl (rInt .u8) 5 wx4 (M) ao7 cap7 s4) → (Chg [] w wx4) → (MS (M) wx4) → K3 a wx4 := by
  intro a wx4 ao7 cap7 ha f7 hC hM
  refine hK3 _ _ ?_; try clear hK3 K3
  refine wp_seq_k fun K8 hK8 => ?_
  refine wp_seq_k fun K9 hK9 => ?_
  refine wp_region_lit ?_
  refine seg ha 3 [(0, .slice ao7 s4.length cap7), (19, .bool ((s4.length : Int) == (0 : Int)))] (by kernel_rfl) fun a ha => ?_
  refine hK9 _ _ ?_; try clear hK9 K9
  refine cnd ha rfl (fun hc10 => ?_) (fun hc10 => ?_)
  ·have H := ite_t hc10 H
   refine wp_seq_k fun K11 hK11 => ?_
   refine wp_region_lit ?_
   refine seg ha 1 [(4, .slice none 0 0)] (by kernel_rfl) fun a ha => ?_
   refine hK11 _ _ ?_; try clear hK11 K11
   refine wp_ret ?_
   try simp only [Exit.then, Exit.inBlock]
   obtain rfl := Option.some.inj H
   refine rt1 ha rfl rfl ?_
   exact ⟨none, 0, rfl, (RSl.nil (Nat.zero_le _)), hC, hM⟩
  ·have H := ite_f hc10 H
   refine wp_skip ?_
   refine hK8 _ _ ?_; try clear hK8 K8
   refine wp_seq_k fun K12 hK12 => ?_
   refine wp_region_lit ?_
   refine seg ha 2 [(4, .slice ao7 s4.length cap7)] (by kernel_rfl) fun a ha => ?_
   refine hK12 _ _ ?_; try clear hK12 K12
   refine wp_ret ?_
   try simp only [Exit.then, Exit.inBlock]
   obtain rfl := Option.some.inj H
   refine rt1 ha rfl rfl ?_
   exact ⟨ao7, cap7, rfl, f7, hC, hM⟩
 have Hc4 := H
 have H := H4
 refine wp_loop_ghost (fun kk a w4 => ∃ (x6 : List Int) (ao5 : Option Addr) (cap5 : Nat), bytes_trimLeftByte.l0 a1 kk x6 = some s4 ∧ Has a Tryz.f69.ntmps [(0, .slice ao5 x6.length cap5), (1, .int .u8 a1)] ∧ (RSl (rInt .u8) 5 w4 (M) ao5 cap5 x6) ∧ (Chg [] w w4) ∧ (MS (M) w4)) k ?_ ?_
 ·skip
  exact ⟨a0, ao1, cap1, H, (ha.sel (by kernel_rfl)), f1, hC, hM⟩
 ·rintro kk a w4 ⟨x6, ao5, cap5, H, ha, f5, hC, hM⟩
  obtain _ | kk := kk
  ·exact nomatch (show none = some _ from H)
  rw [bytes_trimLeftByte.l0] at H
  refine wp_seq_k fun K13 hK13 => ?_
  refine wp_seq_k fun K14 hK14 => ?_
  refine wp_region_lit ?_
  obtain ⟨s15, H15, H⟩ := bind_some H
  have J15 : ∀ (a : Act) (w15 : World), Has a Tryz.f69.ntmps [(0, .slice ao5 x6.length cap5), (1, .int .u8 a1), (14, .bool s15)] → (RSl (rInt .u8) 5 w15 (M) ao5 cap5 x6) → (Chg [] w w15) → (MS (M) w15) → K14 a w15 := by
   intro a w15 ha f5 hC hM
   refine hK14 _ _ ?_; try clear hK14 K14
   refine cnd ha rfl (fun hc16 => ?_) (fun hc16 => ?_)
   ·have H := ite_t hc16 H
    refine wp_skip ?_
    refine hK13 _ _ ?_; try clear hK13 K13
    refine wp_block ?_
    refine wp_region_lit ?_
    refine seg ha 1 [(1, .int .u8 a1), (15, .slice ao5 x6.length cap5)] (by kernel_rfl) fun a ha => ?_
    obtain ⟨⟨hx17, hx17', hx17''⟩, H⟩ := ite_some H
    refine slc (r := (rInt .u8)) (l := (1 : Int)) (h := (x6.length : Int)) ha (by kernel_rfl) (by kernel_rfl) rfl rfl rfl rfl rfl rfl f5 hx17 hx17' hx17'' fun a ao18 cap18 f18 ha => ?_
    refine seg ha 1 [(0, .slice ao18 ((x6.take (Int.toNat (x6.length : Int))).drop (Int.toNat (1 : Int))).length cap18), (1, .int .u8 a1)] (by kernel_rfl) fun a ha => ?_
    exact ⟨kk, Nat.lt_succ_self _, ⟨((x6.take (Int.toNat (x6.length : Int))).drop (Int.toNat (1 : Int))), ao18, cap18, H, (ha.sel (by kernel_rfl)), f18, hC, hM⟩⟩
   ·have H := ite_f hc16 H
    refine wp_exit ?_
    simp only [Exit.then, Exit.inBlock, ↓reduceIte, Nat.reduceEqDiff]
    obtain rfl := Option.some.inj H
    exact J4 _ _ ao5 cap5 (ha.sel (by kernel_rfl)) f5 hC hM
  have H := H15
  refine seg ha 4 [(8, .bool (decide ((x6.length : Int) > (0 : Int)))), (0, .slice ao5 x6.length cap5), (1, .int .u8 a1)] (by kernel_rfl) fun a ha => ?_
  rcases Bool.eq_false_or_eq_true (decide ((x6.length : Int) > (0 : Int))) with hb19 | hb19
  ·have ha := ha.lit hb19
   have H := ite_t hb19 H
   refine sgh ha 1 [2] [(0, .slice ao5 x6.length cap5), (1, .int .u8 a1), (8, .bool true), (9, .slice ao5 x6.length cap5)] (by kernel_rfl) fun a ha => ?_
   obtain ⟨⟨hx20, hx20'⟩, H⟩ := ite_some H
   refine ix (r := (rInt .u8)) ha (by kernel_rfl) (by kernel_rfl) rfl rfl rfl rfl rfl f5 hx20 hx20' fun a ge21 oe22 cs23 hn26 hR24 hE25 ha => ?_
   rw [rd_get] at hR24
   obtain rfl := hR24
   have hE25 : ∀ j v, ([.int .u8 (rd x6 (0 : Int))] : List Value)[j]? = some v → w4.cell? ⟨ge21, oe22 + j, none⟩ = some v := hE25
   refine ld ha rfl (by kernel_rfl) rfl rfl rfl (hE25 0 (.int .u8 (rd x6 (0 : Int))) (by kernel_rfl)) fun a ha => ?_
   refine sgh ha 3 [2, 2, 3] [(0, .slice ao5 x6.length cap5), (1, .int .u8 a1), (14, .bool ((rd x6 (0 : Int)) == a1))] (by kernel_rfl) fun a ha => ?_
   obtain rfl := Option.some.inj H
   exact J15 _ _ (ha.sel (by kernel_rfl)) f5 hC hM
  ·have ha := ha.lit hb19
   have H := ite_f hb19 H
   refine sgh ha 6 [1, 1, 1, 1, 1, 4] [(0, .slice ao5 x6.length cap5), (1, .int .u8 a1), (14, .bool false)] (by kernel_rfl) fun a ha => ?_
   obtain rfl := Option.some.inj H
   exact J15 _ _ (ha.sel (by kernel_rfl)) f5 hC hM
def bytes_Trim.f (k : Nat) (a0 : List Int) (a1 : List UInt8) : Option (List Int) := (if ((a0.length : Int) == (0 : Int)) = true then some ((([] : List Int) : List Int)) else (if ((bstr a1).toList == (bstr ([] : List UInt8)).toList) = true then some ((a0 : List Int)) else ((if (((bstr a1).size : Int) == (1 : Int)) = true then (if 0 ≤ (0 : Int) ∧ (0 : Int) < (a1.length : Int) then some (decide (((a1.getD (Int.toNat (0 : Int)) 0).toNat : Int) < (128 : Int)) : Bool) else none) else some (false : Bool))).bind fun s13 => (if s13 = true then (if 0 ≤ (0 : Int) ∧ (0 : Int) < (a1.length : Int) then (if 0 ≤ (0 : Int) ∧ (0 : Int) < (a1.length : Int) then (bytes_trimRightByte.f k a0 ((a1.getD (Int.toNat (0 : Int)) 0).toNat : Int)).bind fun t21 => (bytes_trimLeftByte.f k t21 ((a1.getD (Int.toNat (0 : Int)) 0).toNat : Int)).bind fun t24 => some ((t24 : List Int)) else none) else none) else none)))
set_option maxRecDepth 100000 in
theorem bytes_Trim.walk (w : World) (M : List Nat) (hM : MS M w) (a0 : List Int) (ao1 : Option Addr) (cap1 : Nat) (f1 : RSl (rInt .u8) 5 w M ao1 cap1 a0) (a1 : List UInt8) (k : Nat) (r : List Int) (H : bytes_Trim.f k a0 a1 = some r) :
    To Tryz.prog 53 [.slice ao1 a0.length cap1, .string (bstr a1)] w fun v w' => ∃ (ao28 : Option Addr) (cap28 : Nat), v = .slice ao28 r.length cap28 ∧ (RSl (rInt .u8) 5 w' (M) ao28 cap28 r) ∧ Chg [] w w' ∧ MS (M) w' := by
 unfold bytes_Trim.f at H
 refine ent Tryz.func53 rfl [(0, .slice ao1 a0.length cap1), (1, .string (bstr a1))] rfl (by rfl) fun a ha => ?_
 have hC : Chg [] w w := Chg.refl _ _
 refine wp_seq_k fun K2 hK2 => ?_
 refine wp_region_lit ?_
 refine seg ha 1 [(0, .slice ao1 a0.length cap1), (1, .string (bstr a1))] (by kernel_rfl) fun a ha => ?_
 refine hK2 _ _ ?_; try clear hK2 K2
 refine wp_seq_k fun K3 hK3 => ?_
 refine wp_seq_k fun K4 hK4 => ?_
 refine wp_region_lit ?_
 refine seg ha 3 [(0, .slice ao1 a0.length cap1), (1, .string (bstr a1)), (9, .bool ((a0.length : Int) == (0 : Int)))] (by kernel_rfl) fun a ha => ?_
 refine hK4 _ _ ?_; try clear hK4 K4
 refine cnd ha rfl (fun hc5 => ?_) (fun hc5 => ?_)
 ·have H := ite_t hc5 H
  refine wp_seq_k fun K6 hK6 => ?_
  refine wp_region_lit ?_
  refine seg ha 1 [(4, .slice none 0 0)] (by kernel_rfl) fun a ha => ?_
  refine hK6 _ _ ?_; try clear hK6 K6
  refine wp_ret ?_
  try simp only [Exit.then, Exit.inBlock]
  obtain rfl := Option.some.inj H
  refine rt1 ha rfl rfl ?_
  exact ⟨none, 0, rfl, (RSl.nil (Nat.zero_le _)), hC, hM⟩
 ·have H := ite_f hc5 H
  refine wp_skip ?_
  refine hK3 _ _ ?_; try clear hK3 K3
  refine wp_seq_k fun K7 hK7 => ?_
  refine wp_seq_k fun K8 hK8 => ?_
  refine wp_region_lit ?_
  refine seg ha 2 [(0, .slice ao1 a0.length cap1), (1, .string (bstr a1)), (11, .bool ((bstr a1).toList == (bstr ([] : List UInt8)).toList))] (by kernel_rfl) fun a ha => ?_
  refine hK8 _ _ ?_; try clear hK8 K8
  refine cnd ha rfl (fun hc9 => ?_) (fun hc9 => ?_)
  ·have H := ite_t hc9 H
   refine wp_seq_k fun K10 hK10 => ?_
   refine wp_region_lit ?_
   refine seg ha 2 [(4, .slice ao1 a0.length cap1)] (by kernel_rfl) fun a ha => ?_
   refine hK10 _ _ ?_; try clear hK10 K10
   refine wp_ret ?_
   try simp only [Exit.then, Exit.inBlock]
   obtain rfl := Option.some.inj H
   refine rt1 ha rfl rfl ?_
   exact ⟨ao1, cap1, rfl, f1, hC, hM⟩
  ·have H := ite_f hc9 H
   refine wp_skip ?_
   refine hK7 _ _ ?_; try clear hK7 K7
   refine wp_seq_k fun K11 hK11 => ?_
   refine wp_seq_k fun K12 hK12 => ?_
   refine wp_region_lit ?_
   obtain ⟨s13, H13, H⟩ := bind_some H
   have J13 : ∀ (a : Act) (w13 : World), Has a Tryz.f53.ntmps [(0, .slice ao1 a0.length cap1), (1, .string (bstr a1)), (20, .bool s13)] → (RSl (rInt .u8) 5 w13 (M) ao1 cap1 a0) → (Chg [] w w13) → (MS (M) w13) → K12 a w13 := by
    intro a w13 ha f1 hC hM
    refine hK12 _ _ ?_; try clear hK12 K12
    refine cnd ha rfl (fun hc14 => ?_) (fun hc14 => ?_)
    ·have H := ite_t hc14 H
     refine wp_seq_k fun K15 hK15 => ?_
     have okS : Ok [] (M) w13.heap.size := Ok.nil _ _
     have z_f1 := f1
     refine drw (fun w' => Chg [] w13 w') (by kernel_rfl) fun w16 hc17 _ => ?_
     have hS : Chg [] w13 w16 := (Chg.refl [] _).trans hc17 (Ok.nil _ _)
     have o1 : Ok [] (M) w13.heap.size := Ok.nil _ _
     have o2 : Ok (M) (M) w13.heap.size := (Ok.refl _ _)
     have f1 := f1.chg hc17 o1 o2
     have hM : MS (M) w16 := (hM.chg hc17)
     have hC := hC.trans hc17 (Ok.nil _ _)
     refine tkpz 0 0 (.slice ao1 a0.length cap1) ha (s := hS) (q := fun a ha => ?_)
     refine tkpz 1 0 (.string (bstr a1)) ha (s := hS) (q := fun a ha => ?_)
     obtain ⟨⟨hx18, hx18'⟩, H⟩ := ite_some H
     refine tkz 2 ha (v := .int .u8 ((a1.getD (Int.toNat (0 : Int)) 0).toNat : Int)) (y := fun w' hs => sidx_run (l := a1) (k := .i64) (i := (0 : Int)) ha (by kernel_rfl) (by rfl) (by rfl) hx18 hx18' w') (s := hS) (q := fun a ha => ?_)
     refine tkpz 4 0 (.string (bstr a1)) ha (s := hS) (q := fun a ha => ?_)
     obtain ⟨⟨hx19, hx19'⟩, H⟩ := ite_some H
     refine tkz 5 ha (v := .int .u8 ((a1.getD (Int.toNat (0 : Int)) 0).toNat : Int)) (y := fun w' hs => sidx_run (l := a1) (k := .i64) (i := (0 : Int)) ha (by kernel_rfl) (by rfl) (by rfl) hx19 hx19' w') (s := hS) (q := fun a ha => ?_)
     refine ac 3 (by kernel_rfl) (by rfl) fun K20 hK20 => ?_
     obtain ⟨t21, H21, H⟩ := bind_some H
     refine cl ha (by rfl) (by kernel_rfl) (by rfl) (by rfl) (by rfl) (bytes_trimRightByte.walk w16 _ hM a0 ao1 cap1 f1 ((a1.getD (Int.toNat (0 : Int)) 0).toNat : Int) k _ H21) ?_
     rintro _ w21 ⟨ao22, cap22, rfl, f22, hc21, hMn⟩ a ha
     have o1 : Ok [] (M) w16.heap.size := Ok.nil _ _
     have o2 : Ok (M) (M) w16.heap.size := (Ok.refl _ _)
     have f1 := f1.chg hc21 o1 o2
     have hM : MS (M) w21 := (hM.chg hc21)
     have hC := hC.trans hc21 (Ok.nil _ _)
     have hS := hS.trans hc21 (Ok.nil _ _)
     refine ae hK20 hS ?_; clear hK20 K20
     refine ac 6 (by kernel_rfl) (by rfl) fun K23 hK23 => ?_
     obtain ⟨t24, H24, H⟩ := bind_some H
     refine cl ha (by rfl) (by kernel_rfl) (by rfl) (by rfl) (by rfl) (bytes_trimLeftByte.walk w21 _ hM t21 ao22 cap22 f22 ((a1.getD (Int.toNat (0 : Int)) 0).toNat : Int) k _ H24) ?_
     rintro _ w24 ⟨ao25, cap25, rfl, f25, hc24, hMn⟩ a ha
     have o1 : Ok [] (M) w21.heap.size := Ok.nil _ _
     have o2 : Ok (M) (M) w21.heap.size := (Ok.refl _ _)
     have f1 := f1.chg hc24 o1 o2
     have f22 := f22.chg hc24 o1 o2
     have hM : MS (M) w24 := (hM.chg hc24)
     have hC := hC.trans hc24 (Ok.nil _ _)
     have hS := hS.trans hc24 (Ok.nil _ _)
     refine ae hK23 hS ?_; clear hK23 K23
     refine tkpz 7 0 (.slice ao25 t24.length cap25) ha (s := hS) (q := fun a ha => ?_)
     refine dn (by kernel_rfl) ?_
     refine hK15 _ _ ?_; try clear hK15 K15
     refine wp_ret ?_
     try simp only [Exit.then, Exit.inBlock]
     obtain rfl := Option.some.inj H
     refine rt1 ha rfl rfl ?_
     exact ⟨ao25, cap25, rfl, f25, hC, hM⟩
    ·have H := ite_f hc14 H
     exact nomatch (show none = some _ from H)
   have H := H13
   refine seg ha 4 [(16, .bool (((bstr a1).size : Int) == (1 : Int))), (0, .slice ao1 a0.length cap1), (1, .string (bstr a1))] (by kernel_rfl) fun a ha => ?_
   rcases Bool.eq_false_or_eq_true (((bstr a1).size : Int) == (1 : Int)) with hb26 | hb26
   ·have ha := ha.lit hb26
    have H := ite_t hb26 H
    refine sgh ha 1 [2] [(0, .slice ao1 a0.length cap1), (1, .string (bstr a1)), (16, .bool true), (17, .string (bstr a1))] (by kernel_rfl) fun a ha => ?_
    obtain ⟨⟨hx27, hx27'⟩, H⟩ := ite_some H
    refine hop (v := .int .u8 ((a1.getD (Int.toNat (0 : Int)) 0).toNat : Int)) (w' := w) ha rfl rfl rfl (sidx_run (l := a1) (k := .i64) (i := (0 : Int)) ha (by kernel_rfl) (by rfl) (by rfl) hx27 hx27' _) fun a ha => ?_
    refine sgh ha 2 [2, 3] [(0, .slice ao1 a0.length cap1), (1, .string (bstr a1)), (20, .bool (decide (((a1.getD (Int.toNat (0 : Int)) 0).toNat : Int) < (128 : Int))))] (by kernel_rfl) fun a ha => ?_
    obtain rfl := Option.some.inj H
    exact J13 _ _ (ha.sel (by kernel_rfl)) f1 hC hM
   ·have ha := ha.lit hb26
    have H := ite_f hb26 H
    refine sgh ha 4 [1, 1, 1, 4] [(0, .slice ao1 a0.length cap1), (1, .string (bstr a1)), (20, .bool false)] (by kernel_rfl) fun a ha => ?_
    obtain rfl := Option.some.inj H
    exact J13 _ _ (ha.sel (by kernel_rfl)) f1 hC hM
def addr_Right.f (k : Nat) (a0 : S_api_Addr) : Option (Bool) := ((if (a0.Size == (0 : Int)) = true then some (a0.Size == (0 : Int) : Bool) else (if (a0.Size == (4 : Int)) = true then some (a0.Size == (4 : Int) : Bool) else some (a0.Size == (16 : Int) : Bool)))).bind fun s10 => (if s10 = true then (if 0 ≤ a0.Size ∧ a0.Size ≤ (16 : Int) ∧ (16 : Int) ≤ (16 : Int) then (bytes_Trim.f k (((arL 16 a0.B).take (Int.toNat (16 : Int))).drop (Int.toNat a0.Size)) ([0] : List UInt8)).bind fun t15 => some (((t15.length : Int) == (0 : Int) : Bool)) else none) else some ((false : Bool)))
set_option maxRecDepth 100000 in
theorem addr_Right.walk (w : World) (M : List Nat) (hM : MS M w) (a0 : S_api_Addr) (k : Nat) (r : Bool) (H : addr_Right.f k a0 = some r) :
    To Tryz.prog 36 [.agg (cS_api_Addr a0).toArray] w fun v w' => v = .bool r ∧ Chg [] w w' ∧ MS (M) w' := by
 unfold addr_Right.f at H
 refine ent Tryz.func36 rfl [(0, .agg (cS_api_Addr a0).toArray)] rfl (by rfl) fun a ha => ?_
 have hC : Chg [] w w := Chg.refl _ _
 refine wp_seq_k fun K1 hK1 => ?_
 refine wp_region_lit ?_
 refine bx (cs := (cS_api_Addr a0)) ha rfl rfl rfl rfl rfl fun a w2 g3 hN4 ha => ?_
 have hn6 := hN4.notin hM
 have hM : MS (M) w2 := (hM.chg hN4.chg)
 have hC := hC.trans hN4.chg (Ok.nil _ _)
 have hE5 : ∀ j v, (cS_api_Addr a0)[j]? = some v → w2.cell? ⟨g3, 0 + j, none⟩ = some v := Box.cells (New.box hN4)
 refine seg ha 1 [(1, .pointer (some ⟨g3, 0, none⟩))] (by kernel_rfl) fun a ha => ?_
 refine hK1 _ _ ?_; try clear hK1 K1
 refine wp_seq_k fun K7 hK7 => ?_
 refine wp_seq_k fun K8 hK8 => ?_
 refine wp_region_lit ?_
 refine seg ha 1 [(1, .pointer (some ⟨g3, 0, none⟩)), (3, .pointer (some ⟨g3, 0, none⟩))] (by kernel_rfl) fun a ha => ?_
 refine ld ha rfl (by kernel_rfl) rfl rfl rfl (hE5 0 (.int .i64 a0.Size) (by kernel_rfl)) fun a ha => ?_
 refine hK8 _ _ ?_; try clear hK8 K8
 refine wp_block ?_
 refine wp_seq_k fun K9 hK9 => ?_
 obtain ⟨s10, H10, H⟩ := bind_some H
 have J10 : ∀ (a : Act) (w10 : World), Has a Tryz.f36.ntmps [(1, .pointer (some ⟨g3, 0, none⟩)), (5, .bool s10)] → (∀ j v, (cS_api_Addr a0)[j]? = some v → w10.cell? ⟨g3, 0 + j, none⟩ = some v) → (g3 ∉ (M)) → (Chg [] w w10) → (MS (M) w10) → K9 a w10 := by
  intro a w10 ha hE5 hn6 hC hM
  refine hK9 _ _ ?_; try clear hK9 K9
  refine cnd ha rfl (fun hc11 => ?_) (fun hc11 => ?_)
  ·have H := ite_t hc11 H
   refine wp_seq_k fun K12 hK12 => ?_
   refine wp_region_lit ?_
   refine seg ha 2 [(9, .pointer (some ⟨g3, 0 + 1, none⟩)), (10, .pointer (some ⟨g3, 0, none⟩))] (by kernel_rfl) fun a ha => ?_
   refine ld ha rfl (by kernel_rfl) rfl rfl rfl (hE5 0 (.int .i64 a0.Size) (by kernel_rfl)) fun a ha => ?_
   have f13 : RSl (rInt .u8) 5 w10 (M) (some ⟨g3, 0 + 1, none⟩) 16 (arL 16 a0.B) := RSl.ofA [.int .i64 a0.Size] [] hE5 hn6 (by kernel_rfl) rfl
   obtain ⟨⟨hx14, hx14', hx14''⟩, H⟩ := ite_some H
   obtain ⟨ao14, cap14, f14, hr14⟩ := slA_run (kk := .u8) (T := 5) (N := 16) (g := g3) (o' := 0 + 1) (xs := (arL 16 a0.B)) (t := 23) (lo := (Option.some (Operand.tmp 11))) (hi := Option.none) (l := a0.Size) (h := (16 : Int)) (dd := some 12) (ty := 80) (pos := "addr.go:24") (af := #[{ on := 0, ground := Ground.data }, { on := 2, ground := Ground.data }]) (gd := Option.none) ha (by kernel_rfl) (by kernel_rfl) (x := (Operand.tmp 9)) rfl (arL_length _ _) rfl rfl f13 hx14 hx14' (by rw [arL_length]; exact hx14'')
   refine hop (v := .slice ao14 (((arL 16 a0.B).take (Int.toNat (16 : Int))).drop (Int.toNat a0.Size)).length cap14) (w' := w10) ha rfl rfl rfl (hr14 _) fun a ha => ?_
   obtain ⟨t15, H15, H⟩ := bind_some H
   refine cl ha (by rfl) (by kernel_rfl) (by rfl) (by rfl) (by rfl) (bytes_Trim.walk w10 _ hM (((arL 16 a0.B).take (Int.toNat (16 : Int))).drop (Int.toNat a0.Size)) ao14 cap14 f14 ([0] : List UInt8) k _ H15) ?_
   rintro _ w15 ⟨ao16, cap16, rfl, f16, hc15, hMn⟩ a ha
   have o1 : Ok [] (M) w10.heap.size := Ok.nil _ _
   have o2 : Ok (M) (M) w10.heap.size := (Ok.refl _ _)
   have f14 := f14.chg hc15 o1 o2
   have hM : MS (M) w15 := (hM.chg hc15)
   have hC := hC.trans hc15 (Ok.nil _ _)
   refine seg ha 3 [(2, .bool ((t15.length : Int) == (0 : Int)))] (by kernel_rfl) fun a ha => ?_
   refine hK12 _ _ ?_; try clear hK12 K12
   refine wp_ret ?_
   try simp only [Exit.then, Exit.inBlock]
   obtain rfl := Option.some.inj H
   refine rt1 ha rfl rfl ?_
   exact ⟨rfl, hC, hM⟩
  ·have H := ite_f hc11 H
   refine wp_skip ?_
   refine hK7 _ _ ?_; try clear hK7 K7
   refine wp_seq_k fun K17 hK17 => ?_
   refine wp_region_lit ?_
   refine seg ha 1 [(2, .bool false)] (by kernel_rfl) fun a ha => ?_
   refine hK17 _ _ ?_; try clear hK17 K17
   refine wp_ret ?_
   try simp only [Exit.then, Exit.inBlock]
   obtain rfl := Option.some.inj H
   refine rt1 ha rfl rfl ?_
   exact ⟨rfl, hC, hM⟩
 have H := H10
 refine wp_seq_k fun K18 hK18 => ?_
 refine wp_region_lit ?_
 refine seg ha 2 [(1, .pointer (some ⟨g3, 0, none⟩)), (4, .int .i64 a0.Size), (5, .bool (a0.Size == (0 : Int)))] (by kernel_rfl) fun a ha => ?_
 refine hK18 _ _ ?_; try clear hK18 K18
 refine cnd ha rfl (fun hc19 => ?_) (fun hc19 => ?_)
 ·have H := ite_t hc19 H
  refine wp_skip ?_
  obtain rfl := Option.some.inj H
  exact J10 _ _ (ha.sel (by kernel_rfl)) hE5 hn6 hC hM
 ·have H := ite_f hc19 H
  refine wp_seq_k fun K20 hK20 => ?_
  refine wp_region_lit ?_
  refine seg ha 2 [(1, .pointer (some ⟨g3, 0, none⟩)), (4, .int .i64 a0.Size), (5, .bool (a0.Size == (4 : Int)))] (by kernel_rfl) fun a ha => ?_
  refine hK20 _ _ ?_; try clear hK20 K20
  refine cnd ha rfl (fun hc21 => ?_) (fun hc21 => ?_)
  ·have H := ite_t hc21 H
   refine wp_skip ?_
   obtain rfl := Option.some.inj H
   exact J10 _ _ (ha.sel (by kernel_rfl)) hE5 hn6 hC hM
  ·have H := ite_f hc21 H
   refine wp_region_lit ?_
   refine seg ha 2 [(1, .pointer (some ⟨g3, 0, none⟩)), (5, .bool (a0.Size == (16 : Int)))] (by kernel_rfl) fun a ha => ?_
   obtain rfl := Option.some.inj H
   exact J10 _ _ (ha.sel (by kernel_rfl)) hE5 hn6 hC hM
def addr_Multicast.f (k : Nat) (a0 : S_api_Addr) : Option (Bool) := (addr_Right.f k a0).bind fun t9 => (if (!t9) = true then some ((false : Bool)) else (if (a0.Size == (4 : Int)) = true then some (((Int.fdiv (ar a0.B 0) (2 ^ (min (4 : Int).toNat IntKind.u8.bits))) == (14 : Int) : Bool)) else ((if (a0.Size == (16 : Int)) = true then some ((ar a0.B 0) == (255 : Int) : Bool) else some (false : Bool))).bind fun s17 => some ((s17 : Bool))))
set_option maxRecDepth 100000 in
theorem addr_Multicast.walk (w : World) (M : List Nat) (hM : MS M w) (a0 : S_api_Addr) (k : Nat) (r : Bool) (H : addr_Multicast.f k a0 = some r) :
    To Tryz.prog 16 [.agg (cS_api_Addr a0).toArray] w fun v w' => v = .bool r ∧ Chg [] w w' ∧ MS (M) w' := by
 unfold addr_Multicast.f at H
 refine ent Tryz.func16 rfl [(0, .agg (cS_api_Addr a0).toArray)] rfl (by rfl) fun a ha => ?_
 have hC : Chg [] w w := Chg.refl _ _
 refine wp_seq_k fun K1 hK1 => ?_
 refine wp_region_lit ?_
 refine bx (cs := (cS_api_Addr a0)) ha rfl rfl rfl rfl rfl fun a w2 g3 hN4 ha => ?_
 have hn6 := hN4.notin hM
 have hM : MS (M) w2 := (hM.chg hN4.chg)
 have hC := hC.trans hN4.chg (Ok.nil _ _)
 have hE5 : ∀ j v, (cS_api_Addr a0)[j]? = some v → w2.cell? ⟨g3, 0 + j, none⟩ = some v := Box.cells (New.box hN4)
 refine seg ha 1 [(1, .pointer (some ⟨g3, 0, none⟩))] (by kernel_rfl) fun a ha => ?_
 refine hK1 _ _ ?_; try clear hK1 K1
 refine wp_seq_k fun K7 hK7 => ?_
 refine wp_block ?_
 refine wp_seq_k fun K8 hK8 => ?_
 refine wp_region_lit ?_
 refine ldA (cs := (cS_api_Addr a0)) ha rfl (by kernel_rfl) rfl rfl rfl (cells_sub hE5 (all := (cS_api_Addr a0)) [] [] (by kernel_rfl)) fun a ha => ?_
 obtain ⟨t9, H9, H⟩ := bind_some H
 refine cl ha (by rfl) (by kernel_rfl) (by rfl) (by rfl) (by rfl) (addr_Right.walk w2 _ hM a0 k _ H9) ?_
 rintro _ w9 ⟨rfl, hc9, hMn⟩ a ha
 have o1 : Ok [] (M) w2.heap.size := Ok.nil _ _
 have o2 : Ok (M) (M) w2.heap.size := (Ok.refl _ _)
 have q_hn6 : g3 ∉ M := fun h => (o2 g3 h).elim hn6 (fun h => absurd (lt_cell (hE5 0 _ rfl)) (Nat.not_lt.2 h))
 have hE5 : ∀ j v, (cS_api_Addr a0)[j]? = some v → w9.cell? ⟨g3, 0 + j, none⟩ = some v := fun j v hv => (cell_keep hc9 o1 hn6 (hE5 j v hv))
 have hn6 := q_hn6
 have hM : MS (M) w9 := (hM.chg hc9)
 have hC := hC.trans hc9 (Ok.nil _ _)
 refine seg ha 2 [(1, .pointer (some ⟨g3, 0, none⟩)), (3, .bool (!t9))] (by kernel_rfl) fun a ha => ?_
 refine hK8 _ _ ?_; try clear hK8 K8
 refine cnd ha rfl (fun hc10 => ?_) (fun hc10 => ?_)
 ·have H := ite_t hc10 H
  refine wp_seq_k fun K11 hK11 => ?_
  refine wp_region_lit ?_
  refine seg ha 1 [(2, .bool false)] (by kernel_rfl) fun a ha => ?_
  refine hK11 _ _ ?_; try clear hK11 K11
  refine wp_ret ?_
  try simp only [Exit.then, Exit.inBlock]
  obtain rfl := Option.some.inj H
  refine rt1 ha rfl rfl ?_
  exact ⟨rfl, hC, hM⟩
 ·have H := ite_f hc10 H
  refine wp_seq_k fun K12 hK12 => ?_
  refine wp_region_lit ?_
  refine seg ha 1 [(1, .pointer (some ⟨g3, 0, none⟩)), (8, .pointer (some ⟨g3, 0, none⟩))] (by kernel_rfl) fun a ha => ?_
  refine ld ha rfl (by kernel_rfl) rfl rfl rfl (hE5 0 (.int .i64 a0.Size) (by kernel_rfl)) fun a ha => ?_
  refine seg ha 2 [(1, .pointer (some ⟨g3, 0, none⟩)), (7, .bool (a0.Size == (4 : Int)))] (by kernel_rfl) fun a ha => ?_
  refine hK12 _ _ ?_; try clear hK12 K12
  refine cnd ha rfl (fun hc13 => ?_) (fun hc13 => ?_)
  ·have H := ite_t hc13 H
   refine wp_seq_k fun K14 hK14 => ?_
   refine wp_region_lit ?_
   refine seg ha 1 [(11, .pointer (some ⟨g3, 0 + 1, none⟩))] (by kernel_rfl) fun a ha => ?_
   have hE15 : ∀ j v, ([.int .u8 (ar a0.B 0)] : List Value)[j]? = some v → w9.cell? ⟨g3, (0 + 1 + 0) + j, none⟩ = some v := cellA (m := 16) [.int .i64 a0.Size] [] hE5 (by kernel_rfl) (by decide)
   have hn15 := hn6
   refine hop (v := .pointer (some ⟨g3, (0 + 1 + 0), none⟩)) (w' := w9) ha rfl rfl rfl (ixA_run (T := 5) (N := 16) (g := g3) (o' := 0 + 1) (k := .i64) (i := (0 : Int)) ha (by kernel_rfl) (by kernel_rfl) (by rfl) (by rfl) (by decide) (by decide) _) fun a ha => ?_
   refine ld ha rfl (by kernel_rfl) rfl rfl rfl (hE15 0 (.int .u8 (ar a0.B 0)) (by kernel_rfl)) fun a ha => ?_
   refine seg ha 3 [(2, .bool ((Int.fdiv (ar a0.B 0) (2 ^ (min (4 : Int).toNat IntKind.u8.bits))) == (14 : Int)))] (by kernel_rfl) fun a ha => ?_
   refine hK14 _ _ ?_; try clear hK14 K14
   refine wp_ret ?_
   try simp only [Exit.then, Exit.inBlock]
   obtain rfl := Option.some.inj H
   refine rt1 ha rfl rfl ?_
   exact ⟨rfl, hC, hM⟩
  ·have H := ite_f hc13 H
   refine wp_skip ?_
   refine hK7 _ _ ?_; try clear hK7 K7
   refine wp_seq_k fun K16 hK16 => ?_
   refine wp_region_lit ?_
   obtain ⟨s17, H17, H⟩ := bind_some H
   have J17 : ∀ (a : Act) (w17 : World), Has a Tryz.f16.ntmps [(2, .bool s17)] → (Chg [] w w17) → (MS (M) w17) → K16 a w17 := by
    intro a w17 ha hC hM
    refine hK16 _ _ ?_; try clear hK16 K16
    refine wp_ret ?_
    try simp only [Exit.then, Exit.inBlock]
    obtain rfl := Option.some.inj H
    refine rt1 ha rfl rfl ?_
    exact ⟨rfl, hC, hM⟩
   have H := H17
   refine seg ha 1 [(1, .pointer (some ⟨g3, 0, none⟩)), (16, .pointer (some ⟨g3, 0, none⟩))] (by kernel_rfl) fun a ha => ?_
   refine ld ha rfl (by kernel_rfl) rfl rfl rfl (hE5 0 (.int .i64 a0.Size) (by kernel_rfl)) fun a ha => ?_
   refine seg ha 2 [(19, .bool (a0.Size == (16 : Int))), (1, .pointer (some ⟨g3, 0, none⟩))] (by kernel_rfl) fun a ha => ?_
   rcases Bool.eq_false_or_eq_true (a0.Size == (16 : Int)) with hb18 | hb18
   ·have ha := ha.lit hb18
    have H := ite_t hb18 H
    refine sgh ha 1 [2] [(19, .bool true), (20, .pointer (some ⟨g3, 0 + 1, none⟩))] (by kernel_rfl) fun a ha => ?_
    have hE19 : ∀ j v, ([.int .u8 (ar a0.B 0)] : List Value)[j]? = some v → w9.cell? ⟨g3, (0 + 1 + 0) + j, none⟩ = some v := cellA (m := 16) [.int .i64 a0.Size] [] hE5 (by kernel_rfl) (by decide)
    have hn19 := hn6
    refine hop (v := .pointer (some ⟨g3, (0 + 1 + 0), none⟩)) (w' := w9) ha rfl rfl rfl (ixA_run (T := 5) (N := 16) (g := g3) (o' := 0 + 1) (k := .i64) (i := (0 : Int)) ha (by kernel_rfl) (by kernel_rfl) (by rfl) (by rfl) (by decide) (by decide) _) fun a ha => ?_
    refine ld ha rfl (by kernel_rfl) rfl rfl rfl (hE19 0 (.int .u8 (ar a0.B 0)) (by kernel_rfl)) fun a ha => ?_
    refine sgh ha 3 [2, 3, 0] [(2, .bool ((ar a0.B 0) == (255 : Int)))] (by kernel_rfl) fun a ha => ?_
    obtain rfl := Option.some.inj H
    exact J17 _ _ (ha.sel (by kernel_rfl)) hC hM
   ·have ha := ha.lit hb18
    have H := ite_f hb18 H
    refine sgh ha 6 [1, 1, 1, 1, 4, 0] [(2, .bool false)] (by kernel_rfl) fun a ha => ?_
    obtain rfl := Option.some.inj H
    exact J17 _ _ (ha.sel (by kernel_rfl)) hC hM
def joins_Right.f (k : Nat) (a0 : S_api_Join) : Option (Bool) := ((joins_named.f a0.Vrf).bind fun t22 => (if (!t22) = true then some (!t22 : Bool) else (joins_named.f a0.Iface).bind fun t25 => (if (!t25) = true then some (!t25 : Bool) else (addr_Multicast.f k a0.Group).bind fun t27 => some (!t27 : Bool)))).bind fun s9 => (if s9 = true then some ((false : Bool)) else (if ((a0.Source.Size == (0 : Int)) && ((eqA 16 a0.Source.B (List.replicate 16 (0 : Int))) && true)) = true then some ((true : Bool)) else ((addr_Right.f k a0.Source).bind fun t17 => (if t17 = true then (addr_Multicast.f k a0.Source).bind fun t19 => (if (!t19) = true then some (a0.Source.Size == a0.Group.Size : Bool) else some (false : Bool)) else some (false : Bool))).bind fun s16 => some ((s16 : Bool))))
set_option maxRecDepth 100000 in
theorem joins_Right.walk (w : World) (M : List Nat) (hM : MS M w) (a0 : S_api_Join) (k : Nat) (r : Bool) (H : joins_Right.f k a0 = some r) :
    To Tryz.prog 15 [.agg (cS_api_Join a0).toArray] w fun v w' => v = .bool r ∧ Chg [] w w' ∧ MS (M) w' := by
 unfold joins_Right.f at H
 refine ent Tryz.func15 rfl [(0, .agg (cS_api_Join a0).toArray)] rfl (by rfl) fun a ha => ?_
 have hC : Chg [] w w := Chg.refl _ _
 refine wp_seq_k fun K1 hK1 => ?_
 refine wp_region_lit ?_
 refine bx (cs := (cS_api_Join a0)) ha rfl rfl rfl rfl rfl fun a w2 g3 hN4 ha => ?_
 have hn6 := hN4.notin hM
 have hM : MS (M) w2 := (hM.chg hN4.chg)
 have hC := hC.trans hN4.chg (Ok.nil _ _)
 have hE5 : ∀ j v, (cS_api_Join a0)[j]? = some v → w2.cell? ⟨g3, 0 + j, none⟩ = some v := Box.cells (New.box hN4)
 refine seg ha 1 [(1, .pointer (some ⟨g3, 0, none⟩))] (by kernel_rfl) fun a ha => ?_
 refine hK1 _ _ ?_; try clear hK1 K1
 refine wp_seq_k fun K7 hK7 => ?_
 refine wp_block ?_
 refine wp_seq_k fun K8 hK8 => ?_
 obtain ⟨s9, H9, H⟩ := bind_some H
 have J9 : ∀ (a : Act) (w9 : World), Has a Tryz.f15.ntmps [(1, .pointer (some ⟨g3, 0, none⟩)), (3, .bool s9)] → (∀ j v, (cS_api_Join a0)[j]? = some v → w9.cell? ⟨g3, 0 + j, none⟩ = some v) → (g3 ∉ (M)) → (Chg [] w w9) → (MS (M) w9) → K8 a w9 := by
  intro a w9 ha hE5 hn6 hC hM
  refine hK8 _ _ ?_; try clear hK8 K8
  refine cnd ha rfl (fun hc10 => ?_) (fun hc10 => ?_)
  ·have H := ite_t hc10 H
   refine wp_seq_k fun K11 hK11 => ?_
   refine wp_region_lit ?_
   refine seg ha 1 [(2, .bool false)] (by kernel_rfl) fun a ha => ?_
   refine hK11 _ _ ?_; try clear hK11 K11
   refine wp_ret ?_
   try simp only [Exit.then, Exit.inBlock]
   obtain rfl := Option.some.inj H
   refine rt1 ha rfl rfl ?_
   exact ⟨rfl, hC, hM⟩
  ·have H := ite_f hc10 H
   refine wp_seq_k fun K12 hK12 => ?_
   refine wp_region_lit ?_
   refine seg ha 1 [(1, .pointer (some ⟨g3, 0, none⟩)), (17, .pointer (some ⟨g3, 0 + 2, none⟩))] (by kernel_rfl) fun a ha => ?_
   refine ldA (cs := (cS_api_Addr a0.Source)) ha rfl (by kernel_rfl) rfl rfl rfl (cells_sub hE5 (all := (cS_api_Join a0)) [.string (bstr a0.Vrf), .string (bstr a0.Iface)] [.int .i64 a0.Group.Size, .int .u8 (ar a0.Group.B 0), .int .u8 (ar a0.Group.B 1), .int .u8 (ar a0.Group.B 2), .int .u8 (ar a0.Group.B 3), .int .u8 (ar a0.Group.B 4), .int .u8 (ar a0.Group.B 5), .int .u8 (ar a0.Group.B 6), .int .u8 (ar a0.Group.B 7), .int .u8 (ar a0.Group.B 8), .int .u8 (ar a0.Group.B 9), .int .u8 (ar a0.Group.B 10), .int .u8 (ar a0.Group.B 11), .int .u8 (ar a0.Group.B 12), .int .u8 (ar a0.Group.B 13), .int .u8 (ar a0.Group.B 14), .int .u8 (ar a0.Group.B 15)] (by kernel_rfl)) fun a ha => ?_
   refine opk (v := .agg (cS_api_Addr (⟨(0 : Int), (List.replicate 16 (0 : Int))⟩ : S_api_Addr)).toArray) ha rfl rfl rfl rfl rfl (fun w => by kernel_rfl) fun a ha => ?_
   refine hop (v := .bool ((a0.Source.Size == (0 : Int)) && ((eqA 16 a0.Source.B (List.replicate 16 (0 : Int))) && true))) (w' := w9) ha rfl rfl rfl (eqs_run (r := ((a0.Source.Size == (0 : Int)) && ((eqA 16 a0.Source.B (List.replicate 16 (0 : Int))) && true))) (m := 9) ha rfl rfl (by kernel_rfl) rfl (by kernel_rfl) _) fun a ha => ?_
   refine seg ha 1 [(1, .pointer (some ⟨g3, 0, none⟩)), (16, .bool ((a0.Source.Size == (0 : Int)) && ((eqA 16 a0.Source.B (List.replicate 16 (0 : Int))) && true)))] (by kernel_rfl) fun a ha => ?_
   refine hK12 _ _ ?_; try clear hK12 K12
   refine cnd ha rfl (fun hc13 => ?_) (fun hc13 => ?_)
   ·have H := ite_t hc13 H
    refine wp_seq_k fun K14 hK14 => ?_
    refine wp_region_lit ?_
    refine seg ha 1 [(2, .bool true)] (by kernel_rfl) fun a ha => ?_
    refine hK14 _ _ ?_; try clear hK14 K14
    refine wp_ret ?_
    try simp only [Exit.then, Exit.inBlock]
    obtain rfl := Option.some.inj H
    refine rt1 ha rfl rfl ?_
    exact ⟨rfl, hC, hM⟩
   ·have H := ite_f hc13 H
    refine wp_skip ?_
    refine hK7 _ _ ?_; try clear hK7 K7
    refine wp_seq_k fun K15 hK15 => ?_
    refine wp_region_lit ?_
    obtain ⟨s16, H16, H⟩ := bind_some H
    have J16 : ∀ (a : Act) (w16 : World), Has a Tryz.f15.ntmps [(2, .bool s16)] → (Chg [] w w16) → (MS (M) w16) → K15 a w16 := by
     intro a w16 ha hC hM
     refine hK15 _ _ ?_; try clear hK15 K15
     refine wp_ret ?_
     try simp only [Exit.then, Exit.inBlock]
     obtain rfl := Option.some.inj H
     refine rt1 ha rfl rfl ?_
     exact ⟨rfl, hC, hM⟩
    have H := H16
    refine seg ha 1 [(1, .pointer (some ⟨g3, 0, none⟩)), (21, .pointer (some ⟨g3, 0 + 2, none⟩))] (by kernel_rfl) fun a ha => ?_
    refine ldA (cs := (cS_api_Addr a0.Source)) ha rfl (by kernel_rfl) rfl rfl rfl (cells_sub hE5 (all := (cS_api_Join a0)) [.string (bstr a0.Vrf), .string (bstr a0.Iface)] [.int .i64 a0.Group.Size, .int .u8 (ar a0.Group.B 0), .int .u8 (ar a0.Group.B 1), .int .u8 (ar a0.Group.B 2), .int .u8 (ar a0.Group.B 3), .int .u8 (ar a0.Group.B 4), .int .u8 (ar a0.Group.B 5), .int .u8 (ar a0.Group.B 6), .int .u8 (ar a0.Group.B 7), .int .u8 (ar a0.Group.B 8), .int .u8 (ar a0.Group.B 9), .int .u8 (ar a0.Group.B 10), .int .u8 (ar a0.Group.B 11), .int .u8 (ar a0.Group.B 12), .int .u8 (ar a0.Group.B 13), .int .u8 (ar a0.Group.B 14), .int .u8 (ar a0.Group.B 15)] (by kernel_rfl)) fun a ha => ?_
    obtain ⟨t17, H17, H⟩ := bind_some H
    refine cl ha (by rfl) (by kernel_rfl) (by rfl) (by rfl) (by rfl) (addr_Right.walk w9 _ hM a0.Source k _ H17) ?_
    rintro _ w17 ⟨rfl, hc17, hMn⟩ a ha
    have o1 : Ok [] (M) w9.heap.size := Ok.nil _ _
    have o2 : Ok (M) (M) w9.heap.size := (Ok.refl _ _)
    have q_hn6 : g3 ∉ M := fun h => (o2 g3 h).elim hn6 (fun h => absurd (lt_cell (hE5 0 _ rfl)) (Nat.not_lt.2 h))
    have hE5 : ∀ j v, (cS_api_Join a0)[j]? = some v → w17.cell? ⟨g3, 0 + j, none⟩ = some v := fun j v hv => (cell_keep hc17 o1 hn6 (hE5 j v hv))
    have hn6 := q_hn6
    have hM : MS (M) w17 := (hM.chg hc17)
    have hC := hC.trans hc17 (Ok.nil _ _)
    refine seg ha 1 [(24, .bool t17), (1, .pointer (some ⟨g3, 0, none⟩))] (by kernel_rfl) fun a ha => ?_
    rcases Bool.eq_false_or_eq_true (t17) with hb18 | hb18
    ·have ha := ha.lit hb18
     have H := ite_t hb18 H
     refine sgh ha 1 [2] [(1, .pointer (some ⟨g3, 0, none⟩)), (24, .bool true), (25, .pointer (some ⟨g3, 0 + 2, none⟩))] (by kernel_rfl) fun a ha => ?_
     refine ldA (cs := (cS_api_Addr a0.Source)) ha rfl (by kernel_rfl) rfl rfl rfl (cells_sub hE5 (all := (cS_api_Join a0)) [.string (bstr a0.Vrf), .string (bstr a0.Iface)] [.int .i64 a0.Group.Size, .int .u8 (ar a0.Group.B 0), .int .u8 (ar a0.Group.B 1), .int .u8 (ar a0.Group.B 2), .int .u8 (ar a0.Group.B 3), .int .u8 (ar a0.Group.B 4), .int .u8 (ar a0.Group.B 5), .int .u8 (ar a0.Group.B 6), .int .u8 (ar a0.Group.B 7), .int .u8 (ar a0.Group.B 8), .int .u8 (ar a0.Group.B 9), .int .u8 (ar a0.Group.B 10), .int .u8 (ar a0.Group.B 11), .int .u8 (ar a0.Group.B 12), .int .u8 (ar a0.Group.B 13), .int .u8 (ar a0.Group.B 14), .int .u8 (ar a0.Group.B 15)] (by kernel_rfl)) fun a ha => ?_
     obtain ⟨t19, H19, H⟩ := bind_some H
     refine cl ha (by rfl) (by kernel_rfl) (by rfl) (by rfl) (by rfl) (addr_Multicast.walk w17 _ hM a0.Source k _ H19) ?_
     rintro _ w19 ⟨rfl, hc19, hMn⟩ a ha
     have o1 : Ok [] (M) w17.heap.size := Ok.nil _ _
     have o2 : Ok (M) (M) w17.heap.size := (Ok.refl _ _)
     have q_hn6 : g3 ∉ M := fun h => (o2 g3 h).elim hn6 (fun h => absurd (lt_cell (hE5 0 _ rfl)) (Nat.not_lt.2 h))
     have hE5 : ∀ j v, (cS_api_Join a0)[j]? = some v → w19.cell? ⟨g3, 0 + j, none⟩ = some v := fun j v hv => (cell_keep hc19 o1 hn6 (hE5 j v hv))
     have hn6 := q_hn6
     have hM : MS (M) w19 := (hM.chg hc19)
     have hC := hC.trans hc19 (Ok.nil _ _)
     refine sgh ha 3 [2, 3, 0] [(30, .bool (!t19)), (1, .pointer (some ⟨g3, 0, none⟩))] (by kernel_rfl) fun a ha => ?_
     rcases Bool.eq_false_or_eq_true (!t19) with hb20 | hb20
     ·have ha := ha.lit hb20
      have H := ite_t hb20 H
      refine sgh ha 2 [2, 2] [(1, .pointer (some ⟨g3, 0, none⟩)), (30, .bool true), (32, .pointer (some ⟨g3, 0 + 2, none⟩))] (by kernel_rfl) fun a ha => ?_
      refine ld ha rfl (by kernel_rfl) rfl rfl rfl (hE5 2 (.int .i64 a0.Source.Size) (by kernel_rfl)) fun a ha => ?_
      refine sgh ha 2 [2, 2] [(30, .bool true), (33, .int .i64 a0.Source.Size), (35, .pointer (some ⟨g3, 0 + 19, none⟩))] (by kernel_rfl) fun a ha => ?_
      refine ld ha rfl (by kernel_rfl) rfl rfl rfl (hE5 19 (.int .i64 a0.Group.Size) (by kernel_rfl)) fun a ha => ?_
      refine sgh ha 3 [2, 3, 0] [(2, .bool (a0.Source.Size == a0.Group.Size))] (by kernel_rfl) fun a ha => ?_
      obtain rfl := Option.some.inj H
      exact J16 _ _ (ha.sel (by kernel_rfl)) hC hM
     ·have ha := ha.lit hb20
      have H := ite_f hb20 H
      refine sgh ha 9 [1, 1, 1, 1, 1, 1, 1, 4, 0] [(2, .bool false)] (by kernel_rfl) fun a ha => ?_
      obtain rfl := Option.some.inj H
      exact J16 _ _ (ha.sel (by kernel_rfl)) hC hM
    ·have ha := ha.lit hb18
     have H := ite_f hb18 H
     refine sgh ha 15 [1, 1, 1, 1, 4, 0, 1, 1, 1, 1, 1, 1, 1, 4, 0] [(2, .bool false)] (by kernel_rfl) fun a ha => ?_
     obtain rfl := Option.some.inj H
     exact J16 _ _ (ha.sel (by kernel_rfl)) hC hM
 have H := H9
 refine wp_seq_k fun K21 hK21 => ?_
 refine wp_region_lit ?_
 refine seg ha 1 [(1, .pointer (some ⟨g3, 0, none⟩)), (4, .pointer (some ⟨g3, 0, none⟩))] (by kernel_rfl) fun a ha => ?_
 refine ld ha rfl (by kernel_rfl) rfl rfl rfl (hE5 0 (.string (bstr a0.Vrf)) (by kernel_rfl)) fun a ha => ?_
 obtain ⟨t22, H22, H⟩ := bind_some H
 refine cl ha (by rfl) (by kernel_rfl) (by rfl) (by rfl) (by rfl) (joins_named.walk w2 _ hM a0.Vrf _ H22) ?_
 rintro _ w22 ⟨rfl, hc22, hMn⟩ a ha
 have o1 : Ok [] (M) w2.heap.size := Ok.nil _ _
 have o2 : Ok (M) (M) w2.heap.size := (Ok.refl _ _)
 have q_hn6 : g3 ∉ M := fun h => (o2 g3 h).elim hn6 (fun h => absurd (lt_cell (hE5 0 _ rfl)) (Nat.not_lt.2 h))
 have hE5 : ∀ j v, (cS_api_Join a0)[j]? = some v → w22.cell? ⟨g3, 0 + j, none⟩ = some v := fun j v hv => (cell_keep hc22 o1 hn6 (hE5 j v hv))
 have hn6 := q_hn6
 have hM : MS (M) w22 := (hM.chg hc22)
 have hC := hC.trans hc22 (Ok.nil _ _)
 refine seg ha 2 [(1, .pointer (some ⟨g3, 0, none⟩)), (3, .bool (!t22))] (by kernel_rfl) fun a ha => ?_
 refine hK21 _ _ ?_; try clear hK21 K21
 refine cnd ha rfl (fun hc23 => ?_) (fun hc23 => ?_)
 ·have H := ite_t hc23 H
  refine wp_skip ?_
  obtain rfl := Option.some.inj H
  exact J9 _ _ (ha.sel (by kernel_rfl)) hE5 hn6 hC hM
 ·have H := ite_f hc23 H
  refine wp_seq_k fun K24 hK24 => ?_
  refine wp_region_lit ?_
  refine seg ha 1 [(1, .pointer (some ⟨g3, 0, none⟩)), (8, .pointer (some ⟨g3, 0 + 1, none⟩))] (by kernel_rfl) fun a ha => ?_
  refine ld ha rfl (by kernel_rfl) rfl rfl rfl (hE5 1 (.string (bstr a0.Iface)) (by kernel_rfl)) fun a ha => ?_
  obtain ⟨t25, H25, H⟩ := bind_some H
  refine cl ha (by rfl) (by kernel_rfl) (by rfl) (by rfl) (by rfl) (joins_named.walk w22 _ hM a0.Iface _ H25) ?_
  rintro _ w25 ⟨rfl, hc25, hMn⟩ a ha
  have o1 : Ok [] (M) w22.heap.size := Ok.nil _ _
  have o2 : Ok (M) (M) w22.heap.size := (Ok.refl _ _)
  have q_hn6 : g3 ∉ M := fun h => (o2 g3 h).elim hn6 (fun h => absurd (lt_cell (hE5 0 _ rfl)) (Nat.not_lt.2 h))
  have hE5 : ∀ j v, (cS_api_Join a0)[j]? = some v → w25.cell? ⟨g3, 0 + j, none⟩ = some v := fun j v hv => (cell_keep hc25 o1 hn6 (hE5 j v hv))
  have hn6 := q_hn6
  have hM : MS (M) w25 := (hM.chg hc25)
  have hC := hC.trans hc25 (Ok.nil _ _)
  refine seg ha 2 [(1, .pointer (some ⟨g3, 0, none⟩)), (3, .bool (!t25))] (by kernel_rfl) fun a ha => ?_
  refine hK24 _ _ ?_; try clear hK24 K24
  refine cnd ha rfl (fun hc26 => ?_) (fun hc26 => ?_)
  ·have H := ite_t hc26 H
   refine wp_skip ?_
   obtain rfl := Option.some.inj H
   exact J9 _ _ (ha.sel (by kernel_rfl)) hE5 hn6 hC hM
  ·have H := ite_f hc26 H
   refine wp_region_lit ?_
   refine seg ha 1 [(1, .pointer (some ⟨g3, 0, none⟩)), (12, .pointer (some ⟨g3, 0 + 19, none⟩))] (by kernel_rfl) fun a ha => ?_
   refine ldA (cs := (cS_api_Addr a0.Group)) ha rfl (by kernel_rfl) rfl rfl rfl (cells_sub hE5 (all := (cS_api_Join a0)) [.string (bstr a0.Vrf), .string (bstr a0.Iface), .int .i64 a0.Source.Size, .int .u8 (ar a0.Source.B 0), .int .u8 (ar a0.Source.B 1), .int .u8 (ar a0.Source.B 2), .int .u8 (ar a0.Source.B 3), .int .u8 (ar a0.Source.B 4), .int .u8 (ar a0.Source.B 5), .int .u8 (ar a0.Source.B 6), .int .u8 (ar a0.Source.B 7), .int .u8 (ar a0.Source.B 8), .int .u8 (ar a0.Source.B 9), .int .u8 (ar a0.Source.B 10), .int .u8 (ar a0.Source.B 11), .int .u8 (ar a0.Source.B 12), .int .u8 (ar a0.Source.B 13), .int .u8 (ar a0.Source.B 14), .int .u8 (ar a0.Source.B 15)] [] (by kernel_rfl)) fun a ha => ?_
   obtain ⟨t27, H27, H⟩ := bind_some H
   refine cl ha (by rfl) (by kernel_rfl) (by rfl) (by rfl) (by rfl) (addr_Multicast.walk w25 _ hM a0.Group k _ H27) ?_
   rintro _ w27 ⟨rfl, hc27, hMn⟩ a ha
   have o1 : Ok [] (M) w25.heap.size := Ok.nil _ _
   have o2 : Ok (M) (M) w25.heap.size := (Ok.refl _ _)
   have q_hn6 : g3 ∉ M := fun h => (o2 g3 h).elim hn6 (fun h => absurd (lt_cell (hE5 0 _ rfl)) (Nat.not_lt.2 h))
   have hE5 : ∀ j v, (cS_api_Join a0)[j]? = some v → w27.cell? ⟨g3, 0 + j, none⟩ = some v := fun j v hv => (cell_keep hc27 o1 hn6 (hE5 j v hv))
   have hn6 := q_hn6
   have hM : MS (M) w27 := (hM.chg hc27)
   have hC := hC.trans hc27 (Ok.nil _ _)
   refine seg ha 2 [(1, .pointer (some ⟨g3, 0, none⟩)), (3, .bool (!t27))] (by kernel_rfl) fun a ha => ?_
   obtain rfl := Option.some.inj H
   exact J9 _ _ (ha.sel (by kernel_rfl)) hE5 hn6 hC hM
def cmp_isNaN_string.f (a0 : List UInt8) : Option (Bool) := some ((!((bstr a0).toList == (bstr a0).toList) : Bool))
set_option maxRecDepth 100000 in
theorem cmp_isNaN_string.walk (w : World) (M : List Nat) (hM : MS M w) (a0 : List UInt8) (r : Bool) (H : cmp_isNaN_string.f a0 = some r) :
    To Tryz.prog 46 [.string (bstr a0)] w fun v w' => v = .bool r ∧ Chg [] w w' ∧ MS (M) w' := by
 unfold cmp_isNaN_string.f at H
 refine ent Tryz.func46 rfl [(0, .string (bstr a0))] rfl (by rfl) fun a ha => ?_
 have hC : Chg [] w w := Chg.refl _ _
 refine wp_seq_k fun K1 hK1 => ?_
 refine wp_region_lit ?_
 refine seg ha 1 [(0, .string (bstr a0))] (by kernel_rfl) fun a ha => ?_
 refine hK1 _ _ ?_; try clear hK1 K1
 refine wp_seq_k fun K2 hK2 => ?_
 refine wp_region_lit ?_
 refine seg ha 4 [(2, .bool (!((bstr a0).toList == (bstr a0).toList)))] (by kernel_rfl) fun a ha => ?_
 refine hK2 _ _ ?_; try clear hK2 K2
 refine wp_ret ?_
 try simp only [Exit.then, Exit.inBlock]
 obtain rfl := Option.some.inj H
 refine rt1 ha rfl rfl ?_
 exact ⟨rfl, hC, hM⟩
def cmp_Compare_string.f (a0 : List UInt8) (a1 : List UInt8) : Option (Int) := (cmp_isNaN_string.f a0).bind fun t3 => (cmp_isNaN_string.f a1).bind fun t5 => (if t3 = true then (if t5 = true then some (((0 : Int) : Int)) else some (((-1 : Int) : Int))) else (if t5 = true then some (((1 : Int) : Int)) else (if (Op.bytesLess (bstr a0).toList (bstr a1).toList) = true then some (((-1 : Int) : Int)) else (if (!(Op.bytesLess (bstr a0).toList (bstr a1).toList || (bstr a0).toList == (bstr a1).toList)) = true then some (((1 : Int) : Int)) else some (((0 : Int) : Int))))))
set_option maxRecDepth 100000 in
theorem cmp_Compare_string.walk (w : World) (M : List Nat) (hM : MS M w) (a0 : List UInt8) (a1 : List UInt8) (r : Int) (H : cmp_Compare_string.f a0 a1 = some r) :
    To Tryz.prog 29 [.string (bstr a0), .string (bstr a1)] w fun v w' => v = .int .i64 r ∧ Chg [] w w' ∧ MS (M) w' := by
 unfold cmp_Compare_string.f at H
 refine ent Tryz.func29 rfl [(0, .string (bstr a0)), (1, .string (bstr a1))] rfl (by rfl) fun a ha => ?_
 have hC : Chg [] w w := Chg.refl _ _
 refine wp_seq_k fun K1 hK1 => ?_
 refine wp_region_lit ?_
 refine seg ha 1 [(0, .string (bstr a0)), (1, .string (bstr a1))] (by kernel_rfl) fun a ha => ?_
 refine hK1 _ _ ?_; try clear hK1 K1
 refine wp_seq_k fun K2 hK2 => ?_
 refine wp_region_lit ?_
 refine seg ha 1 [(0, .string (bstr a0)), (1, .string (bstr a1)), (7, .string (bstr a0))] (by kernel_rfl) fun a ha => ?_
 obtain ⟨t3, H3, H⟩ := bind_some H
 refine cl ha (by rfl) (by kernel_rfl) (by rfl) (by rfl) (by rfl) (cmp_isNaN_string.walk w _ hM a0 _ H3) ?_
 rintro _ w3 ⟨rfl, hc3, hMn⟩ a ha
 have hM : MS (M) w3 := (hM.chg hc3)
 have hC := hC.trans hc3 (Ok.nil _ _)
 refine seg ha 1 [(0, .string (bstr a0)), (1, .string (bstr a1)), (5, .bool t3)] (by kernel_rfl) fun a ha => ?_
 refine hK2 _ _ ?_; try clear hK2 K2
 refine wp_seq_k fun K4 hK4 => ?_
 refine wp_region_lit ?_
 refine seg ha 1 [(0, .string (bstr a0)), (1, .string (bstr a1)), (5, .bool t3), (9, .string (bstr a1))] (by kernel_rfl) fun a ha => ?_
 obtain ⟨t5, H5, H⟩ := bind_some H
 refine cl ha (by rfl) (by kernel_rfl) (by rfl) (by rfl) (by rfl) (cmp_isNaN_string.walk w3 _ hM a1 _ H5) ?_
 rintro _ w5 ⟨rfl, hc5, hMn⟩ a ha
 have hM : MS (M) w5 := (hM.chg hc5)
 have hC := hC.trans hc5 (Ok.nil _ _)
 refine seg ha 1 [(0, .string (bstr a0)), (1, .string (bstr a1)), (5, .bool t3), (6, .bool t5)] (by kernel_rfl) fun a ha => ?_
 refine hK4 _ _ ?_; try clear hK4 K4
 refine wp_seq_k fun K6 hK6 => ?_
 refine wp_seq_k fun K7 hK7 => ?_
 refine wp_region_lit ?_
 refine seg ha 1 [(0, .string (bstr a0)), (1, .string (bstr a1)), (6, .bool t5), (11, .bool t3)] (by kernel_rfl) fun a ha => ?_
 refine hK7 _ _ ?_; try clear hK7 K7
 refine cnd ha rfl (fun hc8 => ?_) (fun hc8 => ?_)
 ·have H := ite_t hc8 H
  refine wp_seq_k fun K9 hK9 => ?_
  refine wp_seq_k fun K10 hK10 => ?_
  refine wp_region_lit ?_
  refine seg ha 1 [(12, .bool t5)] (by kernel_rfl) fun a ha => ?_
  refine hK10 _ _ ?_; try clear hK10 K10
  refine cnd ha rfl (fun hc11 => ?_) (fun hc11 => ?_)
  ·have H := ite_t hc11 H
   refine wp_seq_k fun K12 hK12 => ?_
   refine wp_region_lit ?_
   refine seg ha 1 [(4, .int .i64 (0 : Int))] (by kernel_rfl) fun a ha => ?_
   refine hK12 _ _ ?_; try clear hK12 K12
   refine wp_ret ?_
   try simp only [Exit.then, Exit.inBlock]
   obtain rfl := Option.some.inj H
   refine rt1 ha rfl rfl ?_
   exact ⟨rfl, hC, hM⟩
  ·have H := ite_f hc11 H
   refine wp_skip ?_
   refine hK9 _ _ ?_; try clear hK9 K9
   refine wp_seq_k fun K13 hK13 => ?_
   refine wp_region_lit ?_
   refine seg ha 1 [(4, .int .i64 (-1 : Int))] (by kernel_rfl) fun a ha => ?_
   refine hK13 _ _ ?_; try clear hK13 K13
   refine wp_ret ?_
   try simp only [Exit.then, Exit.inBlock]
   obtain rfl := Option.some.inj H
   refine rt1 ha rfl rfl ?_
   exact ⟨rfl, hC, hM⟩
 ·have H := ite_f hc8 H
  refine wp_skip ?_
  refine hK6 _ _ ?_; try clear hK6 K6
  refine wp_seq_k fun K14 hK14 => ?_
  refine wp_seq_k fun K15 hK15 => ?_
  refine wp_region_lit ?_
  refine seg ha 1 [(0, .string (bstr a0)), (1, .string (bstr a1)), (13, .bool t5)] (by kernel_rfl) fun a ha => ?_
  refine hK15 _ _ ?_; try clear hK15 K15
  refine cnd ha rfl (fun hc16 => ?_) (fun hc16 => ?_)
  ·have H := ite_t hc16 H
   refine wp_seq_k fun K17 hK17 => ?_
   refine wp_region_lit ?_
   refine seg ha 1 [(4, .int .i64 (1 : Int))] (by kernel_rfl) fun a ha => ?_
   refine hK17 _ _ ?_; try clear hK17 K17
   refine wp_ret ?_
   try simp only [Exit.then, Exit.inBlock]
   obtain rfl := Option.some.inj H
   refine rt1 ha rfl rfl ?_
   exact ⟨rfl, hC, hM⟩
  ·have H := ite_f hc16 H
   refine wp_skip ?_
   refine hK14 _ _ ?_; try clear hK14 K14
   refine wp_seq_k fun K18 hK18 => ?_
   refine wp_seq_k fun K19 hK19 => ?_
   refine wp_region_lit ?_
   refine seg ha 3 [(0, .string (bstr a0)), (1, .string (bstr a1)), (16, .bool (Op.bytesLess (bstr a0).toList (bstr a1).toList))] (by kernel_rfl) fun a ha => ?_
   refine hK19 _ _ ?_; try clear hK19 K19
   refine cnd ha rfl (fun hc20 => ?_) (fun hc20 => ?_)
   ·have H := ite_t hc20 H
    refine wp_seq_k fun K21 hK21 => ?_
    refine wp_region_lit ?_
    refine seg ha 1 [(4, .int .i64 (-1 : Int))] (by kernel_rfl) fun a ha => ?_
    refine hK21 _ _ ?_; try clear hK21 K21
    refine wp_ret ?_
    try simp only [Exit.then, Exit.inBlock]
    obtain rfl := Option.some.inj H
    refine rt1 ha rfl rfl ?_
    exact ⟨rfl, hC, hM⟩
   ·have H := ite_f hc20 H
    refine wp_skip ?_
    refine hK18 _ _ ?_; try clear hK18 K18
    refine wp_seq_k fun K22 hK22 => ?_
    refine wp_seq_k fun K23 hK23 => ?_
    refine wp_region_lit ?_
    refine seg ha 2 [(17, .string (bstr a0)), (18, .string (bstr a1))] (by kernel_rfl) fun a ha => ?_
    refine hop (v := .bool (!(Op.bytesLess (bstr a0).toList (bstr a1).toList || (bstr a0).toList == (bstr a1).toList))) (w' := w5) ha rfl rfl rfl (sgt_run ha (by rfl) (by rfl) _) fun a ha => ?_
    refine hK23 _ _ ?_; try clear hK23 K23
    refine cnd ha rfl (fun hc24 => ?_) (fun hc24 => ?_)
    ·have H := ite_t hc24 H
     refine wp_seq_k fun K25 hK25 => ?_
     refine wp_region_lit ?_
     refine seg ha 1 [(4, .int .i64 (1 : Int))] (by kernel_rfl) fun a ha => ?_
     refine hK25 _ _ ?_; try clear hK25 K25
     refine wp_ret ?_
     try simp only [Exit.then, Exit.inBlock]
     obtain rfl := Option.some.inj H
     refine rt1 ha rfl rfl ?_
     exact ⟨rfl, hC, hM⟩
    ·have H := ite_f hc24 H
     refine wp_skip ?_
     refine hK22 _ _ ?_; try clear hK22 K22
     refine wp_seq_k fun K26 hK26 => ?_
     refine wp_region_lit ?_
     refine seg ha 1 [(4, .int .i64 (0 : Int))] (by kernel_rfl) fun a ha => ?_
     refine hK26 _ _ ?_; try clear hK26 K26
     refine wp_ret ?_
     try simp only [Exit.then, Exit.inBlock]
     obtain rfl := Option.some.inj H
     refine rt1 ha rfl rfl ?_
     exact ⟨rfl, hC, hM⟩
def cmp_isNaN_int.f (a0 : Int) : Option (Bool) := some ((a0 != a0 : Bool))
set_option maxRecDepth 100000 in
theorem cmp_isNaN_int.walk (w : World) (M : List Nat) (hM : MS M w) (a0 : Int) (r : Bool) (H : cmp_isNaN_int.f a0 = some r) :
    To Tryz.prog 60 [.int .i64 a0] w fun v w' => v = .bool r ∧ Chg [] w w' ∧ MS (M) w' := by
 unfold cmp_isNaN_int.f at H
 refine ent Tryz.func60 rfl [(0, .int .i64 a0)] rfl (by rfl) fun a ha => ?_
 have hC : Chg [] w w := Chg.refl _ _
 refine wp_seq_k fun K1 hK1 => ?_
 refine wp_region_lit ?_
 refine seg ha 1 [(0, .int .i64 a0)] (by kernel_rfl) fun a ha => ?_
 refine hK1 _ _ ?_; try clear hK1 K1
 refine wp_seq_k fun K2 hK2 => ?_
 refine wp_region_lit ?_
 refine seg ha 4 [(2, .bool (a0 != a0))] (by kernel_rfl) fun a ha => ?_
 refine hK2 _ _ ?_; try clear hK2 K2
 refine wp_ret ?_
 try simp only [Exit.then, Exit.inBlock]
 obtain rfl := Option.some.inj H
 refine rt1 ha rfl rfl ?_
 exact ⟨rfl, hC, hM⟩
def cmp_Compare_int.f (a0 : Int) (a1 : Int) : Option (Int) := (cmp_isNaN_int.f a0).bind fun t3 => (cmp_isNaN_int.f a1).bind fun t5 => (if t3 = true then (if t5 = true then some (((0 : Int) : Int)) else some (((-1 : Int) : Int))) else (if t5 = true then some (((1 : Int) : Int)) else (if (decide (a0 < a1)) = true then some (((-1 : Int) : Int)) else (if (decide (a0 > a1)) = true then some (((1 : Int) : Int)) else some (((0 : Int) : Int))))))
set_option maxRecDepth 100000 in
theorem cmp_Compare_int.walk (w : World) (M : List Nat) (hM : MS M w) (a0 : Int) (a1 : Int) (r : Int) (H : cmp_Compare_int.f a0 a1 = some r) :
    To Tryz.prog 49 [.int .i64 a0, .int .i64 a1] w fun v w' => v = .int .i64 r ∧ Chg [] w w' ∧ MS (M) w' := by
 unfold cmp_Compare_int.f at H
 refine ent Tryz.func49 rfl [(0, .int .i64 a0), (1, .int .i64 a1)] rfl (by rfl) fun a ha => ?_
 have hC : Chg [] w w := Chg.refl _ _
 refine wp_seq_k fun K1 hK1 => ?_
 refine wp_region_lit ?_
 refine seg ha 1 [(0, .int .i64 a0), (1, .int .i64 a1)] (by kernel_rfl) fun a ha => ?_
 refine hK1 _ _ ?_; try clear hK1 K1
 refine wp_seq_k fun K2 hK2 => ?_
 refine wp_region_lit ?_
 refine seg ha 1 [(0, .int .i64 a0), (1, .int .i64 a1), (7, .int .i64 a0)] (by kernel_rfl) fun a ha => ?_
 obtain ⟨t3, H3, H⟩ := bind_some H
 refine cl ha (by rfl) (by kernel_rfl) (by rfl) (by rfl) (by rfl) (cmp_isNaN_int.walk w _ hM a0 _ H3) ?_
 rintro _ w3 ⟨rfl, hc3, hMn⟩ a ha
 have hM : MS (M) w3 := (hM.chg hc3)
 have hC := hC.trans hc3 (Ok.nil _ _)
 refine seg ha 1 [(0, .int .i64 a0), (1, .int .i64 a1), (5, .bool t3)] (by kernel_rfl) fun a ha => ?_
 refine hK2 _ _ ?_; try clear hK2 K2
 refine wp_seq_k fun K4 hK4 => ?_
 refine wp_region_lit ?_
 refine seg ha 1 [(0, .int .i64 a0), (1, .int .i64 a1), (5, .bool t3), (9, .int .i64 a1)] (by kernel_rfl) fun a ha => ?_
 obtain ⟨t5, H5, H⟩ := bind_some H
 refine cl ha (by rfl) (by kernel_rfl) (by rfl) (by rfl) (by rfl) (cmp_isNaN_int.walk w3 _ hM a1 _ H5) ?_
 rintro _ w5 ⟨rfl, hc5, hMn⟩ a ha
 have hM : MS (M) w5 := (hM.chg hc5)
 have hC := hC.trans hc5 (Ok.nil _ _)
 refine seg ha 1 [(0, .int .i64 a0), (1, .int .i64 a1), (5, .bool t3), (6, .bool t5)] (by kernel_rfl) fun a ha => ?_
 refine hK4 _ _ ?_; try clear hK4 K4
 refine wp_seq_k fun K6 hK6 => ?_
 refine wp_seq_k fun K7 hK7 => ?_
 refine wp_region_lit ?_
 refine seg ha 1 [(0, .int .i64 a0), (1, .int .i64 a1), (6, .bool t5), (11, .bool t3)] (by kernel_rfl) fun a ha => ?_
 refine hK7 _ _ ?_; try clear hK7 K7
 refine cnd ha rfl (fun hc8 => ?_) (fun hc8 => ?_)
 ·have H := ite_t hc8 H
  refine wp_seq_k fun K9 hK9 => ?_
  refine wp_seq_k fun K10 hK10 => ?_
  refine wp_region_lit ?_
  refine seg ha 1 [(12, .bool t5)] (by kernel_rfl) fun a ha => ?_
  refine hK10 _ _ ?_; try clear hK10 K10
  refine cnd ha rfl (fun hc11 => ?_) (fun hc11 => ?_)
  ·have H := ite_t hc11 H
   refine wp_seq_k fun K12 hK12 => ?_
   refine wp_region_lit ?_
   refine seg ha 1 [(4, .int .i64 (0 : Int))] (by kernel_rfl) fun a ha => ?_
   refine hK12 _ _ ?_; try clear hK12 K12
   refine wp_ret ?_
   try simp only [Exit.then, Exit.inBlock]
   obtain rfl := Option.some.inj H
   refine rt1 ha rfl rfl ?_
   exact ⟨rfl, hC, hM⟩
  ·have H := ite_f hc11 H
   refine wp_skip ?_
   refine hK9 _ _ ?_; try clear hK9 K9
   refine wp_seq_k fun K13 hK13 => ?_
   refine wp_region_lit ?_
   refine seg ha 1 [(4, .int .i64 (-1 : Int))] (by kernel_rfl) fun a ha => ?_
   refine hK13 _ _ ?_; try clear hK13 K13
   refine wp_ret ?_
   try simp only [Exit.then, Exit.inBlock]
   obtain rfl := Option.some.inj H
   refine rt1 ha rfl rfl ?_
   exact ⟨rfl, hC, hM⟩
 ·have H := ite_f hc8 H
  refine wp_skip ?_
  refine hK6 _ _ ?_; try clear hK6 K6
  refine wp_seq_k fun K14 hK14 => ?_
  refine wp_seq_k fun K15 hK15 => ?_
  refine wp_region_lit ?_
  refine seg ha 1 [(0, .int .i64 a0), (1, .int .i64 a1), (13, .bool t5)] (by kernel_rfl) fun a ha => ?_
  refine hK15 _ _ ?_; try clear hK15 K15
  refine cnd ha rfl (fun hc16 => ?_) (fun hc16 => ?_)
  ·have H := ite_t hc16 H
   refine wp_seq_k fun K17 hK17 => ?_
   refine wp_region_lit ?_
   refine seg ha 1 [(4, .int .i64 (1 : Int))] (by kernel_rfl) fun a ha => ?_
   refine hK17 _ _ ?_; try clear hK17 K17
   refine wp_ret ?_
   try simp only [Exit.then, Exit.inBlock]
   obtain rfl := Option.some.inj H
   refine rt1 ha rfl rfl ?_
   exact ⟨rfl, hC, hM⟩
  ·have H := ite_f hc16 H
   refine wp_skip ?_
   refine hK14 _ _ ?_; try clear hK14 K14
   refine wp_seq_k fun K18 hK18 => ?_
   refine wp_seq_k fun K19 hK19 => ?_
   refine wp_region_lit ?_
   refine seg ha 3 [(0, .int .i64 a0), (1, .int .i64 a1), (16, .bool (decide (a0 < a1)))] (by kernel_rfl) fun a ha => ?_
   refine hK19 _ _ ?_; try clear hK19 K19
   refine cnd ha rfl (fun hc20 => ?_) (fun hc20 => ?_)
   ·have H := ite_t hc20 H
    refine wp_seq_k fun K21 hK21 => ?_
    refine wp_region_lit ?_
    refine seg ha 1 [(4, .int .i64 (-1 : Int))] (by kernel_rfl) fun a ha => ?_
    refine hK21 _ _ ?_; try clear hK21 K21
    refine wp_ret ?_
    try simp only [Exit.then, Exit.inBlock]
    obtain rfl := Option.some.inj H
    refine rt1 ha rfl rfl ?_
    exact ⟨rfl, hC, hM⟩
   ·have H := ite_f hc20 H
    refine wp_skip ?_
    refine hK18 _ _ ?_; try clear hK18 K18
    refine wp_seq_k fun K22 hK22 => ?_
    refine wp_seq_k fun K23 hK23 => ?_
    refine wp_region_lit ?_
    refine seg ha 3 [(19, .bool (decide (a0 > a1)))] (by kernel_rfl) fun a ha => ?_
    refine hK23 _ _ ?_; try clear hK23 K23
    refine cnd ha rfl (fun hc24 => ?_) (fun hc24 => ?_)
    ·have H := ite_t hc24 H
     refine wp_seq_k fun K25 hK25 => ?_
     refine wp_region_lit ?_
     refine seg ha 1 [(4, .int .i64 (1 : Int))] (by kernel_rfl) fun a ha => ?_
     refine hK25 _ _ ?_; try clear hK25 K25
     refine wp_ret ?_
     try simp only [Exit.then, Exit.inBlock]
     obtain rfl := Option.some.inj H
     refine rt1 ha rfl rfl ?_
     exact ⟨rfl, hC, hM⟩
    ·have H := ite_f hc24 H
     refine wp_skip ?_
     refine hK22 _ _ ?_; try clear hK22 K22
     refine wp_seq_k fun K26 hK26 => ?_
     refine wp_region_lit ?_
     refine seg ha 1 [(4, .int .i64 (0 : Int))] (by kernel_rfl) fun a ha => ?_
     refine hK26 _ _ ?_; try clear hK26 K26
     refine wp_ret ?_
     try simp only [Exit.then, Exit.inBlock]
     obtain rfl := Option.some.inj H
     refine rt1 ha rfl rfl ?_
     exact ⟨rfl, hC, hM⟩
def bytes_Compare.f (a0 : List Int) (a1 : List Int) : Option (Int) := some ((Go.Lib.compareBytes (b2s a0) (b2s a1) : Int))
set_option maxRecDepth 100000 in
theorem bytes_Compare.walk (w : World) (M : List Nat) (hM : MS M w) (a0 : List Int) (ao1 : Option Addr) (cap1 : Nat) (f1 : RSl (rInt .u8) 5 w M ao1 cap1 a0) (a1 : List Int) (ao2 : Option Addr) (cap2 : Nat) (f2 : RSl (rInt .u8) 5 w M ao2 cap2 a1) (r : Int) (H : bytes_Compare.f a0 a1 = some r) :
    To Tryz.prog 61 [.slice ao1 a0.length cap1, .slice ao2 a1.length cap2] w fun v w' => v = .int .i64 r ∧ Chg [] w w' ∧ MS (M) w' := by
 unfold bytes_Compare.f at H
 refine ent Tryz.func61 rfl [(0, .slice ao1 a0.length cap1), (1, .slice ao2 a1.length cap2)] rfl (by rfl) fun a ha => ?_
 have hC : Chg [] w w := Chg.refl _ _
 refine wp_seq_k fun K3 hK3 => ?_
 refine wp_region_lit ?_
 refine seg ha 1 [(0, .slice ao1 a0.length cap1), (1, .slice ao2 a1.length cap2)] (by kernel_rfl) fun a ha => ?_
 refine hK3 _ _ ?_; try clear hK3 K3
 refine wp_seq_k fun K4 hK4 => ?_
 refine wp_region_lit ?_
 refine seg ha 2 [(5, .slice ao1 a0.length cap1), (6, .slice ao2 a1.length cap2)] (by kernel_rfl) fun a ha => ?_
 refine cx (fn := Tryz.f95) ha (vals := [.slice ao1 a0.length cap1, .slice ao2 a1.length cap2]) (by rfl) (by rfl) (by rfl) (by rfl) (by rfl) (by rfl) (by rfl) (by rfl) (by rfl) (run_bcmp f1 f2) fun a ha => ?_
 refine seg ha 1 [(4, .int .i64 (Go.Lib.compareBytes (b2s a0) (b2s a1)))] (by kernel_rfl) fun a ha => ?_
 refine hK4 _ _ ?_; try clear hK4 K4
 refine wp_ret ?_
 try simp only [Exit.then, Exit.inBlock]
 obtain rfl := Option.some.inj H
 refine rt1 ha rfl rfl ?_
 exact ⟨rfl, hC, hM⟩
def cursor_Order.f (a0 : List Int) (a1 : List Int) : Option (Int) := (bytes_Compare.f a0 a1).bind fun t5 => some ((t5 : Int))
set_option maxRecDepth 100000 in
theorem cursor_Order.walk (w : World) (M : List Nat) (hM : MS M w) (a0 : List Int) (ao1 : Option Addr) (cap1 : Nat) (f1 : RSl (rInt .u8) 5 w M ao1 cap1 a0) (a1 : List Int) (ao2 : Option Addr) (cap2 : Nat) (f2 : RSl (rInt .u8) 5 w M ao2 cap2 a1) (r : Int) (H : cursor_Order.f a0 a1 = some r) :
    To Tryz.prog 50 [.slice ao1 a0.length cap1, .slice ao2 a1.length cap2] w fun v w' => v = .int .i64 r ∧ Chg [] w w' ∧ MS (M) w' := by
 unfold cursor_Order.f at H
 refine ent Tryz.func50 rfl [(0, .slice ao1 a0.length cap1), (1, .slice ao2 a1.length cap2)] rfl (by rfl) fun a ha => ?_
 have hC : Chg [] w w := Chg.refl _ _
 refine wp_seq_k fun K3 hK3 => ?_
 refine wp_region_lit ?_
 refine seg ha 1 [(0, .slice ao1 a0.length cap1), (1, .slice ao2 a1.length cap2)] (by kernel_rfl) fun a ha => ?_
 refine hK3 _ _ ?_; try clear hK3 K3
 refine wp_seq_k fun K4 hK4 => ?_
 refine wp_region_lit ?_
 refine seg ha 2 [(5, .slice ao1 a0.length cap1), (6, .slice ao2 a1.length cap2)] (by kernel_rfl) fun a ha => ?_
 obtain ⟨t5, H5, H⟩ := bind_some H
 refine cl ha (by rfl) (by kernel_rfl) (by rfl) (by rfl) (by rfl) (bytes_Compare.walk w _ hM a0 ao1 cap1 f1 a1 ao2 cap2 f2 _ H5) ?_
 rintro _ w5 ⟨rfl, hc5, hMn⟩ a ha
 have o1 : Ok [] (M) w.heap.size := Ok.nil _ _
 have o2 : Ok (M) (M) w.heap.size := (Ok.refl _ _)
 have f1 := f1.chg hc5 o1 o2
 have f2 := f2.chg hc5 o1 o2
 have hM : MS (M) w5 := (hM.chg hc5)
 have hC := hC.trans hc5 (Ok.nil _ _)
 refine seg ha 1 [(4, .int .i64 t5)] (by kernel_rfl) fun a ha => ?_
 refine hK4 _ _ ?_; try clear hK4 K4
 refine wp_ret ?_
 try simp only [Exit.then, Exit.inBlock]
 obtain rfl := Option.some.inj H
 refine rt1 ha rfl rfl ?_
 exact ⟨rfl, hC, hM⟩
def cmp_Or_int.l0 (a0 : List Int) : Nat → Int → Option ((Int) ⊕ (Unit))
  | 0, _ => none
  | kk + 1, x7 => (if (decide (x7 < (a0.length : Int))) = true then (if 0 ≤ x7 ∧ x7 < (a0.length : Int) then (if ((rd a0 x7) != (0 : Int)) = true then some (.inl ((rd a0 x7 : Int))) else cmp_Or_int.l0 a0 kk (IntKind.i64.wrap (x7 + (1 : Int)))) else none) else some (.inr (() : Unit)))
def cmp_Or_int.f (k : Nat) (a0 : List Int) : Option (Int) := (cmp_Or_int.l0 a0 k (0 : Int)).bind fun s6 => match s6 with | .inl r => some r | .inr s6' => some (((0 : Int) : Int))
set_option maxRecDepth 100000 in
theorem cmp_Or_int.walk (w : World) (M : List Nat) (hM : MS M w) (a0 : List Int) (ao1 : Option Addr) (cap1 : Nat) (f1 : RSl (rInt .i64) 3 w M ao1 cap1 a0) (k : Nat) (r : Int) (H : cmp_Or_int.f k a0 = some r) :
    To Tryz.prog 41 [.slice ao1 a0.length cap1] w fun v w' => v = .int .i64 r ∧ Chg [] w w' ∧ MS (M) w' := by
 unfold cmp_Or_int.f at H
 refine ent Tryz.func41 rfl [(0, .slice ao1 a0.length cap1)] rfl (by rfl) fun a ha => ?_
 have hC : Chg [] w w := Chg.refl _ _
 refine wp_seq_k fun K2 hK2 => ?_
 refine wp_region_lit ?_
 refine seg ha 1 [(0, .slice ao1 a0.length cap1)] (by kernel_rfl) fun a ha => ?_
 refine hK2 _ _ ?_; try clear hK2 K2
 refine wp_seq_k fun K3 hK3 => ?_
 refine wp_region_lit ?_
 refine seg ha 1 [(0, .slice ao1 a0.length cap1), (3, .int .i64 (0 : Int))] (by kernel_rfl) fun a ha => ?_
 refine hK3 _ _ ?_; try clear hK3 K3
 refine wp_seq_k fun K4 hK4 => ?_
 refine wp_seq_k fun K5 hK5 => ?_
 refine wp_region_lit ?_
 refine seg ha 3 [(3, .int .i64 (0 : Int)), (6, .slice ao1 a0.length cap1), (7, .int .i64 (a0.length : Int)), (8, .int .i64 (0 : Int))] (by kernel_rfl) fun a ha => ?_
 refine hK5 _ _ ?_; try clear hK5 K5
 refine wp_block ?_
 obtain ⟨s6, H6, H⟩ := bind_some H
 have J6 : ∀ s6' (a : Act) (wx6 : World), s6 = .inr s6' → Has a Tryz.f41.ntmps [(3, .int .i64 (0 : Int))] → (Chg [] w wx6) → (MS (M) wx6) → K4 a wx6 := by
  intro s6' a wx6 hs ha hC hM
  subst hs
  refine hK4 _ _ ?_; try clear hK4 K4
  refine wp_seq_k fun K8 hK8 => ?_
  refine wp_region_lit ?_
  refine seg ha 2 [(2, .int .i64 (0 : Int))] (by kernel_rfl) fun a ha => ?_
  refine hK8 _ _ ?_; try clear hK8 K8
  refine wp_ret ?_
  try simp only [Exit.then, Exit.inBlock]
  obtain rfl := Option.some.inj H
  refine rt1 ha rfl rfl ?_
  exact ⟨rfl, hC, hM⟩
 have Hc6 := H
 have H := H6
 refine wp_loop_ghost (fun kk a w6 => ∃ (x7 : Int), cmp_Or_int.l0 a0 kk x7 = some s6 ∧ Has a Tryz.f41.ntmps [(3, .int .i64 (0 : Int)), (6, .slice ao1 a0.length cap1), (7, .int .i64 (a0.length : Int)), (8, .int .i64 x7)] ∧ (RSl (rInt .i64) 3 w6 (M) ao1 cap1 a0) ∧ (Chg [] w w6) ∧ (MS (M) w6)) k ?_ ?_
 ·skip
  exact ⟨(0 : Int), H, (ha.sel (by kernel_rfl)), f1, hC, hM⟩
 ·rintro kk a w6 ⟨x7, H, ha, f1, hC, hM⟩
  obtain _ | kk := kk
  ·exact nomatch (show none = some _ from H)
  rw [cmp_Or_int.l0] at H
  refine wp_seq_k fun K9 hK9 => ?_
  refine wp_region_lit ?_
  refine seg ha 1 [(3, .int .i64 (0 : Int)), (6, .slice ao1 a0.length cap1), (7, .int .i64 (a0.length : Int)), (8, .int .i64 x7), (9, .bool (decide (x7 < (a0.length : Int))))] (by kernel_rfl) fun a ha => ?_
  refine hK9 _ _ ?_; try clear hK9 K9
  refine wp_seq_k fun K10 hK10 => ?_
  refine cnd ha rfl (fun hc11 => ?_) (fun hc11 => ?_)
  ·have H := ite_t hc11 H
   refine wp_skip ?_
   refine hK10 _ _ ?_; try clear hK10 K10
   refine wp_seq_k fun K12 hK12 => ?_
   refine wp_block ?_
   refine wp_seq_k fun K13 hK13 => ?_
   refine wp_region_lit ?_
   obtain ⟨⟨hx14, hx14'⟩, H⟩ := ite_some H
   refine ix (r := (rInt .i64)) ha (by kernel_rfl) (by kernel_rfl) rfl rfl rfl rfl rfl f1 hx14 hx14' fun a ge15 oe16 cs17 hn20 hR18 hE19 ha => ?_
   rw [rd_get] at hR18
   obtain rfl := hR18
   have hE19 : ∀ j v, ([.int .i64 (rd a0 x7)] : List Value)[j]? = some v → w6.cell? ⟨ge15, oe16 + j, none⟩ = some v := hE19
   refine ld ha rfl (by kernel_rfl) rfl rfl rfl (hE19 0 (.int .i64 (rd a0 x7)) (by kernel_rfl)) fun a ha => ?_
   refine seg ha 1 [(3, .int .i64 (0 : Int)), (5, .int .i64 (rd a0 x7)), (6, .slice ao1 a0.length cap1), (7, .int .i64 (a0.length : Int)), (8, .int .i64 x7)] (by kernel_rfl) fun a ha => ?_
   refine hK13 _ _ ?_; try clear hK13 K13
   refine wp_seq_k fun K21 hK21 => ?_
   refine wp_region_lit ?_
   refine seg ha 3 [(3, .int .i64 (0 : Int)), (5, .int .i64 (rd a0 x7)), (6, .slice ao1 a0.length cap1), (7, .int .i64 (a0.length : Int)), (8, .int .i64 x7), (14, .bool ((rd a0 x7) != (0 : Int)))] (by kernel_rfl) fun a ha => ?_
   refine hK21 _ _ ?_; try clear hK21 K21
   refine cnd ha rfl (fun hc22 => ?_) (fun hc22 => ?_)
   ·have H := ite_t hc22 H
    refine wp_seq_k fun K23 hK23 => ?_
    refine wp_region_lit ?_
    refine seg ha 2 [(2, .int .i64 (rd a0 x7))] (by kernel_rfl) fun a ha => ?_
    refine hK23 _ _ ?_; try clear hK23 K23
    refine wp_ret ?_
    try simp only [Exit.then, Exit.inBlock]
    obtain rfl := Option.some.inj H
    have H := (show some _ = some _ from Hc6)
    obtain rfl := Option.some.inj H
    refine rt1 ha rfl rfl ?_
    exact ⟨rfl, hC, hM⟩
   ·have H := ite_f hc22 H
    refine wp_skip ?_
    refine hK12 _ _ ?_; try clear hK12 K12
    refine wp_region_lit ?_
    refine seg ha 2 [(3, .int .i64 (0 : Int)), (6, .slice ao1 a0.length cap1), (7, .int .i64 (a0.length : Int)), (8, .int .i64 (IntKind.i64.wrap (x7 + (1 : Int))))] (by kernel_rfl) fun a ha => ?_
    exact ⟨kk, Nat.lt_succ_self _, ⟨IntKind.i64.wrap (x7 + (1 : Int)), H, (ha.sel (by kernel_rfl)), f1, hC, hM⟩⟩
  ·have H := ite_f hc11 H
   refine wp_exit ?_
   simp only [Exit.then, Exit.inBlock, ↓reduceIte, Nat.reduceEqDiff]
   obtain rfl := Option.some.inj H
   exact J6 _ _ _ rfl (ha.sel (by kernel_rfl)) hC hM
def addr_Compare.f (k : Nat) (a0 : S_api_Addr) (a1 : S_api_Addr) : Option (Int) := (cmp_Compare_int.f a0.Size a1.Size).bind fun t13 => (cursor_Order.f (arL 16 a0.B) (arL 16 a1.B)).bind fun t16 => (cmp_Or_int.f k ([t13, t16] : List Int)).bind fun t24 => some ((t24 : Int))
set_option maxRecDepth 100000 in
theorem addr_Compare.walk (w : World) (M : List Nat) (hM : MS M w) (a0 : S_api_Addr) (a1 : S_api_Addr) (k : Nat) (r : Int) (H : addr_Compare.f k a0 a1 = some r) :
    To Tryz.prog 33 [.agg (cS_api_Addr a0).toArray, .agg (cS_api_Addr a1).toArray] w fun v w' => v = .int .i64 r ∧ Chg [] w w' ∧ MS (M) w' := by
 unfold addr_Compare.f at H
 refine ent Tryz.func33 rfl [(0, .agg (cS_api_Addr a0).toArray), (1, .agg (cS_api_Addr a1).toArray)] rfl (by rfl) fun a ha => ?_
 have hC : Chg [] w w := Chg.refl _ _
 refine wp_seq_k fun K1 hK1 => ?_
 refine wp_region_lit ?_
 refine bx (cs := (cS_api_Addr a0)) ha rfl rfl rfl rfl rfl fun a w2 g3 hN4 ha => ?_
 have hn6 := hN4.notin hM
 have hM : MS (M) w2 := (hM.chg hN4.chg)
 have hC := hC.trans hN4.chg (Ok.nil _ _)
 have hE5 : ∀ j v, (cS_api_Addr a0)[j]? = some v → w2.cell? ⟨g3, 0 + j, none⟩ = some v := Box.cells (New.box hN4)
 refine bx (cs := (cS_api_Addr a1)) ha rfl rfl rfl rfl rfl fun a w7 g8 hN9 ha => ?_
 have hn11 := hN9.notin hM
 have o1 : Ok [] (M) w2.heap.size := Ok.nil _ _
 have o2 : Ok (M) (M) w2.heap.size := (Ok.refl _ _)
 have q_hn6 : g3 ∉ M := fun h => (o2 g3 h).elim hn6 (fun h => absurd (lt_cell (hE5 0 _ rfl)) (Nat.not_lt.2 h))
 have hE5 : ∀ j v, (cS_api_Addr a0)[j]? = some v → w7.cell? ⟨g3, 0 + j, none⟩ = some v := fun j v hv => (cell_keep hN9.chg o1 hn6 (hE5 j v hv))
 have hn6 := q_hn6
 have hM : MS (M) w7 := (hM.chg hN9.chg)
 have hC := hC.trans hN9.chg (Ok.nil _ _)
 have hE10 : ∀ j v, (cS_api_Addr a1)[j]? = some v → w7.cell? ⟨g8, 0 + j, none⟩ = some v := Box.cells (New.box hN9)
 refine seg ha 1 [(2, .pointer (some ⟨g3, 0, none⟩)), (3, .pointer (some ⟨g8, 0, none⟩))] (by kernel_rfl) fun a ha => ?_
 refine hK1 _ _ ?_; try clear hK1 K1
 refine wp_seq_k fun K12 hK12 => ?_
 refine drq 10 (fun w' => Chg [] w7 w') (by kernel_rfl) (by kernel_rfl) (fun _ h => h) ?_
 refine qp 0 (.pointer (some ⟨g3, 0, none⟩)) ha rfl rfl rfl (by kernel_rfl) fun a ha => ?_
 refine qv (v := .int .i64 a0.Size) ha rfl rfl rfl (fun w' hs => ld_run ha rfl (by kernel_rfl) (hs.keep (hE5 0 (.int .i64 a0.Size) (by kernel_rfl)))) fun a ha => ?_
 refine qp 0 (.pointer (some ⟨g8, 0, none⟩)) ha rfl rfl rfl (by kernel_rfl) fun a ha => ?_
 refine qv (v := .int .i64 a1.Size) ha rfl rfl rfl (fun w' hs => ld_run ha rfl (by kernel_rfl) (hs.keep (hE10 0 (.int .i64 a1.Size) (by kernel_rfl)))) fun a ha => ?_
 obtain ⟨t13, H13, H⟩ := bind_some H
 refine qc (.int .i64 t13) ha (by rfl) (by kernel_rfl) (by rfl) (by rfl) (by rfl) (fun w' hs => (cmp_Compare_int.walk w' [] (MS.nil _) a0.Size a1.Size _ H13).mono fun v w'' ⟨hv, hc, _⟩ => ⟨hv, hs.trans hc (Ok.nil _ _)⟩) fun a ha => ?_
 refine qp 0 (.pointer (some ⟨g3, 0 + 1, none⟩)) ha rfl rfl rfl (by kernel_rfl) fun a ha => ?_
 have f14 : RSl (rInt .u8) 5 w7 (M) (some ⟨g3, 0 + 1, none⟩) 16 (arL 16 a0.B) := RSl.ofA [.int .i64 a0.Size] [] hE5 hn6 (by kernel_rfl) rfl
 refine qv (v := .slice (some ⟨g3, 0 + 1, none⟩) (arL 16 a0.B).length 16) ha rfl rfl rfl (fun w' hs => opk_run ha rfl rfl (fun w => by kernel_rfl)) fun a ha => ?_
 refine qp 0 (.pointer (some ⟨g8, 0 + 1, none⟩)) ha rfl rfl rfl (by kernel_rfl) fun a ha => ?_
 have f15 : RSl (rInt .u8) 5 w7 (M) (some ⟨g8, 0 + 1, none⟩) 16 (arL 16 a1.B) := RSl.ofA [.int .i64 a1.Size] [] hE10 hn11 (by kernel_rfl) rfl
 refine qv (v := .slice (some ⟨g8, 0 + 1, none⟩) (arL 16 a1.B).length 16) ha rfl rfl rfl (fun w' hs => opk_run ha rfl rfl (fun w => by kernel_rfl)) fun a ha => ?_
 obtain ⟨t16, H16, H⟩ := bind_some H
 refine qc (.int .i64 t16) ha (by rfl) (by kernel_rfl) (by rfl) (by rfl) (by rfl) (fun w' hs => (cursor_Order.walk w' [] (MS.nil _) (arL 16 a0.B) (some ⟨g3, 0 + 1, none⟩) 16 (RSl.chg (M' := []) f14 hs (Ok.nil _ _) (Ok.nil _ _)) (arL 16 a1.B) (some ⟨g8, 0 + 1, none⟩) 16 (RSl.chg (M' := []) f15 hs (Ok.nil _ _) (Ok.nil _ _)) _ H16).mono fun v w'' ⟨hv, hc, _⟩ => ⟨hv, hs.trans hc (Ok.nil _ _)⟩) fun a ha => ?_
 refine wpQuiet_nil ?_
 intro w17 hc18
 have o1 : Ok [] (M) w7.heap.size := Ok.nil _ _
 have o2 : Ok (M) (M) w7.heap.size := (Ok.refl _ _)
 have f14 := f14.chg hc18 o1 o2
 have f15 := f15.chg hc18 o1 o2
 have q_hn6 : g3 ∉ M := fun h => (o2 g3 h).elim hn6 (fun h => absurd (lt_cell (hE5 0 _ rfl)) (Nat.not_lt.2 h))
 have hE5 : ∀ j v, (cS_api_Addr a0)[j]? = some v → w17.cell? ⟨g3, 0 + j, none⟩ = some v := fun j v hv => (cell_keep hc18 o1 hn6 (hE5 j v hv))
 have hn6 := q_hn6
 have q_hn11 : g8 ∉ M := fun h => (o2 g8 h).elim hn11 (fun h => absurd (lt_cell (hE10 0 _ rfl)) (Nat.not_lt.2 h))
 have hE10 : ∀ j v, (cS_api_Addr a1)[j]? = some v → w17.cell? ⟨g8, 0 + j, none⟩ = some v := fun j v hv => (cell_keep hc18 o1 hn11 (hE10 j v hv))
 have hn11 := q_hn11
 have hM : MS (M) w17 := (hM.chg hc18)
 have hC := hC.trans hc18 (Ok.nil _ _)
 refine bsl (vals := ([.int .i64 t13, .int .i64 t16] : List Value)) (T := 3) ha rfl (([.int .i64 t13] : List Value) ++ (([.int .i64 t16] : List Value) ++ ([] : List Value))) (fun w => by kernel_rfl) rfl rfl rfl fun a w19 g20 hN21 ha => ?_
 have p_i22_M : ∀ x ∈ [g20], x ∉ M := fun x hx hy => absurd (hM x (hy)) (Nat.not_lt.2 ((hN21.ge1) x hx))
 have e_i22 : ∀ x ∈ [g20], w.heap.size ≤ x := fun x hx => Nat.le_trans hC.size ((hN21.ge1) x hx)
 have hM : MS ([g20] ++ (M)) w19 := (MS.app hN21.ms (hM.chg hN21.chg))
 have hC := hC.trans hN21.chg (Ok.nil _ _)
 have f23 : Own (rInt .i64) 3 w19 ([g20] ++ (M)) (some ⟨g20, 0, none⟩) 2 ([t13, t16] : List Int) := hN21.own ⟨([.int .i64 t13] : List Value), _, rfl, rfl, ⟨([.int .i64 t16] : List Value), _, rfl, rfl, rfl⟩⟩ (Nat.le_of_ble_eq_true rfl)
 have hML : MS (M) w19 := MS.rest hM (fun _ h => mr (h))
 have oL : Ok (M) ([g20] ++ (M)) w19.heap.size := (fun _ h => .inl (mr (h)))
 obtain ⟨t24, H24, H⟩ := bind_some H
 refine cl ha (by rfl) (by kernel_rfl) (by rfl) (by rfl) (by rfl) (cmp_Or_int.walk w19 _ hML ([t13, t16] : List Int) (some ⟨g20, 0, none⟩) 2 (Own.toRSl (M' := M) f23 oL (fun x hx hm => p_i22_M x hx hm)) k _ H24) ?_
 rintro _ w24 ⟨rfl, hc24, hMn⟩ a ha
 have o1 : Ok [] ([g20] ++ (M)) w19.heap.size := Ok.nil _ _
 have o2 : Ok ([g20] ++ (M)) ([g20] ++ (M)) w19.heap.size := (Ok.refl _ _)
 have f23 := f23.chg hc24 o1 o2 (fun _ _ h => nomatch h) (fun _ h => ml h)
 have hM : MS ([g20] ++ (M)) w24 := (hM.chg hc24)
 have hC := hC.trans hc24 (Ok.nil _ _)
 refine seg ha 1 [(4, .int .i64 t24)] (by kernel_rfl) fun a ha => ?_
 refine hK12 _ _ ?_; try clear hK12 K12
 refine wp_ret ?_
 try simp only [Exit.then, Exit.inBlock]
 have hM : MS (M) w24 := (fun x h => hM.chg (Chg.refl [] _) x (mr (h)))
 obtain rfl := Option.some.inj H
 refine rt1 ha rfl rfl ?_
 exact ⟨rfl, hC, hM⟩
def joins_Compare.f (k : Nat) (a0 : S_api_Join) (a1 : S_api_Join) : Option (Int) := (cmp_Compare_string.f a0.Vrf a1.Vrf).bind fun t13 => (addr_Compare.f k a0.Group a1.Group).bind fun t14 => (addr_Compare.f k a0.Source a1.Source).bind fun t15 => (cmp_Compare_string.f a0.Iface a1.Iface).bind fun t16 => (cmp_Or_int.f k ([t13, t14, t15, t16] : List Int)).bind fun t24 => some ((t24 : Int))
set_option maxRecDepth 100000 in
theorem joins_Compare.walk (w : World) (M : List Nat) (hM : MS M w) (a0 : S_api_Join) (a1 : S_api_Join) (k : Nat) (r : Int) (H : joins_Compare.f k a0 a1 = some r) :
    To Tryz.prog 21 [.agg (cS_api_Join a0).toArray, .agg (cS_api_Join a1).toArray] w fun v w' => v = .int .i64 r ∧ Chg [] w w' ∧ MS (M) w' := by
 unfold joins_Compare.f at H
 refine ent Tryz.func21 rfl [(0, .agg (cS_api_Join a0).toArray), (1, .agg (cS_api_Join a1).toArray)] rfl (by rfl) fun a ha => ?_
 have hC : Chg [] w w := Chg.refl _ _
 refine wp_seq_k fun K1 hK1 => ?_
 refine wp_region_lit ?_
 refine bx (cs := (cS_api_Join a0)) ha rfl rfl rfl rfl rfl fun a w2 g3 hN4 ha => ?_
 have hn6 := hN4.notin hM
 have hM : MS (M) w2 := (hM.chg hN4.chg)
 have hC := hC.trans hN4.chg (Ok.nil _ _)
 have hE5 : ∀ j v, (cS_api_Join a0)[j]? = some v → w2.cell? ⟨g3, 0 + j, none⟩ = some v := Box.cells (New.box hN4)
 refine bx (cs := (cS_api_Join a1)) ha rfl rfl rfl rfl rfl fun a w7 g8 hN9 ha => ?_
 have hn11 := hN9.notin hM
 have o1 : Ok [] (M) w2.heap.size := Ok.nil _ _
 have o2 : Ok (M) (M) w2.heap.size := (Ok.refl _ _)
 have q_hn6 : g3 ∉ M := fun h => (o2 g3 h).elim hn6 (fun h => absurd (lt_cell (hE5 0 _ rfl)) (Nat.not_lt.2 h))
 have hE5 : ∀ j v, (cS_api_Join a0)[j]? = some v → w7.cell? ⟨g3, 0 + j, none⟩ = some v := fun j v hv => (cell_keep hN9.chg o1 hn6 (hE5 j v hv))
 have hn6 := q_hn6
 have hM : MS (M) w7 := (hM.chg hN9.chg)
 have hC := hC.trans hN9.chg (Ok.nil _ _)
 have hE10 : ∀ j v, (cS_api_Join a1)[j]? = some v → w7.cell? ⟨g8, 0 + j, none⟩ = some v := Box.cells (New.box hN9)
 refine seg ha 1 [(2, .pointer (some ⟨g3, 0, none⟩)), (3, .pointer (some ⟨g8, 0, none⟩))] (by kernel_rfl) fun a ha => ?_
 refine hK1 _ _ ?_; try clear hK1 K1
 refine wp_seq_k fun K12 hK12 => ?_
 refine drq 20 (fun w' => Chg [] w7 w') (by kernel_rfl) (by kernel_rfl) (fun _ h => h) ?_
 refine qp 0 (.pointer (some ⟨g3, 0, none⟩)) ha rfl rfl rfl (by kernel_rfl) fun a ha => ?_
 refine qv (v := .string (bstr a0.Vrf)) ha rfl rfl rfl (fun w' hs => ld_run ha rfl (by kernel_rfl) (hs.keep (hE5 0 (.string (bstr a0.Vrf)) (by kernel_rfl)))) fun a ha => ?_
 refine qp 0 (.pointer (some ⟨g8, 0, none⟩)) ha rfl rfl rfl (by kernel_rfl) fun a ha => ?_
 refine qv (v := .string (bstr a1.Vrf)) ha rfl rfl rfl (fun w' hs => ld_run ha rfl (by kernel_rfl) (hs.keep (hE10 0 (.string (bstr a1.Vrf)) (by kernel_rfl)))) fun a ha => ?_
 obtain ⟨t13, H13, H⟩ := bind_some H
 refine qc (.int .i64 t13) ha (by rfl) (by kernel_rfl) (by rfl) (by rfl) (by rfl) (fun w' hs => (cmp_Compare_string.walk w' [] (MS.nil _) a0.Vrf a1.Vrf _ H13).mono fun v w'' ⟨hv, hc, _⟩ => ⟨hv, hs.trans hc (Ok.nil _ _)⟩) fun a ha => ?_
 refine qp 0 (.pointer (some ⟨g3, 0 + 19, none⟩)) ha rfl rfl rfl (by kernel_rfl) fun a ha => ?_
 refine qv (v := .agg (cS_api_Addr a0.Group).toArray) ha rfl rfl rfl (fun w' hs => ldA_run (cs := (cS_api_Addr a0.Group)) ha rfl (by kernel_rfl) (cells_sub (fun j v hv => hs.keep (hE5 j v hv)) (all := (cS_api_Join a0)) [.string (bstr a0.Vrf), .string (bstr a0.Iface), .int .i64 a0.Source.Size, .int .u8 (ar a0.Source.B 0), .int .u8 (ar a0.Source.B 1), .int .u8 (ar a0.Source.B 2), .int .u8 (ar a0.Source.B 3), .int .u8 (ar a0.Source.B 4), .int .u8 (ar a0.Source.B 5), .int .u8 (ar a0.Source.B 6), .int .u8 (ar a0.Source.B 7), .int .u8 (ar a0.Source.B 8), .int .u8 (ar a0.Source.B 9), .int .u8 (ar a0.Source.B 10), .int .u8 (ar a0.Source.B 11), .int .u8 (ar a0.Source.B 12), .int .u8 (ar a0.Source.B 13), .int .u8 (ar a0.Source.B 14), .int .u8 (ar a0.Source.B 15)] [] (by kernel_rfl))) fun a ha => ?_
 refine qp 0 (.pointer (some ⟨g8, 0 + 19, none⟩)) ha rfl rfl rfl (by kernel_rfl) fun a ha => ?_
 refine qv (v := .agg (cS_api_Addr a1.Group).toArray) ha rfl rfl rfl (fun w' hs => ldA_run (cs := (cS_api_Addr a1.Group)) ha rfl (by kernel_rfl) (cells_sub (fun j v hv => hs.keep (hE10 j v hv)) (all := (cS_api_Join a1)) [.string (bstr a1.Vrf), .string (bstr a1.Iface), .int .i64 a1.Source.Size, .int .u8 (ar a1.Source.B 0), .int .u8 (ar a1.Source.B 1), .int .u8 (ar a1.Source.B 2), .int .u8 (ar a1.Source.B 3), .int .u8 (ar a1.Source.B 4), .int .u8 (ar a1.Source.B 5), .int .u8 (ar a1.Source.B 6), .int .u8 (ar a1.Source.B 7), .int .u8 (ar a1.Source.B 8), .int .u8 (ar a1.Source.B 9), .int .u8 (ar a1.Source.B 10), .int .u8 (ar a1.Source.B 11), .int .u8 (ar a1.Source.B 12), .int .u8 (ar a1.Source.B 13), .int .u8 (ar a1.Source.B 14), .int .u8 (ar a1.Source.B 15)] [] (by kernel_rfl))) fun a ha => ?_
 obtain ⟨t14, H14, H⟩ := bind_some H
 refine qc (.int .i64 t14) ha (by rfl) (by kernel_rfl) (by rfl) (by rfl) (by rfl) (fun w' hs => (addr_Compare.walk w' [] (MS.nil _) a0.Group a1.Group k _ H14).mono fun v w'' ⟨hv, hc, _⟩ => ⟨hv, hs.trans hc (Ok.nil _ _)⟩) fun a ha => ?_
 refine qp 0 (.pointer (some ⟨g3, 0 + 2, none⟩)) ha rfl rfl rfl (by kernel_rfl) fun a ha => ?_
 refine qv (v := .agg (cS_api_Addr a0.Source).toArray) ha rfl rfl rfl (fun w' hs => ldA_run (cs := (cS_api_Addr a0.Source)) ha rfl (by kernel_rfl) (cells_sub (fun j v hv => hs.keep (hE5 j v hv)) (all := (cS_api_Join a0)) [.string (bstr a0.Vrf), .string (bstr a0.Iface)] [.int .i64 a0.Group.Size, .int .u8 (ar a0.Group.B 0), .int .u8 (ar a0.Group.B 1), .int .u8 (ar a0.Group.B 2), .int .u8 (ar a0.Group.B 3), .int .u8 (ar a0.Group.B 4), .int .u8 (ar a0.Group.B 5), .int .u8 (ar a0.Group.B 6), .int .u8 (ar a0.Group.B 7), .int .u8 (ar a0.Group.B 8), .int .u8 (ar a0.Group.B 9), .int .u8 (ar a0.Group.B 10), .int .u8 (ar a0.Group.B 11), .int .u8 (ar a0.Group.B 12), .int .u8 (ar a0.Group.B 13), .int .u8 (ar a0.Group.B 14), .int .u8 (ar a0.Group.B 15)] (by kernel_rfl))) fun a ha => ?_
 refine qp 0 (.pointer (some ⟨g8, 0 + 2, none⟩)) ha rfl rfl rfl (by kernel_rfl) fun a ha => ?_
 refine qv (v := .agg (cS_api_Addr a1.Source).toArray) ha rfl rfl rfl (fun w' hs => ldA_run (cs := (cS_api_Addr a1.Source)) ha rfl (by kernel_rfl) (cells_sub (fun j v hv => hs.keep (hE10 j v hv)) (all := (cS_api_Join a1)) [.string (bstr a1.Vrf), .string (bstr a1.Iface)] [.int .i64 a1.Group.Size, .int .u8 (ar a1.Group.B 0), .int .u8 (ar a1.Group.B 1), .int .u8 (ar a1.Group.B 2), .int .u8 (ar a1.Group.B 3), .int .u8 (ar a1.Group.B 4), .int .u8 (ar a1.Group.B 5), .int .u8 (ar a1.Group.B 6), .int .u8 (ar a1.Group.B 7), .int .u8 (ar a1.Group.B 8), .int .u8 (ar a1.Group.B 9), .int .u8 (ar a1.Group.B 10), .int .u8 (ar a1.Group.B 11), .int .u8 (ar a1.Group.B 12), .int .u8 (ar a1.Group.B 13), .int .u8 (ar a1.Group.B 14), .int .u8 (ar a1.Group.B 15)] (by kernel_rfl))) fun a ha => ?_
 obtain ⟨t15, H15, H⟩ := bind_some H
 refine qc (.int .i64 t15) ha (by rfl) (by kernel_rfl) (by rfl) (by rfl) (by rfl) (fun w' hs => (addr_Compare.walk w' [] (MS.nil _) a0.Source a1.Source k _ H15).mono fun v w'' ⟨hv, hc, _⟩ => ⟨hv, hs.trans hc (Ok.nil _ _)⟩) fun a ha => ?_
 refine qp 0 (.pointer (some ⟨g3, 0 + 1, none⟩)) ha rfl rfl rfl (by kernel_rfl) fun a ha => ?_
 refine qv (v := .string (bstr a0.Iface)) ha rfl rfl rfl (fun w' hs => ld_run ha rfl (by kernel_rfl) (hs.keep (hE5 1 (.string (bstr a0.Iface)) (by kernel_rfl)))) fun a ha => ?_
 refine qp 0 (.pointer (some ⟨g8, 0 + 1, none⟩)) ha rfl rfl rfl (by kernel_rfl) fun a ha => ?_
 refine qv (v := .string (bstr a1.Iface)) ha rfl rfl rfl (fun w' hs => ld_run ha rfl (by kernel_rfl) (hs.keep (hE10 1 (.string (bstr a1.Iface)) (by kernel_rfl)))) fun a ha => ?_
 obtain ⟨t16, H16, H⟩ := bind_some H
 refine qc (.int .i64 t16) ha (by rfl) (by kernel_rfl) (by rfl) (by rfl) (by rfl) (fun w' hs => (cmp_Compare_string.walk w' [] (MS.nil _) a0.Iface a1.Iface _ H16).mono fun v w'' ⟨hv, hc, _⟩ => ⟨hv, hs.trans hc (Ok.nil _ _)⟩) fun a ha => ?_
 refine wpQuiet_nil ?_
 intro w17 hc18
 have o1 : Ok [] (M) w7.heap.size := Ok.nil _ _
 have o2 : Ok (M) (M) w7.heap.size := (Ok.refl _ _)
 have q_hn6 : g3 ∉ M := fun h => (o2 g3 h).elim hn6 (fun h => absurd (lt_cell (hE5 0 _ rfl)) (Nat.not_lt.2 h))
 have hE5 : ∀ j v, (cS_api_Join a0)[j]? = some v → w17.cell? ⟨g3, 0 + j, none⟩ = some v := fun j v hv => (cell_keep hc18 o1 hn6 (hE5 j v hv))
 have hn6 := q_hn6
 have q_hn11 : g8 ∉ M := fun h => (o2 g8 h).elim hn11 (fun h => absurd (lt_cell (hE10 0 _ rfl)) (Nat.not_lt.2 h))
 have hE10 : ∀ j v, (cS_api_Join a1)[j]? = some v → w17.cell? ⟨g8, 0 + j, none⟩ = some v := fun j v hv => (cell_keep hc18 o1 hn11 (hE10 j v hv))
 have hn11 := q_hn11
 have hM : MS (M) w17 := (hM.chg hc18)
 have hC := hC.trans hc18 (Ok.nil _ _)
 refine bsl (vals := ([.int .i64 t13, .int .i64 t14, .int .i64 t15, .int .i64 t16] : List Value)) (T := 3) ha rfl (([.int .i64 t13] : List Value) ++ (([.int .i64 t14] : List Value) ++ (([.int .i64 t15] : List Value) ++ (([.int .i64 t16] : List Value) ++ ([] : List Value))))) (fun w => by kernel_rfl) rfl rfl rfl fun a w19 g20 hN21 ha => ?_
 have p_i22_M : ∀ x ∈ [g20], x ∉ M := fun x hx hy => absurd (hM x (hy)) (Nat.not_lt.2 ((hN21.ge1) x hx))
 have e_i22 : ∀ x ∈ [g20], w.heap.size ≤ x := fun x hx => Nat.le_trans hC.size ((hN21.ge1) x hx)
 have hM : MS ([g20] ++ (M)) w19 := (MS.app hN21.ms (hM.chg hN21.chg))
 have hC := hC.trans hN21.chg (Ok.nil _ _)
 have f23 : Own (rInt .i64) 3 w19 ([g20] ++ (M)) (some ⟨g20, 0, none⟩) 4 ([t13, t14, t15, t16] : List Int) := hN21.own ⟨([.int .i64 t13] : List Value), _, rfl, rfl, ⟨([.int .i64 t14] : List Value), _, rfl, rfl, ⟨([.int .i64 t15] : List Value), _, rfl, rfl, ⟨([.int .i64 t16] : List Value), _, rfl, rfl, rfl⟩⟩⟩⟩ (Nat.le_of_ble_eq_true rfl)
 have hML : MS (M) w19 := MS.rest hM (fun _ h => mr (h))
 have oL : Ok (M) ([g20] ++ (M)) w19.heap.size := (fun _ h => .inl (mr (h)))
 obtain ⟨t24, H24, H⟩ := bind_some H
 refine cl ha (by rfl) (by kernel_rfl) (by rfl) (by rfl) (by rfl) (cmp_Or_int.walk w19 _ hML ([t13, t14, t15, t16] : List Int) (some ⟨g20, 0, none⟩) 4 (Own.toRSl (M' := M) f23 oL (fun x hx hm => p_i22_M x hx hm)) k _ H24) ?_
 rintro _ w24 ⟨rfl, hc24, hMn⟩ a ha
 have o1 : Ok [] ([g20] ++ (M)) w19.heap.size := Ok.nil _ _
 have o2 : Ok ([g20] ++ (M)) ([g20] ++ (M)) w19.heap.size := (Ok.refl _ _)
 have f23 := f23.chg hc24 o1 o2 (fun _ _ h => nomatch h) (fun _ h => ml h)
 have hM : MS ([g20] ++ (M)) w24 := (hM.chg hc24)
 have hC := hC.trans hc24 (Ok.nil _ _)
 refine seg ha 1 [(4, .int .i64 t24)] (by kernel_rfl) fun a ha => ?_
 refine hK12 _ _ ?_; try clear hK12 K12
 refine wp_ret ?_
 try simp only [Exit.then, Exit.inBlock]
 have hM : MS (M) w24 := (fun x h => hM.chg (Chg.refl [] _) x (mr (h)))
 obtain rfl := Option.some.inj H
 refine rt1 ha rfl rfl ?_
 exact ⟨rfl, hC, hM⟩
def joins_Joins_place.l0 (k : Nat) (a0 : S_joins_Joins) (a1 : S_api_Join) : Nat → Int → Int → Option ((Int × Bool) ⊕ (Int))
  | 0, _, _ => none
  | kk + 1, x12, x13 => (if (decide (x13 < (a0.all.length : Int))) = true then (if 0 ≤ x13 ∧ x13 < (a0.all.length : Int) then (joins_Compare.f k (rd a0.all x13) a1).bind fun t35 => (if (decide (t35 > (0 : Int))) = true then some (.inr (x12 : Int)) else (if (((bstr ((rd a0.all x13).Vrf)).toList == (bstr a1.Vrf).toList) && (((bstr ((rd a0.all x13).Iface)).toList == (bstr a1.Iface).toList) && ((((((rd a0.all x13).Source).Size) == a1.Source.Size) && ((eqA 16 (((rd a0.all x13).Source).B) a1.Source.B) && true)) && ((((((rd a0.all x13).Group).Size) == a1.Group.Size) && ((eqA 16 (((rd a0.all x13).Group).B) a1.Group.B) && true)) && true)))) = true then some (.inl ((x13 : Int), (true : Bool))) else joins_Joins_place.l0 k a0 a1 kk (IntKind.i64.wrap (x13 + (1 : Int))) (IntKind.i64.wrap (x13 + (1 : Int))))) else none) else some (.inr (x12 : Int)))
def joins_Joins_place.f (k : Nat) (a0 : S_joins_Joins) (a1 : S_api_Join) : Option (Int × Bool) := (joins_Joins_place.l0 k a0 a1 k (0 : Int) (0 : Int)).bind fun s11 => match s11 with | .inl r => some r | .inr s11' => some ((s11' : Int), (false : Bool))
set_option maxRecDepth 100000 in
theorem joins_Joins_place.walk (w : World) (M : List Nat) (hM : MS M w) (gp0 : Nat) (a0 : S_joins_Joins) (ao1 : Option Addr) (cap1 : Nat) (f1 : RSl rS_api_Join 38 w M ao1 cap1 a0.all) (hBgp0 : Box w gp0 (cS_joins_Joins a0 ao1 cap1)) (hg_gp0 : gp0 ∈ M) (a1 : S_api_Join) (k : Nat) (r : Int × Bool) (H : joins_Joins_place.f k a0 a1 = some r) :
    To Tryz.prog 37 [.pointer (some ⟨gp0, 0, none⟩), .agg (cS_api_Join a1).toArray] w fun v w' => v = .tuple #[.int .i64 r.1, .bool r.2] ∧ Chg [] w w' ∧ MS (M) w' := by
 unfold joins_Joins_place.f at H
 refine ent Tryz.func37 rfl [(0, .pointer (some ⟨gp0, 0, none⟩)), (1, .agg (cS_api_Join a1).toArray)] rfl (by rfl) fun a ha => ?_
 have hC : Chg [] w w := Chg.refl _ _
 refine wp_seq_k fun K2 hK2 => ?_
 refine wp_region_lit ?_
 refine bx (cs := (cS_api_Join a1)) ha rfl rfl rfl rfl rfl fun a w3 g4 hN5 ha => ?_
 have hn7 := hN5.notin hM
 have o1 : Ok [] (M) w.heap.size := Ok.nil _ _
 have o2 : Ok (M) (M) w.heap.size := (Ok.refl _ _)
 have f1 := f1.chg hN5.chg o1 o2
 have hBgp0 := hBgp0.chg hN5.chg (fun h => nomatch h)
 have hM : MS (M) w3 := (hM.chg hN5.chg)
 have hC := hC.trans hN5.chg (Ok.nil _ _)
 have hE6 : ∀ j v, (cS_api_Join a1)[j]? = some v → w3.cell? ⟨g4, 0 + j, none⟩ = some v := Box.cells (New.box hN5)
 refine seg ha 2 [(0, .pointer (some ⟨gp0, 0, none⟩)), (3, .pointer (some ⟨g4, 0, none⟩)), (4, .int .i64 (0 : Int))] (by kernel_rfl) fun a ha => ?_
 refine hK2 _ _ ?_; try clear hK2 K2
 refine wp_scope_straight ?_
 refine wp_seq_k fun K8 hK8 => ?_
 refine wp_label ?_
 refine hK8 _ _ ?_; try clear hK8 K8
 refine wp_seq_k fun K9 hK9 => ?_
 refine wp_seq_k fun K10 hK10 => ?_
 refine wp_region_lit ?_
 refine seg ha 3 [(3, .pointer (some ⟨g4, 0, none⟩)), (4, .int .i64 (0 : Int)), (11, .pointer (some ⟨gp0, 0, none⟩))] (by kernel_rfl) fun a ha => ?_
 refine ld (v := .slice ao1 a0.all.length cap1) ha rfl (by kernel_rfl) rfl rfl rfl (hBgp0.cell' (o := 0) rfl (by kernel_rfl)) fun a ha => ?_
 refine seg ha 2 [(3, .pointer (some ⟨g4, 0, none⟩)), (4, .int .i64 (0 : Int)), (12, .slice ao1 a0.all.length cap1), (13, .int .i64 (a0.all.length : Int)), (14, .int .i64 (0 : Int))] (by kernel_rfl) fun a ha => ?_
 refine hK10 _ _ ?_; try clear hK10 K10
 refine wp_block ?_
 obtain ⟨s11, H11, H⟩ := bind_some H
 have J11 : ∀ s11' (a : Act) (wx11 : World), s11 = .inr s11' → Has a Tryz.f37.ntmps [(4, .int .i64 s11')] → (RSl rS_api_Join 38 wx11 (M) ao1 cap1 a0.all) → (Box wx11 gp0 (cS_joins_Joins a0 ao1 cap1)) → (Chg [] w wx11) → (MS (M) wx11) → K9 a wx11 := by
  intro s11' a wx11 hs ha f1 hBgp0 hC hM
  subst hs
  refine hK9 _ _ ?_; try clear hK9 K9
  refine wp_seq_k fun K14 hK14 => ?_
  refine wp_region_lit ?_
  refine seg ha 3 [(4, .int .i64 s11'), (5, .bool false)] (by kernel_rfl) fun a ha => ?_
  refine hK14 _ _ ?_; try clear hK14 K14
  refine wp_ret ?_
  try simp only [Exit.then, Exit.inBlock, Exit.noGoto]
  obtain rfl := Option.some.inj H
  refine rt2 ha rfl rfl rfl ?_
  exact ⟨rfl, hC, hM⟩
 have Hc11 := H
 have H := H11
 refine wp_loop_ghost (fun kk a w11 => ∃ (x12 : Int) (x13 : Int), joins_Joins_place.l0 k a0 a1 kk x12 x13 = some s11 ∧ Has a Tryz.f37.ntmps [(3, .pointer (some ⟨g4, 0, none⟩)), (4, .int .i64 x12), (12, .slice ao1 a0.all.length cap1), (13, .int .i64 (a0.all.length : Int)), (14, .int .i64 x13)] ∧ (RSl rS_api_Join 38 w11 (M) ao1 cap1 a0.all) ∧ (Box w11 gp0 (cS_joins_Joins a0 ao1 cap1)) ∧ (∀ j v, (cS_api_Join a1)[j]? = some v → w11.cell? ⟨g4, 0 + j, none⟩ = some v) ∧ (g4 ∉ (M)) ∧ (Chg [] w w11) ∧ (MS (M) w11)) k ?_ ?_
 ·skip
  exact ⟨(0 : Int), (0 : Int), H, (ha.sel (by kernel_rfl)), f1, hBgp0, hE6, hn7, hC, hM⟩
 ·rintro kk a w11 ⟨x12, x13, H, ha, f1, hBgp0, hE6, hn7, hC, hM⟩
  obtain _ | kk := kk
  ·exact nomatch (show none = some _ from H)
  rw [joins_Joins_place.l0] at H
  refine wp_seq_k fun K15 hK15 => ?_
  refine wp_region_lit ?_
  refine seg ha 1 [(3, .pointer (some ⟨g4, 0, none⟩)), (4, .int .i64 x12), (12, .slice ao1 a0.all.length cap1), (13, .int .i64 (a0.all.length : Int)), (14, .int .i64 x13), (15, .bool (decide (x13 < (a0.all.length : Int))))] (by kernel_rfl) fun a ha => ?_
  refine hK15 _ _ ?_; try clear hK15 K15
  refine wp_seq_k fun K16 hK16 => ?_
  refine cnd ha rfl (fun hc17 => ?_) (fun hc17 => ?_)
  ·have H := ite_t hc17 H
   refine wp_skip ?_
   refine hK16 _ _ ?_; try clear hK16 K16
   refine wp_seq_k fun K18 hK18 => ?_
   refine wp_block ?_
   refine wp_seq_k fun K19 hK19 => ?_
   refine wp_region_lit ?_
   refine seg ha 1 [(3, .pointer (some ⟨g4, 0, none⟩)), (4, .int .i64 x12), (12, .slice ao1 a0.all.length cap1), (13, .int .i64 (a0.all.length : Int)), (14, .int .i64 x13), (16, .int .i64 x13)] (by kernel_rfl) fun a ha => ?_
   obtain ⟨⟨hx20, hx20'⟩, H⟩ := ite_some H
   refine ix (r := rS_api_Join) ha (by kernel_rfl) (by kernel_rfl) rfl rfl rfl rfl rfl f1 hx20 hx20' fun a ge21 oe22 cs23 hn26 hR24 hE25 ha => ?_
   rw [rd_get] at hR24
   obtain rfl := rS_api_Join.open hR24
   refine ldA (cs := (cS_api_Join (rd a0.all x13))) ha rfl (by kernel_rfl) rfl rfl rfl (cells_sub hE25 (all := (cS_api_Join (rd a0.all x13))) [] [] (by kernel_rfl)) fun a ha => ?_
   refine al (cs := (cS_api_Join (⟨([] : List UInt8), ([] : List UInt8), (⟨(0 : Int), (List.replicate 16 (0 : Int))⟩ : S_api_Addr), (⟨(0 : Int), (List.replicate 16 (0 : Int))⟩ : S_api_Addr)⟩ : S_api_Join))) (z := .agg (cS_api_Join (⟨([] : List UInt8), ([] : List UInt8), (⟨(0 : Int), (List.replicate 16 (0 : Int))⟩ : S_api_Addr), (⟨(0 : Int), (List.replicate 16 (0 : Int))⟩ : S_api_Addr)⟩ : S_api_Join)).toArray) ha (fun w => by kernel_rfl) rfl rfl rfl rfl fun a w27 g28 hN29 ha => ?_
   have o1 : Ok [] (M) w11.heap.size := Ok.nil _ _
   have o2 : Ok ([g28] ++ (M)) (M) w11.heap.size := (Ok.app (hN29.ok _) (Ok.refl _ _))
   have f1 := f1.chg hN29.chg o1 o2
   have hBgp0 := hBgp0.chg hN29.chg (fun h => nomatch h)
   have q_hn7 : g4 ∉ [g28] ++ (M) := fun h => (o2 g4 h).elim hn7 (fun h => absurd (lt_cell (hE6 0 _ rfl)) (Nat.not_lt.2 h))
   have hE6 : ∀ j v, (cS_api_Join a1)[j]? = some v → w27.cell? ⟨g4, 0 + j, none⟩ = some v := fun j v hv => (cell_keep hN29.chg o1 hn7 (hE6 j v hv))
   have hn7 := q_hn7
   have p_i30_M : ∀ x ∈ [g28], x ∉ M := fun x hx hy => absurd (hM x (hy)) (Nat.not_lt.2 ((hN29.ge1) x hx))
   have e_i30 : ∀ x ∈ [g28], w.heap.size ≤ x := fun x hx => Nat.le_trans hC.size ((hN29.ge1) x hx)
   have hM : MS ([g28] ++ (M)) w27 := (MS.app hN29.ms (hM.chg hN29.chg))
   have hC := hC.trans hN29.chg (Ok.nil _ _)
   have hBg28 : Box w27 g28 (cS_api_Join (⟨([] : List UInt8), ([] : List UInt8), (⟨(0 : Int), (List.replicate 16 (0 : Int))⟩ : S_api_Addr), (⟨(0 : Int), (List.replicate 16 (0 : Int))⟩ : S_api_Addr)⟩ : S_api_Join)) := hN29.box
   refine seg ha 1 [(3, .pointer (some ⟨g4, 0, none⟩)), (4, .int .i64 x12), (6, .int .i64 x13), (7, .pointer (some ⟨g28, 0, none⟩)), (12, .slice ao1 a0.all.length cap1), (13, .int .i64 (a0.all.length : Int)), (14, .int .i64 x13), (18, .agg (cS_api_Join (rd a0.all x13)).toArray)] (by kernel_rfl) fun a ha => ?_
   refine stA (l := (cS_api_Join (rd a0.all x13))) ha rfl rfl rfl (by kernel_rfl) rfl rfl hBg28 rfl fun a w31 ha hb2 hc32 _ => ?_
   have o1 : Ok [g28] ([g28] ++ (M)) w27.heap.size := (fun _ h => .inl (ml h))
   have o2 : Ok ([g28] ++ (M)) ([g28] ++ (M)) w27.heap.size := (Ok.refl _ _)
   have f1 := f1.chg hc32 o1 o2
   have hBgp0 := hBgp0.chg hc32 ((fun x (hx : x ∈ [gp0]) (hy : x ∈ [g28]) => p_i30_M x hy (by rw [List.mem_singleton.1 hx]; exact hg_gp0)) gp0 (by simp))
   have q_hn7 : g4 ∉ [g28] ++ (M) := fun h => (o2 g4 h).elim hn7 (fun h => absurd (lt_cell (hE6 0 _ rfl)) (Nat.not_lt.2 h))
   have hE6 : ∀ j v, (cS_api_Join a1)[j]? = some v → w31.cell? ⟨g4, 0 + j, none⟩ = some v := fun j v hv => (cell_keep hc32 o1 hn7 (hE6 j v hv))
   have hn7 := q_hn7
   have hM : MS ([g28] ++ (M)) w31 := (hM.chg hc32)
   have hC := hC.trans hc32 (fun x h => .inr (e_i30 x h))
   have hBg28 : Box w31 g28 (cS_api_Join (rd a0.all x13)) := hb2
   refine hK19 _ _ ?_; try clear hK19 K19
   refine wp_seq_k fun K33 hK33 => ?_
   refine wp_seq_k fun K34 hK34 => ?_
   refine wp_region_lit ?_
   refine ldA (cs := (cS_api_Join (rd a0.all x13))) ha rfl (by kernel_rfl) rfl rfl rfl (cells_sub (Box.cells hBg28) (all := (cS_api_Join (rd a0.all x13))) [] [] (by kernel_rfl)) fun a ha => ?_
   refine ldA (cs := (cS_api_Join a1)) ha rfl (by kernel_rfl) rfl rfl rfl (cells_sub hE6 (all := (cS_api_Join a1)) [] [] (by kernel_rfl)) fun a ha => ?_
   obtain ⟨t35, H35, H⟩ := bind_some H
   refine cl ha (by rfl) (by kernel_rfl) (by rfl) (by rfl) (by rfl) (joins_Compare.walk w31 _ hM (rd a0.all x13) a1 k _ H35) ?_
   rintro _ w35 ⟨rfl, hc35, hMn⟩ a ha
   have o1 : Ok [] ([g28] ++ (M)) w31.heap.size := Ok.nil _ _
   have o2 : Ok ([g28] ++ (M)) ([g28] ++ (M)) w31.heap.size := (Ok.refl _ _)
   have f1 := f1.chg hc35 o1 o2
   have hBgp0 := hBgp0.chg hc35 (fun h => nomatch h)
   have hBg28 := hBg28.chg hc35 (fun h => nomatch h)
   have q_hn7 : g4 ∉ [g28] ++ (M) := fun h => (o2 g4 h).elim hn7 (fun h => absurd (lt_cell (hE6 0 _ rfl)) (Nat.not_lt.2 h))
   have hE6 : ∀ j v, (cS_api_Join a1)[j]? = some v → w35.cell? ⟨g4, 0 + j, none⟩ = some v := fun j v hv => (cell_keep hc35 o1 hn7 (hE6 j v hv))
   have hn7 := q_hn7
   have hM : MS ([g28] ++ (M)) w35 := (hM.chg hc35)
   have hC := hC.trans hc35 (Ok.nil _ _)
   refine seg ha 1 [(3, .pointer (some ⟨g4, 0, none⟩)), (4, .int .i64 x12), (6, .int .i64 x13), (7, .pointer (some ⟨g28, 0, none⟩)), (8, .int .i64 t35), (12, .slice ao1 a0.all.length cap1), (13, .int .i64 (a0.all.length : Int)), (14, .int .i64 x13)] (by kernel_rfl) fun a ha => ?_
   refine hK34 _ _ ?_; try clear hK34 K34
   refine wp_block ?_
   refine wp_seq_k fun K36 hK36 => ?_
   refine wp_region_lit ?_
   refine seg ha 3 [(3, .pointer (some ⟨g4, 0, none⟩)), (4, .int .i64 x12), (6, .int .i64 x13), (7, .pointer (some ⟨g28, 0, none⟩)), (12, .slice ao1 a0.all.length cap1), (13, .int .i64 (a0.all.length : Int)), (14, .int .i64 x13), (22, .bool (decide (t35 > (0 : Int))))] (by kernel_rfl) fun a ha => ?_
   refine hK36 _ _ ?_; try clear hK36 K36
   refine cnd ha rfl (fun hc37 => ?_) (fun hc37 => ?_)
   ·have H := ite_t hc37 H
    refine wp_exit ?_
    simp only [Exit.then, Exit.inBlock, ↓reduceIte, Nat.reduceEqDiff]
    obtain rfl := Option.some.inj H
    have o1 : Ok [] ([g28] ++ (M)) w35.heap.size := Ok.nil _ _
    have o2 : Ok (M) ([g28] ++ (M)) w35.heap.size := (fun _ h => .inl (mr (h)))
    have f1 := f1.chg (Chg.refl [] _) o1 o2
    have q_hn7 : g4 ∉ M := fun h => (o2 g4 h).elim hn7 (fun h => absurd (lt_cell (hE6 0 _ rfl)) (Nat.not_lt.2 h))
    have hn7 := q_hn7
    have hM : MS (M) w35 := (fun x h => hM.chg (Chg.refl [] _) x (mr (h)))
    exact J11 _ _ _ rfl (ha.sel (by kernel_rfl)) f1 hBgp0 hC hM
   ·have H := ite_f hc37 H
    refine wp_seq_k fun K38 hK38 => ?_
    refine wp_region_lit ?_
    refine ldA (cs := (cS_api_Join (rd a0.all x13))) ha rfl (by kernel_rfl) rfl rfl rfl (cells_sub (Box.cells hBg28) (all := (cS_api_Join (rd a0.all x13))) [] [] (by kernel_rfl)) fun a ha => ?_
    refine ldA (cs := (cS_api_Join a1)) ha rfl (by kernel_rfl) rfl rfl rfl (cells_sub hE6 (all := (cS_api_Join a1)) [] [] (by kernel_rfl)) fun a ha => ?_
    refine hop (v := .bool (((bstr ((rd a0.all x13).Vrf)).toList == (bstr a1.Vrf).toList) && (((bstr ((rd a0.all x13).Iface)).toList == (bstr a1.Iface).toList) && ((((((rd a0.all x13).Source).Size) == a1.Source.Size) && ((eqA 16 (((rd a0.all x13).Source).B) a1.Source.B) && true)) && ((((((rd a0.all x13).Group).Size) == a1.Group.Size) && ((eqA 16 (((rd a0.all x13).Group).B) a1.Group.B) && true)) && true))))) (w' := w35) ha rfl rfl rfl (eqs_run (r := (((bstr ((rd a0.all x13).Vrf)).toList == (bstr a1.Vrf).toList) && (((bstr ((rd a0.all x13).Iface)).toList == (bstr a1.Iface).toList) && ((((((rd a0.all x13).Source).Size) == a1.Source.Size) && ((eqA 16 (((rd a0.all x13).Source).B) a1.Source.B) && true)) && ((((((rd a0.all x13).Group).Size) == a1.Group.Size) && ((eqA 16 (((rd a0.all x13).Group).B) a1.Group.B) && true)) && true))))) (m := 9) ha rfl rfl (by kernel_rfl) rfl (by kernel_rfl) _) fun a ha => ?_
    refine seg ha 1 [(3, .pointer (some ⟨g4, 0, none⟩)), (6, .int .i64 x13), (12, .slice ao1 a0.all.length cap1), (13, .int .i64 (a0.all.length : Int)), (14, .int .i64 x13), (25, .bool (((bstr ((rd a0.all x13).Vrf)).toList == (bstr a1.Vrf).toList) && (((bstr ((rd a0.all x13).Iface)).toList == (bstr a1.Iface).toList) && ((((((rd a0.all x13).Source).Size) == a1.Source.Size) && ((eqA 16 (((rd a0.all x13).Source).B) a1.Source.B) && true)) && ((((((rd a0.all x13).Group).Size) == a1.Group.Size) && ((eqA 16 (((rd a0.all x13).Group).B) a1.Group.B) && true)) && true)))))] (by kernel_rfl) fun a ha => ?_
    refine hK38 _ _ ?_; try clear hK38 K38
    refine cnd ha rfl (fun hc39 => ?_) (fun hc39 => ?_)
    ·have H := ite_t hc39 H
     refine wp_seq_k fun K40 hK40 => ?_
     refine wp_region_lit ?_
     refine seg ha 3 [(4, .int .i64 x13), (5, .bool true)] (by kernel_rfl) fun a ha => ?_
     refine hK40 _ _ ?_; try clear hK40 K40
     refine wp_ret ?_
     try simp only [Exit.then, Exit.inBlock, Exit.noGoto]
     have o1 : Ok [] ([g28] ++ (M)) w35.heap.size := Ok.nil _ _
     have o2 : Ok (M) ([g28] ++ (M)) w35.heap.size := (fun _ h => .inl (mr (h)))
     have f1 := f1.chg (Chg.refl [] _) o1 o2
     have hM : MS (M) w35 := (fun x h => hM.chg (Chg.refl [] _) x (mr (h)))
     obtain rfl := Option.some.inj H
     have H := (show some _ = some _ from Hc11)
     obtain rfl := Option.some.inj H
     refine rt2 ha rfl rfl rfl ?_
     exact ⟨rfl, hC, hM⟩
    ·have H := ite_f hc39 H
     refine wp_skip ?_
     refine hK33 _ _ ?_; try clear hK33 K33
     refine wp_region_lit ?_
     refine seg ha 3 [(3, .pointer (some ⟨g4, 0, none⟩)), (4, .int .i64 (IntKind.i64.wrap (x13 + (1 : Int)))), (12, .slice ao1 a0.all.length cap1), (13, .int .i64 (a0.all.length : Int)), (14, .int .i64 x13)] (by kernel_rfl) fun a ha => ?_
     refine hK18 _ _ ?_; try clear hK18 K18
     refine wp_region_lit ?_
     refine seg ha 2 [(3, .pointer (some ⟨g4, 0, none⟩)), (4, .int .i64 (IntKind.i64.wrap (x13 + (1 : Int)))), (12, .slice ao1 a0.all.length cap1), (13, .int .i64 (a0.all.length : Int)), (14, .int .i64 (IntKind.i64.wrap (x13 + (1 : Int))))] (by kernel_rfl) fun a ha => ?_
     have o1 : Ok [] ([g28] ++ (M)) w35.heap.size := Ok.nil _ _
     have o2 : Ok (M) ([g28] ++ (M)) w35.heap.size := (fun _ h => .inl (mr (h)))
     have f1 := f1.chg (Chg.refl [] _) o1 o2
     have q_hn7 : g4 ∉ M := fun h => (o2 g4 h).elim hn7 (fun h => absurd (lt_cell (hE6 0 _ rfl)) (Nat.not_lt.2 h))
     have hn7 := q_hn7
     have hM : MS (M) w35 := (fun x h => hM.chg (Chg.refl [] _) x (mr (h)))
     exact ⟨kk, Nat.lt_succ_self _, ⟨IntKind.i64.wrap (x13 + (1 : Int)), IntKind.i64.wrap (x13 + (1 : Int)), H, (ha.sel (by kernel_rfl)), f1, hBgp0, hE6, hn7, hC, hM⟩⟩
  ·have H := ite_f hc17 H
   refine wp_exit ?_
   simp only [Exit.then, Exit.inBlock, ↓reduceIte, Nat.reduceEqDiff]
   obtain rfl := Option.some.inj H
   exact J11 _ _ _ rfl (ha.sel (by kernel_rfl)) f1 hBgp0 hC hM
theorem fJ : Flat rS_api_Join cS_api_Join := ⟨fun _ _ _ _ => ⟨fun h => rS_api_Join.open h, fun h => h ▸ rS_api_Join.mk _⟩⟩
theorem lenJ (x : S_api_Join) : (cS_api_Join x).length = 36 := by simp [cS_api_Join, cS_api_Addr, cA_length]
theorem oneJ (w : World) (xs : List S_api_Join) : ∀ v ∈ xs.flatMap cS_api_Join, v.oneCell' = true := fun v hv => by
  obtain ⟨x, _, hx⟩ := List.mem_flatMap.1 hv
  exact rS_api_Join.one (w := w) (M := []) (rS_api_Join.mk x) v hx
theorem flJ (xs : List S_api_Join) : (xs.flatMap cS_api_Join).length = xs.length * 36 := flat_len lenJ xs
theorem tkJ (xs : List S_api_Join) (j : List Value) (i : Nat) (hi : i ≤ xs.length) : (xs.flatMap cS_api_Join ++ j).take (i * 36) = (xs.take i).flatMap cS_api_Join := by
  have e : xs.flatMap cS_api_Join = (xs.take i).flatMap cS_api_Join ++ (xs.drop i).flatMap cS_api_Join := by rw [← List.flatMap_append, List.take_append_drop]
  rw [e, List.append_assoc, List.take_left' (by rw [flJ, List.length_take]; omega)]
theorem dpJ (xs : List S_api_Join) (j : List Value) (i : Nat) (hi : i ≤ xs.length) : (xs.flatMap cS_api_Join ++ j).drop (i * 36) = (xs.drop i).flatMap cS_api_Join ++ j := by
  have e : xs.flatMap cS_api_Join = (xs.take i).flatMap cS_api_Join ++ (xs.drop i).flatMap cS_api_Join := by rw [← List.flatMap_append, List.take_append_drop]
  rw [e, List.append_assoc, List.drop_left' (by rw [flJ, List.length_take]; omega)]
set_option maxRecDepth 100000 in
theorem insert_walk (w : World) (ao : Option Addr) (cap : Nat) (xs : List S_api_Join) (hO : Own rS_api_Join 38 w (blkL ao) ao cap xs) (i : Nat) (hi : i ≤ xs.length) (hn : xs.length ≤ 1000) (v : S_api_Join) (gv : Nat) (hv : Box w gv (cS_api_Join v)) (hgv : gv ∉ blkL ao) :
    To Tryz.prog 38 [.slice ao xs.length cap, .int .i64 (i : Int), .slice (some ⟨gv, 0, none⟩) 1 1] w fun r w' => ∃ ao' cap', r = .slice ao' (xs.length + 1) cap' ∧ Own rS_api_Join 38 w' (blkL ao') ao' cap' (xs.take i ++ ([v] ++ xs.drop i)) ∧ Chg (blkL ao) w w' ∧ Ok (blkL ao') (blkL ao) w.heap.size := by
  have hmax : maxLen = 9223372036854775807 := rfl
  have hR : RSl rS_api_Join 38 w [] ao cap xs := hO.toRSl (Ok.nil _ _) (fun _ _ h => nomatch h)
  have hRv : RSl rS_api_Join 38 w (blkL ao) (some ⟨gv, 0, none⟩) 1 [v] := by
    obtain ⟨T', hb⟩ := hv
    exact ⟨Nat.le_refl _, by rw [hmax]; decide, .inr ⟨gv, 0, _, (T', (0, 0)), rfl, hgv, hb, (RL.flat fJ).2 (by
      rw [List.toList_toArray, List.drop_zero, show [v].length * rS_api_Join.sz = 36 from rfl, List.flatMap_singleton, List.take_of_length_le (by rw [lenJ]; exact Nat.le_refl _)])⟩⟩
  refine ent Tryz.func38 rfl [(0, .slice ao xs.length cap), (1, .int .i64 (i : Int)), (2, .slice (some ⟨gv, 0, none⟩) [v].length 1)] rfl (by rfl) fun a ha => ?_
  refine wp_seq_k fun K hK => ?_
  refine wp_region_lit ?_
  refine seg ha 1 [(0, .slice ao xs.length cap), (1, .int .i64 (i : Int)), (2, .slice (some ⟨gv, 0, none⟩) [v].length 1)] (by kernel_rfl) fun a ha => ?_
  refine hK _ _ ?_; clear hK K
  refine wp_seq_k fun K hK => ?_
  refine wp_region_lit ?_
  refine seg ha 2 [(0, .slice ao xs.length cap), (1, .int .i64 (i : Int)), (2, .slice (some ⟨gv, 0, none⟩) [v].length 1), (10, .slice ao xs.length cap), (11, .int .i64 (i : Int))] (by kernel_rfl) fun a ha => ?_
  refine hop (w' := w) ha rfl rfl rfl (slcE_run (r := rS_api_Join) (T := 38) (xs := xs) (l := (i : Int)) (h := (xs.length : Int)) ha (by kernel_rfl) (by kernel_rfl) rfl rfl rfl hR (by omega) (by omega) (by omega) w) fun a ha => ?_
  refine wpl_end ?_
  have ha := ha.sel (env' := [(0, .slice ao xs.length cap), (1, .int .i64 (i : Int)), (2, .slice (some ⟨gv, 0, none⟩) [v].length 1)]) (by kernel_rfl)
  refine hK _ _ ?_; clear hK K
  refine wp_seq_k fun K hK => ?_
  refine wp_region_lit ?_
  refine seg ha 3 [(0, .slice ao xs.length cap), (1, .int .i64 (i : Int)), (2, .slice (some ⟨gv, 0, none⟩) [v].length 1), (7, .int .i64 1)] (by kernel_rfl) fun a ha => ?_
  refine hK _ _ ?_; clear hK K
  refine wp_seq_k fun K hK => ?_
  refine wp_seq_k fun K2 hK2 => ?_
  refine wp_region_lit ?_
  refine seg ha 2 [(0, .slice ao xs.length cap), (1, .int .i64 (i : Int)), (2, .slice (some ⟨gv, 0, none⟩) [v].length 1), (7, .int .i64 1), (16, .bool false)] (by kernel_rfl) fun a ha => ?_
  refine hK2 _ _ ?_; clear hK2 K2
  refine cnd ha rfl (fun h => nomatch h) (fun _ => ?_)
  refine wp_skip ?_
  refine hK _ _ ?_; clear hK K
  refine wp_seq_k fun K hK => ?_
  refine wp_region_lit ?_
  refine seg ha 3 [(0, .slice ao xs.length cap), (1, .int .i64 (i : Int)), (2, .slice (some ⟨gv, 0, none⟩) [v].length 1), (7, .int .i64 1), (8, .int .i64 (xs.length : Int))] (by kernel_rfl) fun a ha => ?_
  refine hK _ _ ?_; clear hK K
  refine wp_seq_k fun K hK => ?_
  refine wp_seq_k fun K2 hK2 => ?_
  refine wp_region_lit ?_
  refine seg ha 3 [(0, .slice ao xs.length cap), (1, .int .i64 (i : Int)), (2, .slice (some ⟨gv, 0, none⟩) [v].length 1), (7, .int .i64 1), (8, .int .i64 (xs.length : Int)), (22, .bool ((i : Int) == (xs.length : Int)))] (by kernel_rfl) fun a ha => ?_
  refine hK2 _ _ ?_; clear hK2 K2
  refine cnd ha rfl (fun hc => ?_) (fun hc => ?_)
  · have hil : i = xs.length := by have := eq_of_beq hc; omega
    refine wp_seq_k fun K2 hK2 => ?_
    refine wp_region_lit ?_
    refine seg ha 2 [(23, .slice ao xs.length cap), (24, .slice (some ⟨gv, 0, none⟩) [v].length 1)] (by kernel_rfl) fun a ha => ?_
    refine app (r := rS_api_Join) (xs := xs) (ys := [v]) ha (ElemT.mk' (bytes := 80) (by kernel_rfl)) rfl rfl rfl rfl rfl hO hRv.src (by simp only [List.length_singleton]; omega) (by decide) fun a w2 ao2 cap2 hO2 hc2 hok hlt ha => ?_
    refine seg ha 1 [(6, .slice ao2 (xs ++ [v]).length cap2)] (by kernel_rfl) fun a ha => ?_
    refine hK2 _ _ ?_; clear hK2 K2
    refine wp_ret ?_
    simp only [Exit.then, Exit.inBlock]
    refine rt1 ha rfl rfl ⟨ao2, cap2, by rw [List.length_append]; rfl, ?_, hc2, hok⟩
    rw [hil, List.take_length, List.drop_length, List.append_nil]
    exact hO2.chg (Chg.refl [] _) (Ok.nil _ _) (fun g hg => .inl (ml hg)) (fun _ _ hh => nomatch hh) (fun g hg => hg)
  have hil : i < xs.length := by
    have : ¬ (i : Int) = (xs.length : Int) := by simpa using hc
    omega
  refine wp_skip ?_
  refine hK _ _ ?_; clear hK K
  obtain ⟨g, rfl⟩ : ∃ g, ao = some ⟨g, 0, none⟩ := by
    rcases hO with ⟨_, e, _⟩ | ⟨g1, _, e, _⟩
    · rw [e] at hil; simp at hil
    · exact ⟨g1, e⟩
  have hgg : gv ≠ g := fun e => hgv (by simp [blkL, e])
  obtain ⟨junk, hB, hcl, hnc, hcm, _⟩ := Own.raw fJ hO
  have hcl : (xs.flatMap cS_api_Join ++ junk).length = cap * 36 := hcl
  have e1 : IntKind.i64.wrap ((xs.length : Int) + 1) = ((xs.length + 1 : Nat) : Int) := by rw [IntKind.wrap_i64]; omega
  have e2 : IntKind.i64.wrap (((xs.length + 1 : Nat) : Int) - (i : Int)) = ((xs.length + 1 - i : Nat) : Int) := by rw [IntKind.wrap_i64]; omega
  have e3 : IntKind.i64.wrap ((i : Int) + 1) = ((i + 1 : Nat) : Int) := by rw [IntKind.wrap_i64]; omega
  have hsv : ∀ (w' : World), Box w' gv (cS_api_Join v) → ∀ j u, (cS_api_Join v)[j]? = some u → w'.cell? ((⟨gv, 0, none⟩ : Addr).add j) = some u := fun w' h j u hj => by rw [Addr.add_lit, Nat.zero_add]; exact h.cell hj
  have o1 : ∀ u ∈ cS_api_Join v, u.oneCell' = true := fun u hu => oneJ w [v] u (by rw [List.flatMap_singleton]; exact hu)
  have hdl : ((xs.drop i).flatMap cS_api_Join).length = (xs.length - i) * 36 := by rw [flJ, List.length_drop]
  have htl : ((xs.take i).flatMap cS_api_Join).length = i * 36 := by rw [flJ, List.length_take, Nat.min_eq_left hi]
  have hsd : ∀ (w' : World), BoxT 38 w' g (xs.flatMap cS_api_Join ++ junk) → ∀ j u, ((xs.drop i).flatMap cS_api_Join)[j]? = some u → w'.cell? ((⟨g, i * 36, none⟩ : Addr).add j) = some u := fun w' h => h.sub (m := (xs.length - i) * 36) (by rw [dpJ xs junk i hi, ← hdl, List.take_left])
  refine wp_seq_k fun K hK => ?_
  refine wp_seq_k fun K2 hK2 => ?_
  refine wp_region_lit ?_
  refine seg ha 6 [(0, .slice (some ⟨g, 0, none⟩) xs.length cap), (1, .int .i64 (i : Int)), (2, .slice (some ⟨gv, 0, none⟩) [v].length 1), (7, .int .i64 1), (8, .int .i64 (xs.length : Int)), (31, .bool (decide (IntKind.i64.wrap ((xs.length : Int) + 1) > (cap : Int))))] (by kernel_rfl) fun a ha => ?_
  refine hK2 _ _ ?_; clear hK2 K2
  rw [e1] at ha
  refine cnd ha rfl (fun hc => ?_) (fun hc => ?_)
  · have hgr : cap < xs.length + 1 := by have := of_decide_eq_true hc; omega
    refine wp_seq_k fun K2 hK2 => ?_
    refine wp_region_lit ?_
    refine seg ha 2 [(0, .slice (some ⟨g, 0, none⟩) xs.length cap), (1, .int .i64 (i : Int)), (2, .slice (some ⟨gv, 0, none⟩) [v].length 1), (7, .int .i64 1), (8, .int .i64 (xs.length : Int)), (32, .slice (some ⟨g, 0, none⟩) xs.length cap), (33, .int .i64 (i : Int))] (by kernel_rfl) fun a ha => ?_
    refine hop (w' := w) ha rfl rfl rfl (slR_run (T := 38) (s := 36) (l := 0) (h := i) (m := cap) ha (by kernel_rfl) (by kernel_rfl) rfl (.inl ⟨rfl, rfl⟩) (.inr ⟨_, _, rfl, rfl⟩) (.inl ⟨rfl, rfl⟩) (Nat.zero_le _) (by omega) (Nat.le_refl _) w) fun a ha => ?_
    rw [if_neg (by omega), Nat.zero_mul, Addr.add_lit, Nat.sub_zero, Nat.sub_zero] at ha
    refine seg ha 5 [(0, .slice (some ⟨g, 0, none⟩) xs.length cap), (1, .int .i64 (i : Int)), (2, .slice (some ⟨gv, 0, none⟩) [v].length 1), (7, .int .i64 1), (34, .slice (some ⟨g, 0, none⟩) i cap), (39, .int .i64 (IntKind.i64.wrap (IntKind.i64.wrap ((xs.length : Int) + 1) - (i : Int))))] (by kernel_rfl) fun a ha => ?_
    rw [e1, e2] at ha
    refine apz (T := 38) (k := 36) (nb := 80) (L := i) (m := xs.length + 1 - i) (olds := (xs.take i).flatMap cS_api_Join) (kn := .i64) ha (ElemT.mk' (by kernel_rfl)) (by kernel_rfl) rfl rfl rfl rfl rfl rfl htl (hB.sub (m := i * 36) (by rw [List.drop_zero, tkJ xs junk i hi])) (by omega) (by omega) (by omega) (by rw [hmax]; omega) fun a w2 g2 cap2 j2 eg hB2 hl2 hle2 hcm2 hc2 hlt2 ha => ?_
    refine seg ha 1 [(0, .slice (some ⟨g, 0, none⟩) xs.length cap), (1, .int .i64 (i : Int)), (2, .slice (some ⟨gv, 0, none⟩) [v].length 1), (7, .int .i64 1), (9, .slice (some ⟨g2, 0, none⟩) (i + (xs.length + 1 - i)) cap2)] (by kernel_rfl) fun a ha => ?_
    have hg2 : g2 ≠ g := by have := hB.box.lt; omega
    have hg2v : g2 ≠ gv := by have := hv.lt; omega
    have hB := hB.chg hc2 (fun h => nomatch h)
    have hv := hv.chg hc2 (fun h => nomatch h)
    refine hK2 _ _ ?_; clear hK2 K2
    refine wp_seq_k fun K2 hK2 => ?_
    refine wp_region_lit ?_
    refine seg ha 2 [(0, .slice (some ⟨g, 0, none⟩) xs.length cap), (1, .int .i64 (i : Int)), (2, .slice (some ⟨gv, 0, none⟩) [v].length 1), (7, .int .i64 1), (9, .slice (some ⟨g2, 0, none⟩) (i + (xs.length + 1 - i)) cap2), (41, .slice (some ⟨g2, 0, none⟩) (i + (xs.length + 1 - i)) cap2), (42, .int .i64 (i : Int))] (by kernel_rfl) fun a ha => ?_
    refine hop (w' := w2) ha rfl rfl rfl (slR_run (T := 38) (s := 36) (l := i) (h := i + (xs.length + 1 - i)) (m := cap2) ha (by kernel_rfl) (by kernel_rfl) rfl (.inr ⟨_, _, rfl, rfl⟩) (.inl ⟨rfl, rfl, rfl⟩) (.inl ⟨rfl, rfl⟩) (by omega) (by omega) (Nat.le_refl _) w2) fun a ha => ?_
    rw [if_neg (by omega), Addr.add_lit, Nat.zero_add] at ha
    refine seg ha 1 [(0, .slice (some ⟨g, 0, none⟩) xs.length cap), (1, .int .i64 (i : Int)), (7, .int .i64 1), (9, .slice (some ⟨g2, 0, none⟩) (i + (xs.length + 1 - i)) cap2), (43, .slice (some ⟨g2, i * 36, none⟩) (i + (xs.length + 1 - i) - i) (cap2 - i)), (44, .slice (some ⟨gv, 0, none⟩) 1 1)] (by kernel_rfl) fun a ha => ?_
    refine cpK (k := 36) (T := 38) (vs := cS_api_Join v) ha (by kernel_rfl) (by kernel_rfl) rfl rfl rfl rfl rfl hB2 (by rw [lenJ, show i + (xs.length + 1 - i) - i = xs.length + 1 - i by omega, show Nat.min 1 (xs.length + 1 - i) = 1 from Nat.min_eq_left (by omega)]) (hsv w2 hv) (by rw [lenJ, hl2]; omega) o1 fun a w3 hB3 hc3 ha => ?_
    have hB := hB.chg hc3 (by simp [Ne.symm hg2])
    refine wpl_end ?_
    have ha := ha.sel (env' := [(0, .slice (some ⟨g, 0, none⟩) xs.length cap), (1, .int .i64 (i : Int)), (7, .int .i64 1), (9, .slice (some ⟨g2, 0, none⟩) (i + (xs.length + 1 - i)) cap2)]) (by kernel_rfl)
    refine hK2 _ _ ?_; clear hK2 K2
    generalize hcs3 : ((xs.take i).flatMap cS_api_Join ++ j2).take (i * 36) ++ cS_api_Join v ++ ((xs.take i).flatMap cS_api_Join ++ j2).drop (i * 36 + (cS_api_Join v).length) = cs3 at hB3
    have hcs3' : cs3 = (xs.take i ++ [v]).flatMap cS_api_Join ++ j2.drop 36 := by
      rw [← hcs3, List.take_left' htl, lenJ, ← List.drop_drop, List.drop_left' htl, List.flatMap_append, List.flatMap_singleton]
    have hl3 : cs3.length = cap2 * 36 := by
      rw [hcs3', List.length_append, flJ, List.length_append, List.length_take, List.length_drop, List.length_singleton, Nat.min_eq_left hi]
      rw [List.length_append, htl] at hl2
      omega
    refine wp_seq_k fun K2 hK2 => ?_
    refine drq 8 (fun w' => Chg [] w3 w') (by kernel_rfl) (by kernel_rfl) (fun _ h => h) ?_
    refine qp 0 (.slice (some ⟨g2, 0, none⟩) (i + (xs.length + 1 - i)) cap2) ha rfl rfl rfl (by kernel_rfl) fun a ha => ?_
    refine qp 0 (.int .i64 (i : Int)) ha rfl rfl rfl (by kernel_rfl) fun a ha => ?_
    refine qp 0 (.int .i64 1) ha rfl rfl rfl (by kernel_rfl) fun a ha => ?_
    refine qp 0 (.int .i64 (IntKind.i64.wrap ((i : Int) + 1))) ha rfl rfl rfl (by kernel_rfl) fun a ha => ?_
    rw [e3] at ha
    refine qv ha rfl rfl rfl (fun w' _ => slR_run (T := 38) (s := 36) (l := i + 1) (h := i + (xs.length + 1 - i)) (m := cap2) ha (by kernel_rfl) (by kernel_rfl) rfl (.inr ⟨_, _, rfl, rfl⟩) (.inl ⟨rfl, rfl, rfl⟩) (.inl ⟨rfl, rfl⟩) (by omega) (by omega) (Nat.le_refl _) w') fun a ha => ?_
    rw [if_neg (by omega), Addr.add_lit, Nat.zero_add] at ha
    refine qp 0 (.slice (some ⟨g, 0, none⟩) xs.length cap) ha rfl rfl rfl (by kernel_rfl) fun a ha => ?_
    refine qp 0 (.int .i64 (i : Int)) ha rfl rfl rfl (by kernel_rfl) fun a ha => ?_
    refine qv ha rfl rfl rfl (fun w' _ => slR_run (T := 38) (s := 36) (l := i) (h := xs.length) (m := cap) ha (by kernel_rfl) (by kernel_rfl) rfl (.inr ⟨_, _, rfl, rfl⟩) (.inl ⟨rfl, rfl, rfl⟩) (.inl ⟨rfl, rfl⟩) (by omega) (by omega) (Nat.le_refl _) w') fun a ha => ?_
    rw [if_neg (by omega), Addr.add_lit, Nat.zero_add] at ha
    refine wpQuiet_nil ?_
    intro w4 hc4
    have hB := hB.chg hc4 (fun h => nomatch h)
    have hB3 := hB3.chg hc4 (fun h => nomatch h)
    refine cpK (k := 36) (T := 38) (vs := (xs.drop i).flatMap cS_api_Join) ha (by kernel_rfl) (by kernel_rfl) rfl rfl rfl rfl rfl hB3 (by rw [hdl, show i + (xs.length + 1 - i) - (i + 1) = xs.length - i by omega, show Nat.min (xs.length - i) (xs.length - i) = xs.length - i from Nat.min_self _]) (hsd w4 hB) (by rw [hdl, hl3]; omega) (oneJ w _) fun a w5 hB5 hc5 ha => ?_
    refine wpl_end ?_
    have ha := ha.sel (env' := [(9, .slice (some ⟨g2, 0, none⟩) (i + (xs.length + 1 - i)) cap2)]) (by kernel_rfl)
    refine hK2 _ _ ?_; clear hK2 K2
    refine wp_seq_k fun K2 hK2 => ?_
    refine wp_region_lit ?_
    refine seg ha 2 [(6, .slice (some ⟨g2, 0, none⟩) (i + (xs.length + 1 - i)) cap2)] (by kernel_rfl) fun a ha => ?_
    refine hK2 _ _ ?_; clear hK2 K2
    refine wp_ret ?_
    simp only [Exit.then, Exit.inBlock]
    have hC : Chg (blkL (some (⟨g, 0, none⟩ : Addr))) w w5 := (((hc2.trans hc3 (Ok.one (.inr (by omega)))).trans hc4 (Ok.nil _ _)).trans hc5 (Ok.one (.inr (by omega)))).mono (Ok.nil _ _)
    refine rt1 ha rfl rfl ⟨some ⟨g2, 0, none⟩, cap2, by rw [show i + (xs.length + 1 - i) = xs.length + 1 by omega], ?_, hC, fun x hx => ?_⟩
    · refine Own.ofRaw fJ hB5 ?_ ?_ ?_ hcm2 (by simp [blkL])
      · rw [List.length_append, List.length_append, List.length_take, List.length_drop, hdl, hl3]
        show _ = cap2 * 36
        omega
      · have hq : ((i + 1) * 36) = (xs.take i ++ [v]).length * 36 := by simp [Nat.min_eq_left hi]
        rw [hcs3', hq, ← flJ, List.take_left, ← List.flatMap_append, List.append_assoc]
        exact List.take_left' (by rw [flJ]; rfl)
      · simp; omega
    · simp [blkL] at hx; subst hx; exact .inr (by omega)
  have hfit : xs.length + 1 ≤ cap := by
    have : ¬ ((xs.length + 1 : Nat) : Int) > (cap : Int) := of_decide_eq_false hc
    omega
  refine wp_skip ?_
  refine hK _ _ ?_; clear hK K
  refine wp_seq_k fun K hK => ?_
  refine wp_region_lit ?_
  refine seg ha 4 [(1, .int .i64 (i : Int)), (2, .slice (some ⟨gv, 0, none⟩) [v].length 1), (7, .int .i64 1), (56, .slice (some ⟨g, 0, none⟩) xs.length cap), (59, .int .i64 (IntKind.i64.wrap ((xs.length : Int) + 1)))] (by kernel_rfl) fun a ha => ?_
  rw [e1] at ha
  refine hop (w' := w) ha rfl rfl rfl (slR_run (T := 38) (s := 36) (l := 0) (h := xs.length + 1) (m := cap) ha (by kernel_rfl) (by kernel_rfl) rfl (.inl ⟨rfl, rfl⟩) (.inr ⟨_, _, rfl, rfl⟩) (.inl ⟨rfl, rfl⟩) (Nat.zero_le _) (by omega) (Nat.le_refl _) w) fun a ha => ?_
  rw [if_neg (by omega), Nat.zero_mul, Addr.add_lit, Nat.sub_zero, Nat.sub_zero] at ha
  refine seg ha 1 [(0, .slice (some ⟨g, 0, none⟩) (xs.length + 1) cap), (1, .int .i64 (i : Int)), (2, .slice (some ⟨gv, 0, none⟩) [v].length 1), (7, .int .i64 1)] (by kernel_rfl) fun a ha => ?_
  refine hK _ _ ?_; clear hK K
  refine wp_seq_k fun K hK => ?_
  refine wp_seq_k fun K2 hK2 => ?_
  refine wp_region_lit ?_
  refine seg ha 5 [(0, .slice (some ⟨g, 0, none⟩) (xs.length + 1) cap), (1, .int .i64 (i : Int)), (2, .slice (some ⟨gv, 0, none⟩) [v].length 1), (7, .int .i64 1), (61, .slice (some ⟨gv, 0, none⟩) 1 1), (62, .slice (some ⟨g, 0, none⟩) (xs.length + 1) cap), (65, .int .i64 (IntKind.i64.wrap ((i : Int) + 1)))] (by kernel_rfl) fun a ha => ?_
  rw [e3] at ha
  refine hop (w' := w) ha rfl rfl rfl (slR_run (T := 38) (s := 36) (l := i + 1) (h := xs.length + 1) (m := cap) ha (by kernel_rfl) (by kernel_rfl) rfl (.inr ⟨_, _, rfl, rfl⟩) (.inl ⟨rfl, rfl, rfl⟩) (.inl ⟨rfl, rfl⟩) (by omega) (by omega) (Nat.le_refl _) w) fun a ha => ?_
  rw [if_neg (by omega), Addr.add_lit, Nat.zero_add] at ha
  obtain ⟨Tv, hvb⟩ := id hv
  refine cx (fn := Tryz.f54) ha (vals := [.slice (some ⟨gv, 0, none⟩) 1 1, .slice (some ⟨g, (i + 1) * 36, none⟩) (xs.length + 1 - (i + 1)) (cap - (i + 1))]) (by rfl) (by rfl) (by rfl) (by rfl) (by rfl) (by rfl) (by rfl) (by rfl) (by rfl)
    (Go.Lib.run_overlaps_apart w 22 4 38 (by kernel_rfl) 36 (fun w => by kernel_rfl) ⟨gv, 0, none⟩ ⟨g, (i + 1) * 36, none⟩ 1 1 _ _ hgg Tv 38 (cS_api_Join v).length (xs.flatMap cS_api_Join ++ junk).length (by simp [World.shape?, hvb]) (by simp [World.shape?, show w.heap[g]? = _ from hB]) (by rw [hcl]; omega) (frozen_of_row w gv 0 _ _ hvb) (frozen_of_row w gv _ _ _ hvb)) fun a ha => ?_
  refine seg ha 1 [(0, .slice (some ⟨g, 0, none⟩) (xs.length + 1) cap), (1, .int .i64 (i : Int)), (2, .slice (some ⟨gv, 0, none⟩) [v].length 1), (7, .int .i64 1), (68, .bool true)] (by kernel_rfl) fun a ha => ?_
  refine hK2 _ _ ?_; clear hK2 K2
  refine cnd ha rfl (fun _ => ?_) (fun h => nomatch h)
  refine wp_seq_k fun K2 hK2 => ?_
  refine drq 8 (fun w' => Chg [] w w') (by kernel_rfl) (by kernel_rfl) (fun _ h => h) ?_
  refine qp 0 (.slice (some ⟨g, 0, none⟩) (xs.length + 1) cap) ha rfl rfl rfl (by kernel_rfl) fun a ha => ?_
  refine qp 0 (.int .i64 (i : Int)) ha rfl rfl rfl (by kernel_rfl) fun a ha => ?_
  refine qp 0 (.int .i64 1) ha rfl rfl rfl (by kernel_rfl) fun a ha => ?_
  refine qp 0 (.int .i64 (IntKind.i64.wrap ((i : Int) + 1))) ha rfl rfl rfl (by kernel_rfl) fun a ha => ?_
  rw [e3] at ha
  refine qv ha rfl rfl rfl (fun w' _ => slR_run (T := 38) (s := 36) (l := i + 1) (h := xs.length + 1) (m := cap) ha (by kernel_rfl) (by kernel_rfl) rfl (.inr ⟨_, _, rfl, rfl⟩) (.inl ⟨rfl, rfl, rfl⟩) (.inl ⟨rfl, rfl⟩) (by omega) (by omega) (Nat.le_refl _) w') fun a ha => ?_
  rw [if_neg (by omega), Addr.add_lit, Nat.zero_add] at ha
  refine qp 0 (.slice (some ⟨g, 0, none⟩) (xs.length + 1) cap) ha rfl rfl rfl (by kernel_rfl) fun a ha => ?_
  refine qp 0 (.int .i64 (i : Int)) ha rfl rfl rfl (by kernel_rfl) fun a ha => ?_
  refine qv ha rfl rfl rfl (fun w' _ => slR_run (T := 38) (s := 36) (l := i) (h := xs.length + 1) (m := cap) ha (by kernel_rfl) (by kernel_rfl) rfl (.inr ⟨_, _, rfl, rfl⟩) (.inl ⟨rfl, rfl, rfl⟩) (.inl ⟨rfl, rfl⟩) (by omega) (by omega) (Nat.le_refl _) w') fun a ha => ?_
  rw [if_neg (by omega), Addr.add_lit, Nat.zero_add] at ha
  refine wpQuiet_nil ?_
  intro w4 hc4
  have hB := hB.chg hc4 (fun h => nomatch h)
  have hv := hv.chg hc4 (fun h => nomatch h)
  refine cpK (k := 36) (T := 38) (vs := (xs.drop i).flatMap cS_api_Join) ha (by kernel_rfl) (by kernel_rfl) rfl rfl rfl rfl rfl hB (by rw [hdl, show xs.length + 1 - (i + 1) = xs.length - i by omega, show Nat.min (xs.length + 1 - i) (xs.length - i) = xs.length - i from Nat.min_eq_right (by omega)]) (hsd w4 hB) (by rw [hdl, hcl]; omega) (oneJ w _) fun a w5 hB5 hc5 ha => ?_
  have hv := hv.chg hc5 (by simp [hgg])
  refine wpl_end ?_
  have ha := ha.sel (env' := [(0, .slice (some ⟨g, 0, none⟩) (xs.length + 1) cap), (1, .int .i64 (i : Int)), (2, .slice (some ⟨gv, 0, none⟩) [v].length 1)]) (by kernel_rfl)
  refine hK2 _ _ ?_; clear hK2 K2
  generalize hcs5 : (xs.flatMap cS_api_Join ++ junk).take ((i + 1) * 36) ++ (xs.drop i).flatMap cS_api_Join ++ (xs.flatMap cS_api_Join ++ junk).drop ((i + 1) * 36 + ((xs.drop i).flatMap cS_api_Join).length) = cs5 at hB5
  have hl5 : cs5.length = cap * 36 := by
    rw [← hcs5, List.length_append, List.length_append, List.length_take, List.length_drop, hdl, hcl]; omega
  obtain ⟨R5, hcs5'⟩ : ∃ R5, cs5 = (xs.take (i + 1) ++ xs.drop i).flatMap cS_api_Join ++ R5 := ⟨_, by rw [← hcs5, tkJ xs junk (i + 1) (by omega), List.flatMap_append]⟩
  refine wp_seq_k fun K2 hK2 => ?_
  refine wp_region_lit ?_
  refine seg ha 2 [(0, .slice (some ⟨g, 0, none⟩) (xs.length + 1) cap), (2, .slice (some ⟨gv, 0, none⟩) [v].length 1), (78, .slice (some ⟨g, 0, none⟩) (xs.length + 1) cap), (79, .int .i64 (i : Int))] (by kernel_rfl) fun a ha => ?_
  refine hop (w' := w5) ha rfl rfl rfl (slR_run (T := 38) (s := 36) (l := i) (h := xs.length + 1) (m := cap) ha (by kernel_rfl) (by kernel_rfl) rfl (.inr ⟨_, _, rfl, rfl⟩) (.inl ⟨rfl, rfl, rfl⟩) (.inl ⟨rfl, rfl⟩) (by omega) (by omega) (Nat.le_refl _) w5) fun a ha => ?_
  rw [if_neg (by omega), Addr.add_lit, Nat.zero_add] at ha
  refine seg ha 1 [(0, .slice (some ⟨g, 0, none⟩) (xs.length + 1) cap), (80, .slice (some ⟨g, i * 36, none⟩) (xs.length + 1 - i) (cap - i)), (81, .slice (some ⟨gv, 0, none⟩) 1 1)] (by kernel_rfl) fun a ha => ?_
  refine cpK (k := 36) (T := 38) (vs := cS_api_Join v) ha (by kernel_rfl) (by kernel_rfl) rfl rfl rfl rfl rfl hB5 (by rw [lenJ, show Nat.min 1 (xs.length + 1 - i) = 1 from Nat.min_eq_left (by omega)]) (hsv w5 hv) (by rw [lenJ, hl5]; omega) o1 fun a w6 hB6 hc6 ha => ?_
  refine wpl_end ?_
  have ha := ha.sel (env' := [(0, .slice (some ⟨g, 0, none⟩) (xs.length + 1) cap)]) (by kernel_rfl)
  refine hK2 _ _ ?_; clear hK2 K2
  refine wp_seq_k fun K2 hK2 => ?_
  refine wp_region_lit ?_
  refine seg ha 2 [(6, .slice (some ⟨g, 0, none⟩) (xs.length + 1) cap)] (by kernel_rfl) fun a ha => ?_
  refine hK2 _ _ ?_; clear hK2 K2
  refine wp_ret ?_
  simp only [Exit.then, Exit.inBlock]
  have hC : Chg (blkL (some (⟨g, 0, none⟩ : Addr))) w w6 := ((hc4.mono (gs' := [g]) (Ok.nil _ _)).trans hc5 (Ok.refl _ _)).trans hc6 (Ok.refl _ _)
  refine rt1 ha rfl rfl ⟨some ⟨g, 0, none⟩, cap, rfl, ?_, hC, Ok.refl _ _⟩
  refine Own.ofRaw fJ hB6 ?_ ?_ ?_ hcm (by simp [blkL])
  · rw [List.length_append, List.length_append, List.length_take, List.length_drop, lenJ, hl5]
    show _ = cap * 36
    omega
  · have e9 : xs.take (i + 1) ++ xs.drop i = xs.take i ++ ([xs[i]] ++ xs.drop i) := by
      rw [← List.append_assoc, List.take_append_getElem hil]
    have e10 : cs5.take (i * 36) = (xs.take i).flatMap cS_api_Join := by
      rw [hcs5', e9, List.flatMap_append, List.append_assoc, List.take_left' htl]
    have e11 : cs5.drop (i * 36 + 36) = (xs.drop i).flatMap cS_api_Join ++ R5 := by
      have e13 : xs.take (i + 1) ++ xs.drop i = (xs.take i ++ [xs[i]]) ++ xs.drop i := by rw [List.take_append_getElem hil]
      rw [hcs5', e13, List.flatMap_append (xs := xs.take i ++ [xs[i]]), List.append_assoc, List.drop_left' (by rw [flJ, List.length_append, List.length_take, Nat.min_eq_left hi, List.length_singleton]; omega)]
    rw [lenJ, e10, e11]
    have e12 : (xs.take i).flatMap cS_api_Join ++ cS_api_Join v ++ ((xs.drop i).flatMap cS_api_Join ++ R5) = (xs.take i ++ ([v] ++ xs.drop i)).flatMap cS_api_Join ++ R5 := by
      simp only [List.flatMap_append, List.flatMap_singleton, List.append_assoc]
    rw [e12]
    exact List.take_left' (by rw [flJ]; rfl)
  · simp; omega
def zJ : S_api_Join := ⟨[], [], ⟨0, []⟩, ⟨0, []⟩⟩
set_option maxRecDepth 100000 in
theorem delete_walk (w : World) (g cap : Nat) (xs : List S_api_Join) (hO : Own rS_api_Join 38 w [g] (some ⟨g, 0, none⟩) cap xs) (i : Nat) (hi : i < xs.length) (hn : xs.length ≤ 1000) :
    To Tryz.prog 39 [.slice (some ⟨g, 0, none⟩) xs.length cap, .int .i64 (i : Int), .int .i64 ((i + 1 : Nat) : Int)] w fun r w' => r = .slice (some ⟨g, 0, none⟩) (xs.take i ++ xs.drop (i + 1)).length cap ∧ Own rS_api_Join 38 w' [g] (some ⟨g, 0, none⟩) cap (xs.take i ++ xs.drop (i + 1)) ∧ Chg [g] w w' := by
  have hmax : maxLen = 9223372036854775807 := rfl
  obtain ⟨junk, hB, hcl, hnc, hcm, _⟩ := Own.raw fJ hO
  have hcl : (xs.flatMap cS_api_Join ++ junk).length = cap * 36 := hcl
  have hdl : ((xs.drop (i + 1)).flatMap cS_api_Join).length = (xs.length - (i + 1)) * 36 := by rw [flJ, List.length_drop]
  have hrl : (xs.take i ++ xs.drop (i + 1)).length = i + (xs.length - (i + 1)) := by rw [List.length_append, List.length_take, List.length_drop]; omega
  refine ent Tryz.func39 rfl [(0, .slice (some ⟨g, 0, none⟩) xs.length cap), (1, .int .i64 (i : Int)), (2, .int .i64 ((i + 1 : Nat) : Int))] rfl (by rfl) fun a ha => ?_
  refine wp_seq_k fun K hK => ?_
  refine wp_region_lit ?_
  refine seg ha 1 [(0, .slice (some ⟨g, 0, none⟩) xs.length cap), (1, .int .i64 (i : Int)), (2, .int .i64 ((i + 1 : Nat) : Int))] (by kernel_rfl) fun a ha => ?_
  refine hK _ _ ?_; clear hK K
  refine wp_seq_k fun K hK => ?_
  refine wp_region_lit ?_
  refine seg ha 5 [(0, .slice (some ⟨g, 0, none⟩) xs.length cap), (1, .int .i64 (i : Int)), (2, .int .i64 ((i + 1 : Nat) : Int)), (8, .slice (some ⟨g, 0, none⟩) xs.length cap), (9, .int .i64 (i : Int)), (10, .int .i64 ((i + 1 : Nat) : Int)), (12, .int .i64 (xs.length : Int))] (by kernel_rfl) fun a ha => ?_
  refine hop (w' := w) ha rfl rfl rfl (slR_run (T := 38) (s := 36) (l := i) (h := i + 1) (m := xs.length) ha (by kernel_rfl) (by kernel_rfl) rfl (.inr ⟨_, _, rfl, rfl⟩) (.inr ⟨_, _, rfl, rfl⟩) (.inr ⟨_, _, rfl, rfl⟩) (by omega) (by omega) hnc w) fun a ha => ?_
  refine wpl_end ?_
  have ha := ha.sel (env' := [(0, .slice (some ⟨g, 0, none⟩) xs.length cap), (1, .int .i64 (i : Int)), (2, .int .i64 ((i + 1 : Nat) : Int))]) (by kernel_rfl)
  refine hK _ _ ?_; clear hK K
  refine wp_seq_k fun K hK => ?_
  refine wp_seq_k fun K2 hK2 => ?_
  refine wp_region_lit ?_
  refine seg ha 3 [(0, .slice (some ⟨g, 0, none⟩) xs.length cap), (1, .int .i64 (i : Int)), (2, .int .i64 ((i + 1 : Nat) : Int)), (16, .bool ((i : Int) == ((i + 1 : Nat) : Int)))] (by kernel_rfl) fun a ha => ?_
  refine hK2 _ _ ?_; clear hK2 K2
  refine cnd ha rfl (fun hc => absurd (eq_of_beq hc) (by omega)) (fun _ => ?_)
  refine wp_skip ?_
  refine hK _ _ ?_; clear hK K
  refine wp_seq_k fun K hK => ?_
  refine wp_region_lit ?_
  refine seg ha 3 [(0, .slice (some ⟨g, 0, none⟩) xs.length cap), (1, .int .i64 (i : Int)), (2, .int .i64 ((i + 1 : Nat) : Int)), (7, .int .i64 (xs.length : Int))] (by kernel_rfl) fun a ha => ?_
  refine hK _ _ ?_; clear hK K
  refine wp_seq_k fun K hK => ?_
  refine drq 6 (fun w' => Chg [] w w') (by kernel_rfl) (by kernel_rfl) (fun _ h => h) ?_
  refine qp 0 (.slice (some ⟨g, 0, none⟩) xs.length cap) ha rfl rfl rfl (by kernel_rfl) fun a ha => ?_
  refine qp 0 (.int .i64 (i : Int)) ha rfl rfl rfl (by kernel_rfl) fun a ha => ?_
  refine qv ha rfl rfl rfl (fun w' _ => slR_run (T := 38) (s := 36) (l := 0) (h := i) (m := cap) ha (by kernel_rfl) (by kernel_rfl) rfl (.inl ⟨rfl, rfl⟩) (.inr ⟨_, _, rfl, rfl⟩) (.inl ⟨rfl, rfl⟩) (Nat.zero_le _) (by omega) (Nat.le_refl _) w') fun a ha => ?_
  rw [if_neg (by omega), Nat.zero_mul, Addr.add_lit, Nat.sub_zero, Nat.sub_zero] at ha
  refine qp 0 (.slice (some ⟨g, 0, none⟩) xs.length cap) ha rfl rfl rfl (by kernel_rfl) fun a ha => ?_
  refine qp 0 (.int .i64 ((i + 1 : Nat) : Int)) ha rfl rfl rfl (by kernel_rfl) fun a ha => ?_
  refine qv ha rfl rfl rfl (fun w' _ => slR_run (T := 38) (s := 36) (l := i + 1) (h := xs.length) (m := cap) ha (by kernel_rfl) (by kernel_rfl) rfl (.inr ⟨_, _, rfl, rfl⟩) (.inl ⟨rfl, rfl, rfl⟩) (.inl ⟨rfl, rfl⟩) (by omega) hnc (Nat.le_refl _) w') fun a ha => ?_
  refine wpQuiet_nil ?_
  intro w4 hc4
  have hB := hB.chg hc4 (fun h => nomatch h)
  obtain ⟨ad, ead, hsrc⟩ : ∃ ad : Addr, (if cap = i + 1 then some ⟨g, 0, none⟩ else some ((⟨g, 0, none⟩ : Addr).add ((i + 1) * 36))) = some ad ∧ ∀ j u, ((xs.drop (i + 1)).flatMap cS_api_Join)[j]? = some u → w4.cell? (ad.add j) = some u := by
    by_cases he : cap = i + 1
    · refine ⟨⟨g, 0, none⟩, by rw [if_pos he], fun j u hj => ?_⟩
      have : (xs.drop (i + 1)) = [] := List.drop_eq_nil_of_le (by omega)
      rw [this] at hj; simp at hj
    · refine ⟨⟨g, (i + 1) * 36, none⟩, by rw [if_neg he, Addr.add_lit, Nat.zero_add], hB.sub (m := (xs.length - (i + 1)) * 36) (by rw [dpJ xs junk (i + 1) (by omega), ← hdl, List.take_left])⟩
  rw [ead] at ha
  refine apR (k := 36) (vs := (xs.drop (i + 1)).flatMap cS_api_Join) ha (by kernel_rfl) (by kernel_rfl) rfl rfl rfl rfl rfl hB hdl hsrc (oneJ w _) (by omega) (by rw [hdl, hcl]; omega) fun a w5 hB5 hc5 ha => ?_
  refine seg ha 1 [(0, .slice (some ⟨g, 0, none⟩) (i + (xs.length - (i + 1))) cap), (7, .int .i64 (xs.length : Int))] (by kernel_rfl) fun a ha => ?_
  refine hK _ _ ?_; clear hK K
  generalize hcs5 : (xs.flatMap cS_api_Join ++ junk).take (i * 36) ++ (xs.drop (i + 1)).flatMap cS_api_Join ++ (xs.flatMap cS_api_Join ++ junk).drop (i * 36 + ((xs.drop (i + 1)).flatMap cS_api_Join).length) = cs5 at hB5
  have hl5 : cs5.length = cap * 36 := by
    rw [← hcs5, List.length_append, List.length_append, List.length_take, List.length_drop, hdl, hcl]; omega
  obtain ⟨R5, hcs5'⟩ : ∃ R5, cs5 = (xs.take i ++ xs.drop (i + 1)).flatMap cS_api_Join ++ R5 := ⟨_, by rw [← hcs5, tkJ xs junk i (by omega), List.flatMap_append]⟩
  refine wp_seq_k fun K hK => ?_
  refine wp_region_lit ?_
  refine seg ha 4 [(0, .slice (some ⟨g, 0, none⟩) (i + (xs.length - (i + 1))) cap), (27, .slice (some ⟨g, 0, none⟩) (i + (xs.length - (i + 1))) cap), (29, .int .i64 ((i + (xs.length - (i + 1)) : Nat) : Int)), (30, .int .i64 (xs.length : Int))] (by kernel_rfl) fun a ha => ?_
  refine hop (w' := w5) ha rfl rfl rfl (slR_run (T := 38) (s := 36) (l := i + (xs.length - (i + 1))) (h := xs.length) (m := cap) ha (by kernel_rfl) (by kernel_rfl) rfl (.inr ⟨_, _, rfl, rfl⟩) (.inr ⟨_, _, rfl, rfl⟩) (.inl ⟨rfl, rfl⟩) (by omega) hnc (Nat.le_refl _) w5) fun a ha => ?_
  rw [if_neg (by omega), Addr.add_lit, Nat.zero_add] at ha
  refine clr (e := 38) (s := 36) (z := .agg (cS_api_Join zJ).toArray) ha (by kernel_rfl) rfl (fun w => by kernel_rfl) (by show (cS_api_Join zJ).toArray.size = 36; simp [lenJ]) (zone _ (by show 0 < (cS_api_Join zJ).toArray.size; simp [lenJ]) (fun v hv => oneJ w [zJ] v (by rw [List.flatMap_singleton]; have hv : v ∈ (cS_api_Join zJ).toArray := hv; simpa using hv)) _) rfl hB5 (by
    rw [zlen, show (Value.agg (cS_api_Join zJ).toArray).cells.size = 36 from by show (cS_api_Join zJ).toArray.size = 36; simp [lenJ], hl5]; omega) fun a w6 cs6 ha hB6 htk6 hl6 hc6 => ?_
  refine wpl_end ?_
  have ha := ha.sel (env' := [(0, .slice (some ⟨g, 0, none⟩) (i + (xs.length - (i + 1))) cap)]) (by kernel_rfl)
  refine hK _ _ ?_; clear hK K
  refine wp_seq_k fun K hK => ?_
  refine wp_region_lit ?_
  refine seg ha 2 [(6, .slice (some ⟨g, 0, none⟩) (i + (xs.length - (i + 1))) cap)] (by kernel_rfl) fun a ha => ?_
  refine hK _ _ ?_; clear hK K
  refine wp_ret ?_
  have hC : Chg [g] w w6 := ((hc4.mono (gs' := [g]) (Ok.nil _ _)).trans hc5 (Ok.refl _ _)).trans hc6 (Ok.refl _ _)
  refine rt1 ha rfl rfl ⟨by rw [hrl], ?_, hC⟩
  refine Own.ofRaw fJ hB6 (by rw [hl6, hl5]; rfl) ?_ (by rw [hrl]; omega) hcm (by simp)
  show cs6.take ((xs.take i ++ xs.drop (i + 1)).length * 36) = _
  rw [hrl, htk6, hcs5', ← hrl]
  exact List.take_left' (flJ _)
def slices_CloneJ.f (a0 : List S_api_Join) : Option (List S_api_Join) := if a0.length * 80 ≤ 140737488355328 then some a0 else none
theorem slices_CloneJ.walk (w : World) (M : List Nat) (hM : MS M w) (a0 : List S_api_Join) (ao1 : Option Addr) (cap1 : Nat) (f1 : RSl rS_api_Join 38 w M ao1 cap1 a0) (r : List S_api_Join) (H : slices_CloneJ.f a0 = some r) :
    To Tryz.prog 40 [.slice ao1 a0.length cap1] w fun v w' => ∃ (ao2 : Option Addr) (cap2 : Nat), v = .slice ao2 r.length cap2 ∧ (Own rS_api_Join 38 w' (blkL ao2 ++ M) ao2 cap2 r) ∧ (∀ x ∈ blkL ao2, w.heap.size ≤ x) ∧ Chg [] w w' ∧ MS (blkL ao2 ++ M) w' := by
  unfold slices_CloneJ.f at H
  obtain ⟨hb, H⟩ := ite_some H
  obtain rfl := Option.some.inj H
  refine ent Tryz.func40 rfl [(0, .slice ao1 a0.length cap1)] rfl rfl fun a ha => ?_
  refine wp_seq_k fun K hK => ?_
  refine wp_region_lit ?_
  refine seg ha 1 [(0, .slice ao1 a0.length cap1)] (by kernel_rfl) fun a ha => ?_
  refine hK _ _ ?_; clear hK K
  refine wp_seq_k fun K hK => ?_
  refine wp_seq_k fun K2 hK2 => ?_
  refine wp_region_lit ?_
  refine seg ha 2 [(0, .slice ao1 a0.length cap1), (4, .bool ao1.isNone)] (by kernel_rfl) fun a ha => ?_
  refine hK2 _ _ ?_; clear hK2 K2
  refine cnd ha rfl (fun hc => ?_) (fun hc => ?_)
  · refine wp_seq_k fun K2 hK2 => ?_
    refine wp_region_lit ?_
    refine seg ha 1 [(2, .slice none 0 0)] (by kernel_rfl) fun a ha => ?_
    refine hK2 _ _ ?_; clear hK2 K2
    refine wp_ret ?_
    have hx : a0 = [] := by
      rcases f1 with ⟨_, _, h | ⟨g, o, cur, fr, e, _⟩⟩
      · exact h
      · subst e; simp at hc
    simp only [Exit.then]
    refine rt1 ha rfl rfl ?_
    exact ⟨none, 0, by rw [hx]; rfl, by rw [hx]; exact Own.nil, (fun _ h => nomatch h), Chg.refl _ _, hM⟩
  · refine wp_skip ?_
    refine hK _ _ ?_; clear hK K
    refine wp_seq_k fun K hK => ?_
    refine wp_region_lit ?_
    refine bsl (vals := []) (T := 38) ha rfl [] (fun w => by kernel_rfl) rfl rfl rfl fun a w1 g hN ha => ?_
    refine seg ha 1 [(0, .slice ao1 a0.length cap1), (5, .slice (some ⟨g, 0, none⟩) 0 0), (6, .slice ao1 a0.length cap1)] (by kernel_rfl) fun a ha => ?_
    have hO : Own rS_api_Join 38 w1 ([g] ++ M) (some ⟨g, 0, none⟩) 0 [] := hN.own rfl (Nat.zero_le _)
    have h1 : RSl rS_api_Join 38 w1 ([g] ++ M) ao1 cap1 a0 := f1.chg hN.chg (Ok.nil _ _) (Ok.app (hN.ok _) (Ok.refl _ _))
    refine app (r := rS_api_Join) (xs := []) ha (ElemT.mk' (bytes := 80) (by kernel_rfl)) rfl rfl rfl rfl rfl hO h1.src (by simpa using hb) (by decide) fun a w2 ao2 cap2 hO2 hc2 hok hlt ha => ?_
    refine seg ha 1 [(2, .slice ao2 ([] ++ a0).length cap2)] (by kernel_rfl) fun a ha => ?_
    refine hK _ _ ?_; clear hK K
    refine wp_ret ?_
    refine rt1 ha rfl rfl ⟨ao2, cap2, rfl, ?_, ?_, ?_, ?_⟩
    · exact hO2.chg (Chg.refl [] _) (Ok.nil _ _) (Ok.app (fun g hg => .inl (ml hg)) (fun g hg => .inl (mr (mr hg)))) (fun _ _ hh => nomatch hh) (fun g hg => ml hg)
    · intro x hx
      rcases hok x hx with h | h
      · simp [blkL] at h; subst h; exact hN.ge
      · exact Nat.le_trans hN.chg.size h
    · exact hN.chg.trans hc2 (Ok.one (.inr hN.ge))
    · exact MS.app hlt ((hM.chg hN.chg).chg hc2)
theorem rl_J {w w' : World} {M M' : List Nat} {cs : List Value} {xs : List S_api_Join} (h : RL rS_api_Join w M cs xs) : RL rS_api_Join w' M' cs xs := (RL.flat fJ).2 ((RL.flat fJ).1 h)
theorem own_J {w w' : World} {M M' gs : List Nat} {ao : Option Addr} {cap : Nat} {xs : List S_api_Join} (h : Own rS_api_Join 38 w M ao cap xs) (hc : Chg gs w w') (hn : ∀ y ∈ blkL ao, y ∉ gs) (hm : ∀ y ∈ blkL ao, y ∈ M') : Own rS_api_Join 38 w' M' ao cap xs := by
  rcases h with h | ⟨g, cur, rfl, hg, hb, h1, h2, h3, hl⟩
  · exact .inl h
  · exact .inr ⟨g, cur, rfl, hm g (by simp [blkL]), hc.at hb (hn g (by simp [blkL])), h1, h2, h3, rl_J hl⟩
def JAt (w : World) (g : Nat) (ao : Option Addr) (x : S_joins_Joins) : Prop :=
  ∃ cap, g ∉ blkL ao ∧ Box w g (cS_joins_Joins x ao cap) ∧ Own rS_api_Join 38 w (blkL ao) ao cap x.all
theorem JAt.chg {w w' : World} {g : Nat} {ao : Option Addr} {x : S_joins_Joins} {gs : List Nat} (h : JAt w g ao x) (hc : Chg gs w w') (hn : ∀ y ∈ [g] ++ blkL ao, y ∉ gs) : JAt w' g ao x := by
  obtain ⟨cap, h1, h2, h3⟩ := h
  exact ⟨cap, h1, h2.chg hc (hn g (by simp)), own_J h3 hc (fun y hy => hn y (mr hy)) (fun _ h => h)⟩
theorem JAt.rsl {w : World} {g : Nat} {ao : Option Addr} {x : S_joins_Joins} {cap : Nat} (h1 : g ∉ blkL ao) (h3 : Own rS_api_Join 38 w (blkL ao) ao cap x.all) : RSl rS_api_Join 38 w [g] ao cap x.all :=
  (own_J (M' := [g] ++ blkL ao) h3 (Chg.refl [] w) (fun _ _ h => nomatch h) (fun _ h => mr h)).toRSl (fun y hy => .inl (ml hy)) (fun y hy hg => h1 (by simp at hg; rw [← hg]; exact hy))
def Jn_New.f : Option S_joins_Joins := some ⟨[]⟩
theorem Jn_New.walk (w : World) (M : List Nat) (hM : MS M w) (r : S_joins_Joins) (H : Jn_New.f = some r) :
    To Tryz.prog 17 [] w fun v w' => ∃ g, v = .pointer (some ⟨g, 0, none⟩) ∧ JAt w' g none r ∧ (∀ y ∈ [g] ++ blkL none, w.heap.size ≤ y) ∧ Chg [] w w' ∧ MS (([g] ++ blkL none) ++ M) w' := by
  obtain rfl := Option.some.inj H
  refine ent Tryz.func17 rfl [] rfl (by rfl) fun a ha => ?_
  refine wp_seq_k fun K hK => ?_
  refine wp_region_lit ?_
  refine seg ha 1 [] (by kernel_rfl) fun a ha => ?_
  refine hK _ _ ?_; clear hK K
  refine wp_seq_k fun K hK => ?_
  refine wp_region_lit ?_
  refine opk (v := .agg (cS_joins_Joins ⟨[]⟩ none 0).toArray) ha rfl rfl rfl rfl rfl (fun w => by kernel_rfl) fun a ha => ?_
  refine bx (cs := cS_joins_Joins ⟨[]⟩ none 0) ha rfl rfl rfl rfl rfl fun a w3 g N3 ha => ?_
  refine seg ha 1 [(0, .pointer (some ⟨g, 0, none⟩))] (by kernel_rfl) fun a ha => ?_
  refine hK _ _ ?_; clear hK K
  refine wp_ret ?_
  exact rt1 ha rfl rfl ⟨g, rfl, ⟨0, (fun h => nomatch h), N3.box, Own.nil⟩, N3.ge1, N3.chg, MS.app N3.ms (hM.chg N3.chg)⟩
abbrev Jn_All.f (x : S_joins_Joins) : Option (List S_api_Join) := slices_CloneJ.f x.all
theorem Jn_All.walk (w : World) (M : List Nat) (hM : MS M w) (g : Nat) (ao : Option Addr) (x : S_joins_Joins) (f : JAt w g ao x) (hL : ∀ y ∈ [g] ++ blkL ao, y ∈ M) (r : List S_api_Join) (H : Jn_All.f x = some r) :
    To Tryz.prog 20 [.pointer (some ⟨g, 0, none⟩)] w fun v w' => ∃ (ao2 : Option Addr) (cap2 : Nat), v = .slice ao2 r.length cap2 ∧ Own rS_api_Join 38 w' (blkL ao2 ++ M) ao2 cap2 r ∧ (∀ x ∈ blkL ao2, w.heap.size ≤ x) ∧ Chg [] w w' ∧ MS (blkL ao2 ++ M) w' := by
  obtain ⟨cap, h1, h2, h3⟩ := f
  refine ent Tryz.func20 rfl [(0, .pointer (some ⟨g, 0, none⟩))] rfl (by rfl) fun a ha => ?_
  refine wp_seq_k fun K hK => ?_
  refine wp_region_lit ?_
  refine seg ha 1 [(0, .pointer (some ⟨g, 0, none⟩))] (by kernel_rfl) fun a ha => ?_
  refine hK _ _ ?_; clear hK K
  refine wp_seq_k fun K hK => ?_
  refine wp_region_lit ?_
  refine seg ha 3 [(5, .pointer (some ⟨g, 0, none⟩))] (by kernel_rfl) fun a ha => ?_
  refine ld (v := .slice ao x.all.length cap) ha rfl (by kernel_rfl) rfl rfl rfl (h2.cell' (o := 0) rfl rfl) fun a ha => ?_
  have hr : RSl rS_api_Join 38 w [] ao cap x.all := h3.toRSl (Ok.nil _ _) (fun _ _ h => nomatch h)
  refine cl ha (by rfl) (by kernel_rfl) (by rfl) (by rfl) (by rfl) (slices_CloneJ.walk w [] (MS.nil _) x.all ao cap hr r H) ?_
  rintro _ w1 ⟨ao2, cap2, rfl, f2, ne2, c1, hMn⟩ a ha
  refine seg ha 1 [(2, .slice ao2 r.length cap2)] (by kernel_rfl) fun a ha => ?_
  refine hK _ _ ?_; clear hK K
  refine wp_ret ?_
  exact rt1 ha rfl rfl ⟨ao2, cap2, rfl, own_J f2 (Chg.refl [] _) (fun _ _ h => nomatch h) (fun _ h => ml h), ne2, c1, MS.app (fun y hy => hMn y (ml hy)) (hM.chg c1)⟩
def Jn_Add.f (k : Nat) (x : S_joins_Joins) (j : S_api_Join) : Option (Int × S_joins_Joins) :=
  (joins_Right.f k j).bind fun ok => if ok = true then ((joins_Joins_place.f k x j).bind fun p => if p.2 = true then some (0, x) else if decide ((x.all.length : Int) ≥ (32 : Int)) = true then some (6, x) else if 0 ≤ p.1 ∧ p.1 ≤ (x.all.length : Int) then some (0, ⟨x.all.take p.1.toNat ++ ([j] ++ x.all.drop p.1.toNat)⟩) else none) else some (1, x)
set_option maxRecDepth 100000 in
theorem Jn_Add.walk (w : World) (M : List Nat) (hM : MS M w) (g : Nat) (ao : Option Addr) (x : S_joins_Joins) (f : JAt w g ao x) (hL : ∀ y ∈ [g] ++ blkL ao, y ∈ M) (j : S_api_Join) (k : Nat) (r : Int × S_joins_Joins) (H : Jn_Add.f k x j = some r) :
    To Tryz.prog 18 [.pointer (some ⟨g, 0, none⟩), .agg (cS_api_Join j).toArray] w fun v w' => ∃ ao2, v = .int .i64 r.1 ∧ JAt w' g ao2 r.2 ∧ Chg ([g] ++ blkL ao) w w' ∧ Ok ([g] ++ blkL ao2) ([g] ++ blkL ao) w.heap.size ∧ MS (([g] ++ blkL ao2) ++ M) w' := by
  unfold Jn_Add.f at H
  obtain ⟨ok, Hok, H⟩ := bind_some H
  obtain ⟨cap, h1, h2, h3⟩ := f
  have hgM : g ∈ M := hL g (by simp)
  refine ent Tryz.func18 rfl [(0, .pointer (some ⟨g, 0, none⟩)), (1, .agg (cS_api_Join j).toArray)] rfl (by rfl) fun a ha => ?_
  refine wp_seq_k fun K hK => ?_
  refine wp_region_lit ?_
  refine bx (cs := cS_api_Join j) ha rfl rfl rfl rfl rfl fun a w1 gj N1 ha => ?_
  have c1 := N1.chg
  have hj : Box w1 gj (cS_api_Join j) := N1.box
  have hgj : gj ≠ g := by have := h2.lt; have := N1.ge; omega
  have hjo : gj ∉ blkL ao := fun h => by have := h3.lt gj h; have := N1.ge; omega
  have h2 := h2.chg c1 (fun h => nomatch h)
  have h3 := own_J (M' := blkL ao) h3 c1 (fun _ _ h => nomatch h) (fun _ h => h)
  have hM := hM.chg c1
  refine seg ha 1 [(0, .pointer (some ⟨g, 0, none⟩)), (3, .pointer (some ⟨gj, 0, none⟩))] (by kernel_rfl) fun a ha => ?_
  refine hK _ _ ?_; clear hK K
  refine wp_seq_k fun K hK => ?_
  refine wp_seq_k fun K2 hK2 => ?_
  refine wp_region_lit ?_
  refine ldA (cs := cS_api_Join j) ha rfl (by kernel_rfl) rfl rfl rfl (cells_sub (Box.cells hj) (all := cS_api_Join j) [] [] (by simp)) fun a ha => ?_
  refine cl ha (by rfl) (by kernel_rfl) (by rfl) (by rfl) (by rfl) (joins_Right.walk w1 M hM j k ok Hok) ?_
  rintro _ w2 ⟨rfl, c2, hM2⟩ a ha
  have h2 := h2.chg c2 (fun h => nomatch h)
  have h3 := own_J (M' := blkL ao) h3 c2 (fun _ _ h => nomatch h) (fun _ h => h)
  have hj := hj.chg c2 (fun h => nomatch h)
  have hM := hM2
  have C2 : Chg [] w w2 := c1.trans c2 (Ok.nil _ _)
  refine seg ha 1 [(0, .pointer (some ⟨g, 0, none⟩)), (3, .pointer (some ⟨gj, 0, none⟩)), (9, .bool (!ok))] (by kernel_rfl) fun a ha => ?_
  refine hK2 _ _ ?_; clear hK2 K2
  cases ok with
  | false =>
    have H := Option.some.inj H
    refine cnd ha rfl (fun _ => ?_) (fun h => nomatch h)
    refine wp_seq_k fun K2 hK2 => ?_
    refine wp_region_lit ?_
    refine seg ha 1 [(4, .int .i64 1)] (by kernel_rfl) fun a ha => ?_
    refine hK2 _ _ ?_; clear hK2 K2
    refine wp_ret ?_
    simp only [Exit.then, Exit.inBlock]
    subst H
    exact rt1 ha rfl rfl ⟨ao, rfl, ⟨cap, h1, h2, h3⟩, C2.mono (Ok.nil _ _), Ok.refl _ _, fun y hy => (List.mem_append.1 hy).elim (fun h => hM y (hL y h)) (hM y)⟩
  | true =>
  refine cnd ha rfl (fun h => nomatch h) (fun _ => ?_)
  simp only [if_true] at H
  obtain ⟨p, Hp, H⟩ := bind_some H
  refine wp_skip ?_
  refine hK _ _ ?_; clear hK K
  refine wp_seq_k fun K hK => ?_
  refine wp_region_lit ?_
  refine seg ha 1 [(0, .pointer (some ⟨g, 0, none⟩)), (3, .pointer (some ⟨gj, 0, none⟩)), (11, .pointer (some ⟨g, 0, none⟩))] (by kernel_rfl) fun a ha => ?_
  refine ldA (cs := cS_api_Join j) ha rfl (by kernel_rfl) rfl rfl rfl (cells_sub (Box.cells hj) (all := cS_api_Join j) [] [] (by simp)) fun a ha => ?_
  refine cl ha (by rfl) (by kernel_rfl) (by rfl) (by rfl) (by rfl) (joins_Joins_place.walk w2 [g] (MS.cons h2.lt (MS.nil _)) g x ao cap (JAt.rsl h1 h3) h2 (by simp) j k p Hp) ?_
  rintro _ w3 ⟨rfl, c3, _⟩ a ha
  have h2 := h2.chg c3 (fun h => nomatch h)
  have h3 := own_J (M' := blkL ao) h3 c3 (fun _ _ h => nomatch h) (fun _ h => h)
  have hj := hj.chg c3 (fun h => nomatch h)
  have hM := hM.chg c3
  have C3 : Chg [] w w3 := C2.trans c3 (Ok.nil _ _)
  refine seg ha 5 [(0, .pointer (some ⟨g, 0, none⟩)), (3, .pointer (some ⟨gj, 0, none⟩)), (5, .int .i64 p.1), (6, .bool p.2)] (by kernel_rfl) fun a ha => ?_
  refine hK _ _ ?_; clear hK K
  refine wp_seq_k fun K hK => ?_
  refine wp_block ?_
  refine wp_seq_k fun K2 hK2 => ?_
  refine wp_region_lit ?_
  refine seg ha 2 [(0, .pointer (some ⟨g, 0, none⟩)), (3, .pointer (some ⟨gj, 0, none⟩)), (5, .int .i64 p.1), (16, .bool p.2)] (by kernel_rfl) fun a ha => ?_
  refine hK2 _ _ ?_; clear hK2 K2
  refine cnd ha rfl (fun hc => ?_) (fun hc => ?_)
  · rw [if_pos hc] at H
    have H := Option.some.inj H
    refine wp_seq_k fun K2 hK2 => ?_
    refine wp_region_lit ?_
    refine seg ha 1 [(4, .int .i64 0)] (by kernel_rfl) fun a ha => ?_
    refine hK2 _ _ ?_; clear hK2 K2
    refine wp_ret ?_
    simp only [Exit.then, Exit.inBlock]
    subst H
    exact rt1 ha rfl rfl ⟨ao, rfl, ⟨cap, h1, h2, h3⟩, C3.mono (Ok.nil _ _), Ok.refl _ _, fun y hy => (List.mem_append.1 hy).elim (fun h => hM y (hL y h)) (hM y)⟩
  rw [if_neg (by rw [hc]; decide)] at H
  refine wp_seq_k fun K2 hK2 => ?_
  refine wp_region_lit ?_
  refine seg ha 3 [(0, .pointer (some ⟨g, 0, none⟩)), (3, .pointer (some ⟨gj, 0, none⟩)), (5, .int .i64 p.1), (21, .pointer (some ⟨g, 0, none⟩))] (by kernel_rfl) fun a ha => ?_
  refine ld (v := .slice ao x.all.length cap) ha rfl (by kernel_rfl) rfl rfl rfl (h2.cell' (o := 0) rfl rfl) fun a ha => ?_
  refine seg ha 3 [(0, .pointer (some ⟨g, 0, none⟩)), (3, .pointer (some ⟨gj, 0, none⟩)), (5, .int .i64 p.1), (18, .bool (decide ((x.all.length : Int) ≥ (32 : Int))))] (by kernel_rfl) fun a ha => ?_
  refine hK2 _ _ ?_; clear hK2 K2
  refine cnd ha rfl (fun hc => ?_) (fun hc => ?_)
  · rw [if_pos hc] at H
    have H := Option.some.inj H
    refine wp_seq_k fun K2 hK2 => ?_
    refine wp_region_lit ?_
    refine seg ha 1 [(4, .int .i64 6)] (by kernel_rfl) fun a ha => ?_
    refine hK2 _ _ ?_; clear hK2 K2
    refine wp_ret ?_
    simp only [Exit.then, Exit.inBlock]
    subst H
    exact rt1 ha rfl rfl ⟨ao, rfl, ⟨cap, h1, h2, h3⟩, C3.mono (Ok.nil _ _), Ok.refl _ _, fun y hy => (List.mem_append.1 hy).elim (fun h => hM y (hL y h)) (hM y)⟩
  rw [if_neg (by rw [hc]; decide)] at H
  have h32 : ¬ (x.all.length : Int) ≥ (32 : Int) := of_decide_eq_false hc
  obtain ⟨⟨q1, q2⟩, H⟩ := ite_some H
  have H := Option.some.inj H
  obtain ⟨i, hi⟩ : ∃ i : Nat, p.1 = (i : Int) := ⟨p.1.toNat, by omega⟩
  rw [hi] at ha H q2
  rw [Int.toNat_natCast] at H
  refine wp_skip ?_
  refine hK _ _ ?_; clear hK K
  refine wp_seq_k fun K hK => ?_
  have ha := ha.sel (env' := [(0, .pointer (some ⟨g, 0, none⟩)), (3, .pointer (some ⟨gj, 0, none⟩)), (5, .int .i64 (i : Int))]) (by kernel_rfl)
  have hjS : ∀ w', Chg ([g] ++ blkL ao) w3 w' → Box w' gj (cS_api_Join j) := fun w' h => hj.chg h (by simp [hgj, hjo])
  refine drw (fun w' => Chg ([g] ++ blkL ao) w3 w') (by kernel_rfl) fun w4 c4 _ => ?_
  have hS : Chg ([g] ++ blkL ao) w3 w4 := c4.mono (Ok.nil _ _)
  have h2 := h2.chg c4 (fun h => nomatch h)
  have h3 := own_J (M' := blkL ao) h3 c4 (fun _ _ h => nomatch h) (fun _ h => h)
  have h4 := h3
  refine tkpz 0 0 (.pointer (some ⟨g, 0, none⟩)) ha (s := hS) (q := fun a ha => ?_)
  refine tkpz 1 0 (.pointer (some ⟨g, 0, none⟩)) ha (s := hS) (q := fun a ha => ?_)
  refine tkpz 2 0 (.pointer (some ⟨g, 0, none⟩)) ha (s := hS) (q := fun a ha => ?_)
  refine tkpz 3 0 (.pointer (some ⟨g, 0, none⟩)) ha (s := hS) (q := fun a ha => ?_)
  refine tkpz 5 0 (.int .i64 (i : Int)) ha (s := hS) (q := fun a ha => ?_)
  refine tkz 6 ha (v := .agg (cS_api_Join j).toArray) (y := fun w' hs => ldA_run (cs := cS_api_Join j) ha rfl (by kernel_rfl) (cells_sub (Box.cells (hjS w' hs)) (all := cS_api_Join j) [] [] (by simp))) (s := hS) (q := fun a ha => ?_)
  have ha := ha.sel (env' := [(25, .pointer (some ⟨g, 0, none⟩)), (28, .pointer (some ⟨g, 0, none⟩)), (30, .int .i64 (i : Int)), (31, .agg (cS_api_Join j).toArray)]) (by kernel_rfl)
  refine acs [4, 7] (by kernel_rfl) (by simp) fun q hq => ?_
  simp only [List.mem_cons, List.not_mem_nil, or_false] at hq
  rcases hq with rfl | rfl
  · refine ⟨_, rfl, fun K4 hK4 => ?_⟩
    refine ld (v := .slice ao x.all.length cap) ha rfl (by kernel_rfl) rfl rfl rfl (h2.cell' (o := 0) rfl rfl) fun a ha => ?_
    refine ae hK4 hS ?_; clear hK4 K4
    refine ac 7 (by kernel_rfl) (by rfl) fun K7 hK7 => ?_
    refine bslA (vals := [.agg (cS_api_Join j).toArray]) (T := 38) (z := .agg (cS_api_Join zJ).toArray) ha rfl (by kernel_rfl) rfl (by kernel_rfl) (s := 36) (by kernel_rfl) rfl rfl (fun w => by kernel_rfl) (by kernel_rfl) rfl rfl rfl fun a w5 gv N5 ha => ?_
    refine ae hK7 (hS.trans N5.chg (Ok.nil _ _)) ?_; clear hK7 K7
    have c5 := N5.chg
    have hge := N5.ge
    have hv : BoxT 38 w5 gv (cS_api_Join j) := by
      have := N5.at_
      rw [show ([Value.agg (cS_api_Join j).toArray].flatMap fun v => v.cells.toList) = cS_api_Join j from by rw [List.flatMap_singleton]; rfl] at this
      exact this
    have ha := ha.sel (env' := [(25, .pointer (some ⟨g, 0, none⟩)), (29, .slice ao x.all.length cap), (30, .int .i64 (i : Int)), (32, .slice (some ⟨gv, 0, none⟩) 1 1)]) (by kernel_rfl)
    have hS5 : Chg ([g] ++ blkL ao) w3 w5 := hS.trans c5 (Ok.nil _ _)
    have h2 := h2.chg c5 (fun h => nomatch h)
    have h3 := own_J (M' := blkL ao) h3 c5 (fun _ _ h => nomatch h) (fun _ h => h)
    have hvo : gv ∉ blkL ao := fun h => by
      have e1 := h3.lt gv h
      have e2 := h4.lt gv h
      omega
    refine ac 8 (by kernel_rfl) (by rfl) fun K8 hK8 => ?_
    refine cl ha (by rfl) (by kernel_rfl) (by rfl) (by rfl) (by rfl) (insert_walk w5 ao cap x.all h3 i (by omega) (by omega) j gv hv.box hvo) ?_
    rintro _ w6 ⟨ao6, cap6, rfl, f6, c6, ok6⟩ a ha
    have hgl := h2.lt
    have h2 := h2.chg c6 h1
    have hS6 : Chg ([g] ++ blkL ao) w3 w6 := hS5.trans c6 (fun y hy => .inl (mr hy))
    refine ae hK8 hS6 ?_; clear hK8 K8
    refine tkpz 9 0 (.pointer (some ⟨g, 0, none⟩)) ha (s := hS6) (q := fun a ha => ?_)
    refine tkpz 10 0 (.pointer (some ⟨g, 0, none⟩)) ha (s := hS6) (q := fun a ha => ?_)
    refine ac 11 (by kernel_rfl) (by rfl) fun K11 hK11 => ?_
    refine st ha rfl rfl rfl (by kernel_rfl) rfl rfl h2 (Nat.le_of_ble_eq_true (by kernel_rfl)) fun a w7 ha hb7 c7 _ => ?_
    have hg6 : g ∉ blkL ao6 := fun h => (ok6 g h).elim h1 (fun h => absurd hgl (Nat.not_lt.2 h))
    have hS7 : Chg ([g] ++ blkL ao) w3 w7 := hS6.trans c7 (Ok.one (.inl (by simp)))
    refine ae hK11 hS7 ?_; clear hK11 K11
    refine dn (by kernel_rfl) ?_
    have ha := ha.sel (env' := []) (by kernel_rfl)
    refine hK _ _ ?_; clear hK K
    refine wp_seq_k fun K hK => ?_
    refine wp_region_lit ?_
    refine seg ha 1 [(4, .int .i64 0)] (by kernel_rfl) fun a ha => ?_
    refine hK _ _ ?_; clear hK K
    refine wp_ret ?_
    subst H
    have el : (x.all.take i ++ ([j] ++ x.all.drop i)).length = x.all.length + 1 := by simp; omega
    have hB : Box w7 g (cS_joins_Joins ⟨x.all.take i ++ ([j] ++ x.all.drop i)⟩ ao6 cap6) := by
      unfold cS_joins_Joins
      rw [el]; exact hb7
    have hok : Ok ([g] ++ blkL ao6) ([g] ++ blkL ao) w.heap.size := fun y hy => (List.mem_append.1 hy).elim (fun h => .inl (ml h)) (fun h => (ok6 y h).elim (fun h => .inl (mr h)) (fun h => .inr (Nat.le_trans (Nat.le_trans C3.size (Nat.le_trans c4.size c5.size)) h)))
    have C7 : Chg ([g] ++ blkL ao) w w7 := (C3.mono (gs' := [g] ++ blkL ao) (Ok.nil _ _)).trans hS7 (Ok.refl _ _)
    have f7 : Own rS_api_Join 38 w7 (blkL ao6) ao6 cap6 (x.all.take i ++ ([j] ++ x.all.drop i)) := own_J f6 c7 (fun y hy hh => by simp at hh; subst hh; exact hg6 hy) (fun _ h => h)
    exact rt1 ha rfl rfl ⟨ao6, rfl, ⟨cap6, hg6, hB, f7⟩, C7, hok, MS.app (MS.app (MS.cons hB.lt (MS.nil _)) f7.lt) (hM.chg hS7)⟩
  · refine ⟨_, rfl, fun K7 hK7 => ?_⟩
    refine bslA (vals := [.agg (cS_api_Join j).toArray]) (T := 38) (z := .agg (cS_api_Join zJ).toArray) ha rfl (by kernel_rfl) rfl (by kernel_rfl) (s := 36) (by kernel_rfl) rfl rfl (fun w => by kernel_rfl) (by kernel_rfl) rfl rfl rfl fun a w5 gv N5 ha => ?_
    refine ae hK7 (hS.trans N5.chg (Ok.nil _ _)) ?_; clear hK7 K7
    refine ac 4 (by kernel_rfl) (by rfl) fun K4 hK4 => ?_
    refine ld (v := .slice ao x.all.length cap) ha rfl (by kernel_rfl) rfl rfl rfl ((h2.chg N5.chg (fun h => nomatch h)).cell' (o := 0) rfl rfl) fun a ha => ?_
    refine ae hK4 (hS.trans N5.chg (Ok.nil _ _)) ?_; clear hK4 K4
    have c5 := N5.chg
    have hge := N5.ge
    have hv : BoxT 38 w5 gv (cS_api_Join j) := by
      have := N5.at_
      rw [show ([Value.agg (cS_api_Join j).toArray].flatMap fun v => v.cells.toList) = cS_api_Join j from by rw [List.flatMap_singleton]; rfl] at this
      exact this
    have ha := ha.sel (env' := [(25, .pointer (some ⟨g, 0, none⟩)), (29, .slice ao x.all.length cap), (30, .int .i64 (i : Int)), (32, .slice (some ⟨gv, 0, none⟩) 1 1)]) (by kernel_rfl)
    have hS5 : Chg ([g] ++ blkL ao) w3 w5 := hS.trans c5 (Ok.nil _ _)
    have h2 := h2.chg c5 (fun h => nomatch h)
    have h3 := own_J (M' := blkL ao) h3 c5 (fun _ _ h => nomatch h) (fun _ h => h)
    have hvo : gv ∉ blkL ao := fun h => by
      have e1 := h3.lt gv h
      have e2 := h4.lt gv h
      omega
    refine ac 8 (by kernel_rfl) (by rfl) fun K8 hK8 => ?_
    refine cl ha (by rfl) (by kernel_rfl) (by rfl) (by rfl) (by rfl) (insert_walk w5 ao cap x.all h3 i (by omega) (by omega) j gv hv.box hvo) ?_
    rintro _ w6 ⟨ao6, cap6, rfl, f6, c6, ok6⟩ a ha
    have hgl := h2.lt
    have h2 := h2.chg c6 h1
    have hS6 : Chg ([g] ++ blkL ao) w3 w6 := hS5.trans c6 (fun y hy => .inl (mr hy))
    refine ae hK8 hS6 ?_; clear hK8 K8
    refine tkpz 9 0 (.pointer (some ⟨g, 0, none⟩)) ha (s := hS6) (q := fun a ha => ?_)
    refine tkpz 10 0 (.pointer (some ⟨g, 0, none⟩)) ha (s := hS6) (q := fun a ha => ?_)
    refine ac 11 (by kernel_rfl) (by rfl) fun K11 hK11 => ?_
    refine st ha rfl rfl rfl (by kernel_rfl) rfl rfl h2 (Nat.le_of_ble_eq_true (by kernel_rfl)) fun a w7 ha hb7 c7 _ => ?_
    have hg6 : g ∉ blkL ao6 := fun h => (ok6 g h).elim h1 (fun h => absurd hgl (Nat.not_lt.2 h))
    have hS7 : Chg ([g] ++ blkL ao) w3 w7 := hS6.trans c7 (Ok.one (.inl (by simp)))
    refine ae hK11 hS7 ?_; clear hK11 K11
    refine dn (by kernel_rfl) ?_
    have ha := ha.sel (env' := []) (by kernel_rfl)
    refine hK _ _ ?_; clear hK K
    refine wp_seq_k fun K hK => ?_
    refine wp_region_lit ?_
    refine seg ha 1 [(4, .int .i64 0)] (by kernel_rfl) fun a ha => ?_
    refine hK _ _ ?_; clear hK K
    refine wp_ret ?_
    subst H
    have el : (x.all.take i ++ ([j] ++ x.all.drop i)).length = x.all.length + 1 := by simp; omega
    have hB : Box w7 g (cS_joins_Joins ⟨x.all.take i ++ ([j] ++ x.all.drop i)⟩ ao6 cap6) := by
      unfold cS_joins_Joins
      rw [el]; exact hb7
    have hok : Ok ([g] ++ blkL ao6) ([g] ++ blkL ao) w.heap.size := fun y hy => (List.mem_append.1 hy).elim (fun h => .inl (ml h)) (fun h => (ok6 y h).elim (fun h => .inl (mr h)) (fun h => .inr (Nat.le_trans (Nat.le_trans C3.size (Nat.le_trans c4.size c5.size)) h)))
    have C7 : Chg ([g] ++ blkL ao) w w7 := (C3.mono (gs' := [g] ++ blkL ao) (Ok.nil _ _)).trans hS7 (Ok.refl _ _)
    have f7 : Own rS_api_Join 38 w7 (blkL ao6) ao6 cap6 (x.all.take i ++ ([j] ++ x.all.drop i)) := own_J f6 c7 (fun y hy hh => by simp at hh; subst hh; exact hg6 hy) (fun _ h => h)
    exact rt1 ha rfl rfl ⟨ao6, rfl, ⟨cap6, hg6, hB, f7⟩, C7, hok, MS.app (MS.app (MS.cons hB.lt (MS.nil _)) f7.lt) (hM.chg hS7)⟩
def Jn_Drop.f (k : Nat) (x : S_joins_Joins) (j : S_api_Join) : Option (Bool × S_joins_Joins) :=
  (joins_Joins_place.f k x j).bind fun p => if p.2 = true then (if 0 ≤ p.1 ∧ p.1 < (x.all.length : Int) ∧ x.all.length ≤ 1000 then some (true, ⟨x.all.take p.1.toNat ++ x.all.drop (p.1.toNat + 1)⟩) else none) else some (false, x)
set_option maxRecDepth 100000 in
theorem Jn_Drop.walk (w : World) (M : List Nat) (hM : MS M w) (g : Nat) (ao : Option Addr) (x : S_joins_Joins) (f : JAt w g ao x) (hL : ∀ y ∈ [g] ++ blkL ao, y ∈ M) (j : S_api_Join) (k : Nat) (r : Bool × S_joins_Joins) (H : Jn_Drop.f k x j = some r) :
    To Tryz.prog 19 [.pointer (some ⟨g, 0, none⟩), .agg (cS_api_Join j).toArray] w fun v w' => ∃ ao2, v = .bool r.1 ∧ JAt w' g ao2 r.2 ∧ Chg ([g] ++ blkL ao) w w' ∧ Ok ([g] ++ blkL ao2) ([g] ++ blkL ao) w.heap.size ∧ MS (([g] ++ blkL ao2) ++ M) w' := by
  unfold Jn_Drop.f at H
  obtain ⟨p, Hp, H⟩ := bind_some H
  obtain ⟨cap, h1, h2, h3⟩ := f
  refine ent Tryz.func19 rfl [(0, .pointer (some ⟨g, 0, none⟩)), (1, .agg (cS_api_Join j).toArray)] rfl (by rfl) fun a ha => ?_
  refine wp_seq_k fun K hK => ?_
  refine wp_region_lit ?_
  refine bx (cs := cS_api_Join j) ha rfl rfl rfl rfl rfl fun a w1 gj N1 ha => ?_
  have c1 := N1.chg
  have hj : Box w1 gj (cS_api_Join j) := N1.box
  have h2 := h2.chg c1 (fun h => nomatch h)
  have h3 := own_J (M' := blkL ao) h3 c1 (fun _ _ h => nomatch h) (fun _ h => h)
  have hM := hM.chg c1
  refine seg ha 1 [(0, .pointer (some ⟨g, 0, none⟩)), (3, .pointer (some ⟨gj, 0, none⟩))] (by kernel_rfl) fun a ha => ?_
  refine hK _ _ ?_; clear hK K
  refine wp_seq_k fun K hK => ?_
  refine wp_region_lit ?_
  refine seg ha 1 [(0, .pointer (some ⟨g, 0, none⟩)), (3, .pointer (some ⟨gj, 0, none⟩)), (8, .pointer (some ⟨g, 0, none⟩))] (by kernel_rfl) fun a ha => ?_
  refine ldA (cs := cS_api_Join j) ha rfl (by kernel_rfl) rfl rfl rfl (cells_sub (Box.cells hj) (all := cS_api_Join j) [] [] (by simp)) fun a ha => ?_
  refine cl ha (by rfl) (by kernel_rfl) (by rfl) (by rfl) (by rfl) (joins_Joins_place.walk w1 [g] (MS.cons h2.lt (MS.nil _)) g x ao cap (JAt.rsl h1 h3) h2 (by simp) j k p Hp) ?_
  rintro _ w3 ⟨rfl, c3, _⟩ a ha
  have h2 := h2.chg c3 (fun h => nomatch h)
  have h3 := own_J (M' := blkL ao) h3 c3 (fun _ _ h => nomatch h) (fun _ h => h)
  have hM := hM.chg c3
  have C3 : Chg [] w w3 := c1.trans c3 (Ok.nil _ _)
  refine seg ha 5 [(0, .pointer (some ⟨g, 0, none⟩)), (5, .int .i64 p.1), (6, .bool p.2)] (by kernel_rfl) fun a ha => ?_
  refine hK _ _ ?_; clear hK K
  refine wp_seq_k fun K hK => ?_
  refine wp_seq_k fun K2 hK2 => ?_
  refine wp_region_lit ?_
  refine seg ha 1 [(0, .pointer (some ⟨g, 0, none⟩)), (5, .int .i64 p.1), (6, .bool p.2), (13, .bool p.2)] (by kernel_rfl) fun a ha => ?_
  refine hK2 _ _ ?_; clear hK2 K2
  refine cnd ha rfl (fun hc => ?_) (fun hc => ?_)
  · rw [if_pos hc] at H
    obtain ⟨⟨q1, q2, q3⟩, H⟩ := ite_some H
    have H := Option.some.inj H
    obtain ⟨i, hi⟩ : ∃ i : Nat, p.1 = (i : Int) := ⟨p.1.toNat, by omega⟩
    rw [hi, hc] at ha
    rw [hi] at H q2
    rw [Int.toNat_natCast] at H
    have hil : i < x.all.length := by omega
    obtain ⟨go, rfl⟩ : ∃ go, ao = some ⟨go, 0, none⟩ := by
      rcases h3 with ⟨_, e, _⟩ | ⟨g1, _, e, _⟩
      · rw [e] at hil; simp at hil
      · exact ⟨g1, e⟩
    have hgo : g ≠ go := fun e => h1 (by simp [blkL, e])
    refine wp_region_lit ?_
    refine seg ha 4 [(6, .bool true), (5, .int .i64 (i : Int)), (14, .pointer (some ⟨g, 0, none⟩)), (17, .pointer (some ⟨g, 0, none⟩))] (by kernel_rfl) fun a ha => ?_
    refine ld (v := .slice (some ⟨go, 0, none⟩) x.all.length cap) ha rfl (by kernel_rfl) rfl rfl rfl (h2.cell' (o := 0) rfl rfl) fun a ha => ?_
    refine seg ha 3 [(6, .bool true), (14, .pointer (some ⟨g, 0, none⟩)), (18, .slice (some ⟨go, 0, none⟩) x.all.length cap), (19, .int .i64 (i : Int)), (21, .int .i64 (IntKind.i64.wrap ((i : Int) + 1)))] (by kernel_rfl) fun a ha => ?_
    have e1 : IntKind.i64.wrap ((i : Int) + 1) = ((i + 1 : Nat) : Int) := by rw [IntKind.wrap_i64]; omega
    rw [e1] at ha
    refine cl ha (by rfl) (by kernel_rfl) (by rfl) (by rfl) (by rfl) (delete_walk w3 go cap x.all h3 i hil q3) ?_
    rintro _ w4 ⟨rfl, f4, c4⟩ a ha
    have h2 := h2.chg c4 (by simp [hgo])
    refine seg ha 2 [(6, .bool true), (22, .slice (some ⟨go, 0, none⟩) (x.all.take i ++ x.all.drop (i + 1)).length cap), (24, .pointer (some ⟨g, 0, none⟩))] (by kernel_rfl) fun a ha => ?_
    refine st ha rfl rfl rfl (by kernel_rfl) rfl rfl h2 (Nat.le_of_ble_eq_true (by kernel_rfl)) fun a w5 ha hb5 c5 _ => ?_
    refine wpl_end ?_
    have ha := ha.sel (env' := [(6, .bool true)]) (by kernel_rfl)
    refine hK _ _ ?_; clear hK K
    refine wp_seq_k fun K hK => ?_
    refine wp_region_lit ?_
    refine seg ha 2 [(4, .bool true)] (by kernel_rfl) fun a ha => ?_
    refine hK _ _ ?_; clear hK K
    refine wp_ret ?_
    subst H
    have hB : Box w5 g (cS_joins_Joins ⟨x.all.take i ++ x.all.drop (i + 1)⟩ (some ⟨go, 0, none⟩) cap) := hb5
    have C5 : Chg ([g] ++ blkL (some (⟨go, 0, none⟩ : Addr))) w w5 := ((C3.mono (gs' := [g] ++ blkL (some (⟨go, 0, none⟩ : Addr))) (Ok.nil _ _)).trans c4 (Ok.one (.inl (by simp [blkL])))).trans c5 (Ok.one (.inl (by simp)))
    exact rt1 ha rfl rfl ⟨some ⟨go, 0, none⟩, rfl, ⟨cap, h1, hB, own_J f4 c5 (fun y hy hh => by simp [blkL] at hy hh; omega) (fun _ h => h)⟩, C5, Ok.refl _ _, fun y hy => (List.mem_append.1 hy).elim (fun h => (hM.chg c4).chg c5 y (hL y h)) (fun h => (hM.chg c4).chg c5 y h)⟩
  · rw [if_neg (by rw [hc]; decide)] at H
    have H := Option.some.inj H
    rw [hc] at ha
    refine wp_skip ?_
    refine hK _ _ ?_; clear hK K
    refine wp_seq_k fun K hK => ?_
    refine wp_region_lit ?_
    refine seg ha 2 [(4, .bool false)] (by kernel_rfl) fun a ha => ?_
    refine hK _ _ ?_; clear hK K
    refine wp_ret ?_
    subst H
    exact rt1 ha rfl rfl ⟨ao, rfl, ⟨cap, h1, h2, h3⟩, C3.mono (Ok.nil _ _), Ok.refl _ _, fun y hy => (List.mem_append.1 hy).elim (fun h => hM y (hL y h)) (hM y)⟩

def vinerylaw07_V4.f (a0 : Int) (a1 : Int) (a2 : Int) (a3 : Int) : Option (S_api_Addr) := some (((⟨(4 : Int), ([a0, a1, a2, a3, (0 : Int), (0 : Int), (0 : Int), (0 : Int), (0 : Int), (0 : Int), (0 : Int), (0 : Int), (0 : Int), (0 : Int), (0 : Int), (0 : Int)] : List Int)⟩ : S_api_Addr) : S_api_Addr))
set_option maxRecDepth 100000 in
theorem vinerylaw07_V4.walk (w : World) (M : List Nat) (hM : MS M w) (a0 : Int) (a1 : Int) (a2 : Int) (a3 : Int) (r : S_api_Addr) (H : vinerylaw07_V4.f a0 a1 a2 a3 = some r) :
    To Tryz.prog 24 [.int .u8 a0, .int .u8 a1, .int .u8 a2, .int .u8 a3] w fun v w' => v = .agg (cS_api_Addr r).toArray ∧ Chg [] w w' ∧ MS (M) w' := by
 unfold vinerylaw07_V4.f at H
 refine ent Tryz.func24 rfl [(0, .int .u8 a0), (1, .int .u8 a1), (2, .int .u8 a2), (3, .int .u8 a3)] rfl (by rfl) fun a ha => ?_
 have hC : Chg [] w w := Chg.refl _ _
 refine wp_seq_k fun K1 hK1 => ?_
 refine wp_region_lit ?_
 refine al (cs := (cS_api_Addr (⟨(0 : Int), (List.replicate 16 (0 : Int))⟩ : S_api_Addr))) (z := .agg (cS_api_Addr (⟨(0 : Int), (List.replicate 16 (0 : Int))⟩ : S_api_Addr)).toArray) ha (fun w => by kernel_rfl) rfl rfl rfl rfl fun a w2 g3 hN4 ha => ?_
 have p_i5_M : ∀ x ∈ [g3], x ∉ M := fun x hx hy => absurd (hM x (hy)) (Nat.not_lt.2 ((hN4.ge1) x hx))
 have e_i5 : ∀ x ∈ [g3], w.heap.size ≤ x := fun x hx => Nat.le_trans hC.size ((hN4.ge1) x hx)
 have hM : MS ([g3] ++ (M)) w2 := (MS.app hN4.ms (hM.chg hN4.chg))
 have hC := hC.trans hN4.chg (Ok.nil _ _)
 have hBg3 : Box w2 g3 (cS_api_Addr (⟨(0 : Int), (List.replicate 16 (0 : Int))⟩ : S_api_Addr)) := hN4.box
 refine hK1 _ _ ?_; try clear hK1 K1
 refine wp_seq_k fun K6 hK6 => ?_
 refine wp_region_lit ?_
 refine seg ha 4 [(8, .pointer (some ⟨g3, 0, none⟩)), (9, .int .u8 a0), (10, .int .u8 a1), (11, .int .u8 a2), (12, .int .u8 a3)] (by kernel_rfl) fun a ha => ?_
 refine opk (v := .agg (cA .u8 16 ([a0, a1, a2, a3, (0 : Int), (0 : Int), (0 : Int), (0 : Int), (0 : Int), (0 : Int), (0 : Int), (0 : Int), (0 : Int), (0 : Int), (0 : Int), (0 : Int)] : List Int)).toArray) ha rfl rfl rfl rfl rfl (fun w => by kernel_rfl) fun a ha => ?_
 refine opk (v := .agg (cS_api_Addr (⟨(4 : Int), ([a0, a1, a2, a3, (0 : Int), (0 : Int), (0 : Int), (0 : Int), (0 : Int), (0 : Int), (0 : Int), (0 : Int), (0 : Int), (0 : Int), (0 : Int), (0 : Int)] : List Int)⟩ : S_api_Addr)).toArray) ha rfl rfl rfl rfl rfl (fun w => by kernel_rfl) fun a ha => ?_
 refine stA (l := (cS_api_Addr (⟨(4 : Int), ([a0, a1, a2, a3, (0 : Int), (0 : Int), (0 : Int), (0 : Int), (0 : Int), (0 : Int), (0 : Int), (0 : Int), (0 : Int), (0 : Int), (0 : Int), (0 : Int)] : List Int)⟩ : S_api_Addr))) ha rfl rfl rfl (by kernel_rfl) rfl rfl hBg3 rfl fun a w7 ha hb2 hc8 _ => ?_
 have hM : MS ([g3] ++ (M)) w7 := (hM.chg hc8)
 have hC := hC.trans hc8 (fun x h => .inr (e_i5 x h))
 have hBg3 : Box w7 g3 (cS_api_Addr (⟨(4 : Int), ([a0, a1, a2, a3, (0 : Int), (0 : Int), (0 : Int), (0 : Int), (0 : Int), (0 : Int), (0 : Int), (0 : Int), (0 : Int), (0 : Int), (0 : Int), (0 : Int)] : List Int)⟩ : S_api_Addr)) := hb2
 refine hK6 _ _ ?_; try clear hK6 K6
 refine wp_ret ?_
 try simp only [Exit.then, Exit.inBlock]
 have hM : MS (M) w7 := (fun x h => hM.chg (Chg.refl [] _) x (mr (h)))
 obtain rfl := Option.some.inj H
 refine rtr ha (res1 rfl (roA ha rfl hBg3 (by kernel_rfl))) ?_
 exact ⟨rfl, hC, hM⟩
def vinerylaw20_Of.f (a0 : List UInt8) (a1 : Int) (a2 : Int) : Option (S_api_Join) := (vinerylaw07_V4.f (224 : Int) (0 : Int) (0 : Int) a2).bind fun t7 => ((if (decide (a1 > (0 : Int))) = true then (vinerylaw07_V4.f (10 : Int) (1 : Int) (0 : Int) a1).bind fun t21 => some ((t21.Size : Int), (t21.B : List Int)) else some (((0 : Int) : Int), ((List.replicate 16 (0 : Int)) : List Int)))).bind fun s15 => some (((⟨([97] : List UInt8), a0, (⟨s15.1, s15.2⟩ : S_api_Addr), t7⟩ : S_api_Join) : S_api_Join))
set_option maxRecDepth 100000 in
theorem vinerylaw20_Of.walk (w : World) (M : List Nat) (hM : MS M w) (a0 : List UInt8) (a1 : Int) (a2 : Int) (r : S_api_Join) (H : vinerylaw20_Of.f a0 a1 a2 = some r) :
    To Tryz.prog 23 [.string (bstr a0), .int .u8 a1, .int .u8 a2] w fun v w' => v = .agg (cS_api_Join r).toArray ∧ Chg [] w w' ∧ MS (M) w' := by
 unfold vinerylaw20_Of.f at H
 refine ent Tryz.func23 rfl [(0, .string (bstr a0)), (1, .int .u8 a1), (2, .int .u8 a2)] rfl (by rfl) fun a ha => ?_
 have hC : Chg [] w w := Chg.refl _ _
 refine wp_seq_k fun K1 hK1 => ?_
 refine wp_region_lit ?_
 refine al (cs := (cS_api_Join (⟨([] : List UInt8), ([] : List UInt8), (⟨(0 : Int), (List.replicate 16 (0 : Int))⟩ : S_api_Addr), (⟨(0 : Int), (List.replicate 16 (0 : Int))⟩ : S_api_Addr)⟩ : S_api_Join))) (z := .agg (cS_api_Join (⟨([] : List UInt8), ([] : List UInt8), (⟨(0 : Int), (List.replicate 16 (0 : Int))⟩ : S_api_Addr), (⟨(0 : Int), (List.replicate 16 (0 : Int))⟩ : S_api_Addr)⟩ : S_api_Join)).toArray) ha (fun w => by kernel_rfl) rfl rfl rfl rfl fun a w2 g3 hN4 ha => ?_
 have p_i5_M : ∀ x ∈ [g3], x ∉ M := fun x hx hy => absurd (hM x (hy)) (Nat.not_lt.2 ((hN4.ge1) x hx))
 have e_i5 : ∀ x ∈ [g3], w.heap.size ≤ x := fun x hx => Nat.le_trans hC.size ((hN4.ge1) x hx)
 have hM : MS ([g3] ++ (M)) w2 := (MS.app hN4.ms (hM.chg hN4.chg))
 have hC := hC.trans hN4.chg (Ok.nil _ _)
 have hBg3 : Box w2 g3 (cS_api_Join (⟨([] : List UInt8), ([] : List UInt8), (⟨(0 : Int), (List.replicate 16 (0 : Int))⟩ : S_api_Addr), (⟨(0 : Int), (List.replicate 16 (0 : Int))⟩ : S_api_Addr)⟩ : S_api_Join)) := hN4.box
 refine hK1 _ _ ?_; try clear hK1 K1
 refine wp_seq_k fun K6 hK6 => ?_
 refine wp_region_lit ?_
 refine seg ha 2 [(1, .int .u8 a1), (6, .pointer (some ⟨g3, 0, none⟩)), (8, .string (bstr a0)), (9, .int .u8 a2)] (by kernel_rfl) fun a ha => ?_
 obtain ⟨t7, H7, H⟩ := bind_some H
 refine cl ha (by rfl) (by kernel_rfl) (by rfl) (by rfl) (by rfl) (vinerylaw07_V4.walk w2 _ hM (224 : Int) (0 : Int) (0 : Int) a2 _ H7) ?_
 rintro _ w7 ⟨rfl, hc7, hMn⟩ a ha
 have hBg3 := hBg3.chg hc7 (fun h => nomatch h)
 have hM : MS ([g3] ++ (M)) w7 := (hM.chg hc7)
 have hC := hC.trans hc7 (Ok.nil _ _)
 refine opk (v := .agg (cS_api_Join (⟨([97] : List UInt8), a0, (⟨(0 : Int), (List.replicate 16 (0 : Int))⟩ : S_api_Addr), t7⟩ : S_api_Join)).toArray) ha rfl rfl rfl rfl rfl (fun w => by kernel_rfl) fun a ha => ?_
 refine al (cs := (cS_api_Join (⟨([] : List UInt8), ([] : List UInt8), (⟨(0 : Int), (List.replicate 16 (0 : Int))⟩ : S_api_Addr), (⟨(0 : Int), (List.replicate 16 (0 : Int))⟩ : S_api_Addr)⟩ : S_api_Join))) (z := .agg (cS_api_Join (⟨([] : List UInt8), ([] : List UInt8), (⟨(0 : Int), (List.replicate 16 (0 : Int))⟩ : S_api_Addr), (⟨(0 : Int), (List.replicate 16 (0 : Int))⟩ : S_api_Addr)⟩ : S_api_Join)).toArray) ha (fun w => by kernel_rfl) rfl rfl rfl rfl fun a w8 g9 hN10 ha => ?_
 have hBg3 := hBg3.chg hN10.chg (fun h => nomatch h)
 have p_i11_i5 : ∀ x ∈ [g9], x ∉ ([g3]) := fun x hx hy => absurd (hM x (ml hy)) (Nat.not_lt.2 ((hN10.ge1) x hx))
 have p_i11_M : ∀ x ∈ [g9], x ∉ M := fun x hx hy => absurd (hM x (mr (hy))) (Nat.not_lt.2 ((hN10.ge1) x hx))
 have e_i11 : ∀ x ∈ [g9], w.heap.size ≤ x := fun x hx => Nat.le_trans hC.size ((hN10.ge1) x hx)
 have hM : MS ([g9] ++ ([g3] ++ (M))) w8 := (MS.app hN10.ms (hM.chg hN10.chg))
 have hC := hC.trans hN10.chg (Ok.nil _ _)
 have hBg9 : Box w8 g9 (cS_api_Join (⟨([] : List UInt8), ([] : List UInt8), (⟨(0 : Int), (List.replicate 16 (0 : Int))⟩ : S_api_Addr), (⟨(0 : Int), (List.replicate 16 (0 : Int))⟩ : S_api_Addr)⟩ : S_api_Join)) := hN10.box
 refine stA (l := (cS_api_Join (⟨([97] : List UInt8), a0, (⟨(0 : Int), (List.replicate 16 (0 : Int))⟩ : S_api_Addr), t7⟩ : S_api_Join))) ha rfl rfl rfl (by kernel_rfl) rfl rfl hBg9 rfl fun a w12 ha hb2 hc13 _ => ?_
 have hBg3 := hBg3.chg hc13 ((fun x (hx : x ∈ [g3]) (hy : x ∈ [g9]) => p_i11_i5 x hy hx) g3 (by simp))
 have hM : MS ([g9] ++ ([g3] ++ (M))) w12 := (hM.chg hc13)
 have hC := hC.trans hc13 (fun x h => .inr (e_i11 x h))
 have hBg9 : Box w12 g9 (cS_api_Join (⟨([97] : List UInt8), a0, (⟨(0 : Int), (List.replicate 16 (0 : Int))⟩ : S_api_Addr), t7⟩ : S_api_Join)) := hb2
 refine hK6 _ _ ?_; try clear hK6 K6
 refine wp_seq_k fun K14 hK14 => ?_
 obtain ⟨s15, H15, H⟩ := bind_some H
 have J15 : ∀ (a : Act) (w15 : World), Has a Tryz.f23.ntmps [(6, .pointer (some ⟨g3, 0, none⟩)), (7, .pointer (some ⟨g9, 0, none⟩))] → (Box w15 g3 (cS_api_Join (⟨([] : List UInt8), ([] : List UInt8), (⟨(0 : Int), (List.replicate 16 (0 : Int))⟩ : S_api_Addr), (⟨(0 : Int), (List.replicate 16 (0 : Int))⟩ : S_api_Addr)⟩ : S_api_Join))) → (Box w15 g9 (cS_api_Join (⟨([97] : List UInt8), a0, (⟨s15.1, s15.2⟩ : S_api_Addr), t7⟩ : S_api_Join))) → (Chg [] w w15) → (MS ([g9] ++ ([g3] ++ (M))) w15) → K14 a w15 := by
  intro a w15 ha hBg3 hBg9 hC hM
  refine hK14 _ _ ?_; try clear hK14 K14
  refine wp_seq_k fun K16 hK16 => ?_
  refine wp_region_lit ?_
  refine ldA (cs := (cS_api_Join (⟨([97] : List UInt8), a0, (⟨s15.1, s15.2⟩ : S_api_Addr), t7⟩ : S_api_Join))) ha rfl (by kernel_rfl) rfl rfl rfl (cells_sub (Box.cells hBg9) (all := (cS_api_Join (⟨([97] : List UInt8), a0, (⟨s15.1, s15.2⟩ : S_api_Addr), t7⟩ : S_api_Join))) [] [] (by kernel_rfl)) fun a ha => ?_
  refine stA (l := (cS_api_Join (⟨([97] : List UInt8), a0, (⟨s15.1, s15.2⟩ : S_api_Addr), t7⟩ : S_api_Join))) ha rfl rfl rfl (by kernel_rfl) rfl rfl hBg3 rfl fun a w17 ha hb2 hc18 _ => ?_
  have hBg9 := hBg9.chg hc18 (p_i11_i5 g9 (by simp))
  have hM : MS ([g9] ++ ([g3] ++ (M))) w17 := (hM.chg hc18)
  have hC := hC.trans hc18 (fun x h => .inr (e_i5 x h))
  have hBg3 : Box w17 g3 (cS_api_Join (⟨([97] : List UInt8), a0, (⟨s15.1, s15.2⟩ : S_api_Addr), t7⟩ : S_api_Join)) := hb2
  refine hK16 _ _ ?_; try clear hK16 K16
  refine wp_ret ?_
  try simp only [Exit.then, Exit.inBlock]
  have hM : MS (M) w17 := (fun x h => hM.chg (Chg.refl [] _) x (mr (mr (h))))
  obtain rfl := Option.some.inj H
  refine rtr ha (res1 rfl (roA ha rfl hBg3 (by kernel_rfl))) ?_
  exact ⟨rfl, hC, hM⟩
 have H := H15
 refine wp_seq_k fun K19 hK19 => ?_
 refine wp_region_lit ?_
 refine seg ha 2 [(1, .int .u8 a1), (6, .pointer (some ⟨g3, 0, none⟩)), (7, .pointer (some ⟨g9, 0, none⟩)), (13, .bool (decide (a1 > (0 : Int))))] (by kernel_rfl) fun a ha => ?_
 refine hK19 _ _ ?_; try clear hK19 K19
 refine cnd ha rfl (fun hc20 => ?_) (fun hc20 => ?_)
 ·have H := ite_t hc20 H
  refine wp_region_lit ?_
  refine seg ha 1 [(6, .pointer (some ⟨g3, 0, none⟩)), (7, .pointer (some ⟨g9, 0, none⟩)), (14, .int .u8 a1)] (by kernel_rfl) fun a ha => ?_
  obtain ⟨t21, H21, H⟩ := bind_some H
  refine cl ha (by rfl) (by kernel_rfl) (by rfl) (by rfl) (by rfl) (vinerylaw07_V4.walk w12 _ hM (10 : Int) (1 : Int) (0 : Int) a1 _ H21) ?_
  rintro _ w21 ⟨rfl, hc21, hMn⟩ a ha
  have hBg3 := hBg3.chg hc21 (fun h => nomatch h)
  have hBg9 := hBg9.chg hc21 (fun h => nomatch h)
  have hM : MS ([g9] ++ ([g3] ++ (M))) w21 := (hM.chg hc21)
  have hC := hC.trans hc21 (Ok.nil _ _)
  refine seg ha 1 [(6, .pointer (some ⟨g3, 0, none⟩)), (7, .pointer (some ⟨g9, 0, none⟩)), (15, .agg (cS_api_Addr t21).toArray), (16, .pointer (some ⟨g9, 2, none⟩))] (by kernel_rfl) fun a ha => ?_
  refine stA (l := (cS_api_Addr t21)) ha rfl rfl rfl (by kernel_rfl) rfl rfl hBg9 rfl fun a w22 ha hb2 hc23 _ => ?_
  have hBg3 := hBg3.chg hc23 ((fun x (hx : x ∈ [g3]) (hy : x ∈ [g9]) => p_i11_i5 x hy hx) g3 (by simp))
  have hM : MS ([g9] ++ ([g3] ++ (M))) w22 := (hM.chg hc23)
  have hC := hC.trans hc23 (fun x h => .inr (e_i11 x h))
  have hBg9 : Box w22 g9 (cS_api_Join (⟨([97] : List UInt8), a0, t21, t7⟩ : S_api_Join)) := hb2
  obtain rfl := Option.some.inj H
  exact J15 _ _ (ha.sel (by kernel_rfl)) hBg3 hBg9 hC hM
 ·have H := ite_f hc20 H
  refine wp_skip ?_
  obtain rfl := Option.some.inj H
  exact J15 _ _ (ha.sel (by kernel_rfl)) hBg3 hBg9 hC hM


def joins_asks.f (a0 : S_api_Join) (a1 : S_api_Flow) : Option (Bool) := ((if ((bstr a0.Vrf).toList == (bstr a1.Vrf).toList) = true then (if ((a0.Group.Size == a1.Group.Size) && ((eqA 16 a0.Group.B a1.Group.B) && true)) = true then (if (a0.Source.Size == (0 : Int)) = true then some (true : Bool) else some (((a0.Source.Size == a1.Source.Size) && ((eqA 16 a0.Source.B a1.Source.B) && true)) : Bool)) else some (false : Bool)) else some (false : Bool))).bind fun s13 => some ((s13 : Bool))
set_option maxRecDepth 100000 in
theorem joins_asks.walk (w : World) (M : List Nat) (hM : MS M w) (a0 : S_api_Join) (a1 : S_api_Flow) (r : Bool) (H : joins_asks.f a0 a1 = some r) :
    To Tryz.prog 27 [.agg (cS_api_Join a0).toArray, .agg (cS_api_Flow a1).toArray] w fun v w' => v = .bool r ∧ Chg [] w w' ∧ MS (M) w' := by
 unfold joins_asks.f at H
 refine ent Tryz.func27 rfl [(0, .agg (cS_api_Join a0).toArray), (1, .agg (cS_api_Flow a1).toArray)] rfl (by rfl) fun a ha => ?_
 have hC : Chg [] w w := Chg.refl _ _
 refine wp_seq_k fun K1 hK1 => ?_
 refine wp_region_lit ?_
 refine bx (cs := (cS_api_Join a0)) ha rfl rfl rfl rfl rfl fun a w2 g3 hN4 ha => ?_
 have hn6 := hN4.notin hM
 have hM : MS (M) w2 := (hM.chg hN4.chg)
 have hC := hC.trans hN4.chg (Ok.nil _ _)
 have hE5 : ∀ j v, (cS_api_Join a0)[j]? = some v → w2.cell? ⟨g3, 0 + j, none⟩ = some v := Box.cells (New.box hN4)
 refine bx (cs := (cS_api_Flow a1)) ha rfl rfl rfl rfl rfl fun a w7 g8 hN9 ha => ?_
 have hn11 := hN9.notin hM
 have o1 : Ok [] (M) w2.heap.size := Ok.nil _ _
 have o2 : Ok (M) (M) w2.heap.size := (Ok.refl _ _)
 have q_hn6 : g3 ∉ M := fun h => (o2 g3 h).elim hn6 (fun h => absurd (lt_cell (hE5 0 _ rfl)) (Nat.not_lt.2 h))
 have hE5 : ∀ j v, (cS_api_Join a0)[j]? = some v → w7.cell? ⟨g3, 0 + j, none⟩ = some v := fun j v hv => (cell_keep hN9.chg o1 hn6 (hE5 j v hv))
 have hn6 := q_hn6
 have hM : MS (M) w7 := (hM.chg hN9.chg)
 have hC := hC.trans hN9.chg (Ok.nil _ _)
 have hE10 : ∀ j v, (cS_api_Flow a1)[j]? = some v → w7.cell? ⟨g8, 0 + j, none⟩ = some v := Box.cells (New.box hN9)
 refine seg ha 1 [(2, .pointer (some ⟨g3, 0, none⟩)), (3, .pointer (some ⟨g8, 0, none⟩))] (by kernel_rfl) fun a ha => ?_
 refine hK1 _ _ ?_; try clear hK1 K1
 refine wp_seq_k fun K12 hK12 => ?_
 refine wp_region_lit ?_
 obtain ⟨s13, H13, H⟩ := bind_some H
 have J13 : ∀ (a : Act) (w13 : World), Has a Tryz.f27.ntmps [(4, .bool s13)] → (Chg [] w w13) → (MS (M) w13) → K12 a w13 := by
  intro a w13 ha hC hM
  refine hK12 _ _ ?_; try clear hK12 K12
  refine wp_ret ?_
  try simp only [Exit.then, Exit.inBlock]
  obtain rfl := Option.some.inj H
  refine rt1 ha rfl rfl ?_
  exact ⟨rfl, hC, hM⟩
 have H := H13
 refine seg ha 1 [(2, .pointer (some ⟨g3, 0, none⟩)), (3, .pointer (some ⟨g8, 0, none⟩)), (5, .pointer (some ⟨g3, 0, none⟩))] (by kernel_rfl) fun a ha => ?_
 refine ld ha rfl (by kernel_rfl) rfl rfl rfl (hE5 0 (.string (bstr a0.Vrf)) (by kernel_rfl)) fun a ha => ?_
 refine seg ha 1 [(2, .pointer (some ⟨g3, 0, none⟩)), (3, .pointer (some ⟨g8, 0, none⟩)), (6, .string (bstr a0.Vrf)), (7, .pointer (some ⟨g8, 0, none⟩))] (by kernel_rfl) fun a ha => ?_
 refine ld ha rfl (by kernel_rfl) rfl rfl rfl (hE10 0 (.string (bstr a1.Vrf)) (by kernel_rfl)) fun a ha => ?_
 refine seg ha 2 [(10, .bool ((bstr a0.Vrf).toList == (bstr a1.Vrf).toList)), (2, .pointer (some ⟨g3, 0, none⟩)), (3, .pointer (some ⟨g8, 0, none⟩))] (by kernel_rfl) fun a ha => ?_
 rcases Bool.eq_false_or_eq_true ((bstr a0.Vrf).toList == (bstr a1.Vrf).toList) with hb14 | hb14
 ·have ha := ha.lit hb14
  have H := ite_t hb14 H
  refine sgh ha 1 [2] [(2, .pointer (some ⟨g3, 0, none⟩)), (3, .pointer (some ⟨g8, 0, none⟩)), (10, .bool true), (11, .pointer (some ⟨g3, 0 + 19, none⟩))] (by kernel_rfl) fun a ha => ?_
  refine ldA (cs := (cS_api_Addr a0.Group)) ha rfl (by kernel_rfl) rfl rfl rfl (cells_sub hE5 (all := (cS_api_Join a0)) [.string (bstr a0.Vrf), .string (bstr a0.Iface), .int .i64 a0.Source.Size, .int .u8 (ar a0.Source.B 0), .int .u8 (ar a0.Source.B 1), .int .u8 (ar a0.Source.B 2), .int .u8 (ar a0.Source.B 3), .int .u8 (ar a0.Source.B 4), .int .u8 (ar a0.Source.B 5), .int .u8 (ar a0.Source.B 6), .int .u8 (ar a0.Source.B 7), .int .u8 (ar a0.Source.B 8), .int .u8 (ar a0.Source.B 9), .int .u8 (ar a0.Source.B 10), .int .u8 (ar a0.Source.B 11), .int .u8 (ar a0.Source.B 12), .int .u8 (ar a0.Source.B 13), .int .u8 (ar a0.Source.B 14), .int .u8 (ar a0.Source.B 15)] [] (by kernel_rfl)) fun a ha => ?_
  refine sgh ha 1 [2] [(2, .pointer (some ⟨g3, 0, none⟩)), (3, .pointer (some ⟨g8, 0, none⟩)), (10, .bool true), (12, .agg (cS_api_Addr a0.Group).toArray), (13, .pointer (some ⟨g8, 0 + 18, none⟩))] (by kernel_rfl) fun a ha => ?_
  refine ldA (cs := (cS_api_Addr a1.Group)) ha rfl (by kernel_rfl) rfl rfl rfl (cells_sub hE10 (all := (cS_api_Flow a1)) [.string (bstr a1.Vrf), .int .i64 a1.Source.Size, .int .u8 (ar a1.Source.B 0), .int .u8 (ar a1.Source.B 1), .int .u8 (ar a1.Source.B 2), .int .u8 (ar a1.Source.B 3), .int .u8 (ar a1.Source.B 4), .int .u8 (ar a1.Source.B 5), .int .u8 (ar a1.Source.B 6), .int .u8 (ar a1.Source.B 7), .int .u8 (ar a1.Source.B 8), .int .u8 (ar a1.Source.B 9), .int .u8 (ar a1.Source.B 10), .int .u8 (ar a1.Source.B 11), .int .u8 (ar a1.Source.B 12), .int .u8 (ar a1.Source.B 13), .int .u8 (ar a1.Source.B 14), .int .u8 (ar a1.Source.B 15)] [] (by kernel_rfl)) fun a ha => ?_
  refine hop (v := .bool ((a0.Group.Size == a1.Group.Size) && ((eqA 16 a0.Group.B a1.Group.B) && true))) (w' := w7) ha rfl rfl rfl (eqs_run (r := ((a0.Group.Size == a1.Group.Size) && ((eqA 16 a0.Group.B a1.Group.B) && true))) (m := 9) ha rfl rfl (by kernel_rfl) rfl (by kernel_rfl) _) fun a ha => ?_
  refine sgh ha 2 [3, 0] [(17, .bool ((a0.Group.Size == a1.Group.Size) && ((eqA 16 a0.Group.B a1.Group.B) && true))), (2, .pointer (some ⟨g3, 0, none⟩)), (3, .pointer (some ⟨g8, 0, none⟩))] (by kernel_rfl) fun a ha => ?_
  rcases Bool.eq_false_or_eq_true (((a0.Group.Size == a1.Group.Size) && ((eqA 16 a0.Group.B a1.Group.B) && true))) with hb15 | hb15
  ·have ha := ha.lit hb15
   have H := ite_t hb15 H
   refine sgh ha 2 [2, 2] [(2, .pointer (some ⟨g3, 0, none⟩)), (3, .pointer (some ⟨g8, 0, none⟩)), (17, .bool true), (19, .pointer (some ⟨g3, 0 + 2, none⟩))] (by kernel_rfl) fun a ha => ?_
   refine ld ha rfl (by kernel_rfl) rfl rfl rfl (hE5 2 (.int .i64 a0.Source.Size) (by kernel_rfl)) fun a ha => ?_
   refine sgh ha 2 [2, 2] [(22, .bool (a0.Source.Size == (0 : Int))), (2, .pointer (some ⟨g3, 0, none⟩)), (3, .pointer (some ⟨g8, 0, none⟩)), (17, .bool true)] (by kernel_rfl) fun a ha => ?_
   rcases Bool.eq_false_or_eq_true (a0.Source.Size == (0 : Int)) with hb16 | hb16
   ·have ha := ha.lit hb16
    have H := ite_t hb16 H
    refine sgh ha 8 [1, 1, 1, 1, 1, 5, 3, 0] [(4, .bool true)] (by kernel_rfl) fun a ha => ?_
    obtain rfl := Option.some.inj H
    exact J13 _ _ (ha.sel (by kernel_rfl)) hC hM
   ·have ha := ha.lit hb16
    have H := ite_f hb16 H
    refine sgh ha 1 [2] [(3, .pointer (some ⟨g8, 0, none⟩)), (17, .bool true), (22, .bool false), (23, .pointer (some ⟨g3, 0 + 2, none⟩))] (by kernel_rfl) fun a ha => ?_
    refine ldA (cs := (cS_api_Addr a0.Source)) ha rfl (by kernel_rfl) rfl rfl rfl (cells_sub hE5 (all := (cS_api_Join a0)) [.string (bstr a0.Vrf), .string (bstr a0.Iface)] [.int .i64 a0.Group.Size, .int .u8 (ar a0.Group.B 0), .int .u8 (ar a0.Group.B 1), .int .u8 (ar a0.Group.B 2), .int .u8 (ar a0.Group.B 3), .int .u8 (ar a0.Group.B 4), .int .u8 (ar a0.Group.B 5), .int .u8 (ar a0.Group.B 6), .int .u8 (ar a0.Group.B 7), .int .u8 (ar a0.Group.B 8), .int .u8 (ar a0.Group.B 9), .int .u8 (ar a0.Group.B 10), .int .u8 (ar a0.Group.B 11), .int .u8 (ar a0.Group.B 12), .int .u8 (ar a0.Group.B 13), .int .u8 (ar a0.Group.B 14), .int .u8 (ar a0.Group.B 15)] (by kernel_rfl)) fun a ha => ?_
    refine sgh ha 1 [2] [(17, .bool true), (22, .bool false), (24, .agg (cS_api_Addr a0.Source).toArray), (25, .pointer (some ⟨g8, 0 + 1, none⟩))] (by kernel_rfl) fun a ha => ?_
    refine ldA (cs := (cS_api_Addr a1.Source)) ha rfl (by kernel_rfl) rfl rfl rfl (cells_sub hE10 (all := (cS_api_Flow a1)) [.string (bstr a1.Vrf)] [.int .i64 a1.Group.Size, .int .u8 (ar a1.Group.B 0), .int .u8 (ar a1.Group.B 1), .int .u8 (ar a1.Group.B 2), .int .u8 (ar a1.Group.B 3), .int .u8 (ar a1.Group.B 4), .int .u8 (ar a1.Group.B 5), .int .u8 (ar a1.Group.B 6), .int .u8 (ar a1.Group.B 7), .int .u8 (ar a1.Group.B 8), .int .u8 (ar a1.Group.B 9), .int .u8 (ar a1.Group.B 10), .int .u8 (ar a1.Group.B 11), .int .u8 (ar a1.Group.B 12), .int .u8 (ar a1.Group.B 13), .int .u8 (ar a1.Group.B 14), .int .u8 (ar a1.Group.B 15)] (by kernel_rfl)) fun a ha => ?_
    refine hop (v := .bool ((a0.Source.Size == a1.Source.Size) && ((eqA 16 a0.Source.B a1.Source.B) && true))) (w' := w7) ha rfl rfl rfl (eqs_run (r := ((a0.Source.Size == a1.Source.Size) && ((eqA 16 a0.Source.B a1.Source.B) && true))) (m := 9) ha rfl rfl (by kernel_rfl) rfl (by kernel_rfl) _) fun a ha => ?_
    refine sgh ha 3 [6, 3, 0] [(4, .bool ((a0.Source.Size == a1.Source.Size) && ((eqA 16 a0.Source.B a1.Source.B) && true)))] (by kernel_rfl) fun a ha => ?_
    obtain rfl := Option.some.inj H
    exact J13 _ _ (ha.sel (by kernel_rfl)) hC hM
  ·have ha := ha.lit hb15
   have H := ite_f hb15 H
   refine sgh ha 13 [1, 1, 1, 1, 1, 1, 1, 1, 1, 1, 1, 4, 0] [(4, .bool false)] (by kernel_rfl) fun a ha => ?_
   obtain rfl := Option.some.inj H
   exact J13 _ _ (ha.sel (by kernel_rfl)) hC hM
 ·have ha := ha.lit hb14
  have H := ite_f hb14 H
  refine sgh ha 20 [1, 1, 1, 1, 1, 4, 0, 1, 1, 1, 1, 1, 1, 1, 1, 1, 1, 1, 4, 0] [(4, .bool false)] (by kernel_rfl) fun a ha => ?_
  obtain rfl := Option.some.inj H
  exact J13 _ _ (ha.sel (by kernel_rfl)) hC hM
def joins_Ifaces_1.f (a0 : S_api_Join) (a1 : S_api_Flow) : Option (Bool) := (joins_asks.f a0 a1).bind fun t8 => some ((t8 : Bool))
set_option maxRecDepth 100000 in
theorem joins_Ifaces_1.walk (w : World) (M : List Nat) (hM : MS M w) (a0 : S_api_Join) (gp1 : Nat) (a1 : S_api_Flow) (hBgp1 : Box w gp1 (cS_api_Flow a1)) (hg_gp1 : gp1 ∈ M) (r : Bool) (H : joins_Ifaces_1.f a0 a1 = some r) :
    To Tryz.prog 26 [.agg (cS_api_Join a0).toArray, .pointer (some ⟨gp1, 0, none⟩)] w fun v w' => v = .bool r ∧ Chg [] w w' ∧ MS (M) w' := by
 unfold joins_Ifaces_1.f at H
 refine ent Tryz.func26 rfl [(0, .agg (cS_api_Join a0).toArray), (1, .pointer (some ⟨gp1, 0, none⟩))] rfl (by rfl) fun a ha => ?_
 have hC : Chg [] w w := Chg.refl _ _
 refine wp_seq_k fun K1 hK1 => ?_
 refine wp_region_lit ?_
 refine bx (cs := (cS_api_Join a0)) ha rfl rfl rfl rfl rfl fun a w2 g3 hN4 ha => ?_
 have hn6 := hN4.notin hM
 have hBgp1 := hBgp1.chg hN4.chg (fun h => nomatch h)
 have hM : MS (M) w2 := (hM.chg hN4.chg)
 have hC := hC.trans hN4.chg (Ok.nil _ _)
 have hE5 : ∀ j v, (cS_api_Join a0)[j]? = some v → w2.cell? ⟨g3, 0 + j, none⟩ = some v := Box.cells (New.box hN4)
 refine seg ha 1 [(1, .pointer (some ⟨gp1, 0, none⟩)), (2, .pointer (some ⟨g3, 0, none⟩))] (by kernel_rfl) fun a ha => ?_
 refine hK1 _ _ ?_; try clear hK1 K1
 refine wp_seq_k fun K7 hK7 => ?_
 refine wp_region_lit ?_
 refine ldA (cs := (cS_api_Join a0)) ha rfl (by kernel_rfl) rfl rfl rfl (cells_sub hE5 (all := (cS_api_Join a0)) [] [] (by kernel_rfl)) fun a ha => ?_
 refine ldA (cs := (cS_api_Flow a1)) ha rfl (by kernel_rfl) rfl rfl rfl (cells_sub (Box.cells hBgp1) (all := (cS_api_Flow a1)) [] [] (by kernel_rfl)) fun a ha => ?_
 obtain ⟨t8, H8, H⟩ := bind_some H
 refine cl ha (by rfl) (by kernel_rfl) (by rfl) (by rfl) (by rfl) (joins_asks.walk w2 _ hM a0 a1 _ H8) ?_
 rintro _ w8 ⟨rfl, hc8, hMn⟩ a ha
 have hBgp1 := hBgp1.chg hc8 (fun h => nomatch h)
 have hM : MS (M) w8 := (hM.chg hc8)
 have hC := hC.trans hc8 (Ok.nil _ _)
 refine seg ha 1 [(3, .bool t8)] (by kernel_rfl) fun a ha => ?_
 refine hK7 _ _ ?_; try clear hK7 K7
 refine wp_ret ?_
 try simp only [Exit.then, Exit.inBlock]
 obtain rfl := Option.some.inj H
 refine rt1 ha rfl rfl ?_
 exact ⟨rfl, hC, hM⟩
def joins_Ifaces_2.f (a0 : S_api_Join) : Option (List UInt8) := some ((a0.Iface : List UInt8))
set_option maxRecDepth 100000 in
theorem joins_Ifaces_2.walk (w : World) (M : List Nat) (hM : MS M w) (a0 : S_api_Join) (r : List UInt8) (H : joins_Ifaces_2.f a0 = some r) :
    To Tryz.prog 28 [.agg (cS_api_Join a0).toArray] w fun v w' => v = .string (bstr r) ∧ Chg [] w w' ∧ MS (M) w' := by
 unfold joins_Ifaces_2.f at H
 refine ent Tryz.func28 rfl [(0, .agg (cS_api_Join a0).toArray)] rfl (by rfl) fun a ha => ?_
 have hC : Chg [] w w := Chg.refl _ _
 refine wp_seq_k fun K1 hK1 => ?_
 refine wp_region_lit ?_
 refine bx (cs := (cS_api_Join a0)) ha rfl rfl rfl rfl rfl fun a w2 g3 hN4 ha => ?_
 have hn6 := hN4.notin hM
 have hM : MS (M) w2 := (hM.chg hN4.chg)
 have hC := hC.trans hN4.chg (Ok.nil _ _)
 have hE5 : ∀ j v, (cS_api_Join a0)[j]? = some v → w2.cell? ⟨g3, 0 + j, none⟩ = some v := Box.cells (New.box hN4)
 refine seg ha 1 [(1, .pointer (some ⟨g3, 0, none⟩))] (by kernel_rfl) fun a ha => ?_
 refine hK1 _ _ ?_; try clear hK1 K1
 refine wp_seq_k fun K7 hK7 => ?_
 refine wp_region_lit ?_
 refine seg ha 1 [(3, .pointer (some ⟨g3, 0 + 1, none⟩))] (by kernel_rfl) fun a ha => ?_
 refine ld ha rfl (by kernel_rfl) rfl rfl rfl (hE5 1 (.string (bstr a0.Iface)) (by kernel_rfl)) fun a ha => ?_
 refine seg ha 1 [(2, .string (bstr a0.Iface))] (by kernel_rfl) fun a ha => ?_
 refine hK7 _ _ ?_; try clear hK7 K7
 refine wp_ret ?_
 try simp only [Exit.then, Exit.inBlock]
 obtain rfl := Option.some.inj H
 refine rt1 ha rfl rfl ?_
 exact ⟨rfl, hC, hM⟩
end Go.E
