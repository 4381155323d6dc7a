/- What the functions that the law reaches compute, and the walks that show it. -/
import Derived.Test.YtoeenagdbjppgaaDoorEngO
import Derived.Test.YtoeenagdbjppgaaDoorProg
set_option linter.unusedVariables false
set_option linter.unusedSimpArgs false
namespace Go.E
open Go.RowKit Go.Proofs
structure S_api_Addr where
  Size : Int
  B : List Int
  deriving DecidableEq, Inhabited
def cS_api_Addr (x : S_api_Addr) : List Value := ([.int .i64 x.Size] : List Value) ++ (cA .u8 16 x.B)
def rS_api_Addr : Rep S_api_Addr := rIso (fun x : S_api_Addr => (x.Size, x.B)) (rPair (rInt .i64) (rArr .u8 16))
theorem rS_api_Addr.open {w : World} {M : List Nat} {cs : List Value} {x : S_api_Addr} (h : rS_api_Addr.R w M cs x) : cs = cS_api_Addr x := by
  obtain ⟨c0, k0, e0, h0, h1⟩ := h
  obtain rfl := h0
  obtain rfl := h1
  subst e0
  exact rfl
theorem rS_api_Addr.mk {w : World} {M : List Nat} (x : S_api_Addr) : rS_api_Addr.R w M (cS_api_Addr x) x := ⟨_, _, rfl, rfl, rfl⟩
def okS_api_Addr (x : S_api_Addr) : Prop := (okI .i64) x.Size ∧ (okA .u8 16) x.B
structure S_api_Tunnel where
  Leaf : Bool
  Kind : Int
  Label : Int
  Root : S_api_Addr
  Id : List Int
  deriving DecidableEq, Inhabited
def cS_api_Tunnel (x : S_api_Tunnel) (ao1 : Option Addr) (cap1 : Nat) : List Value := ([.bool x.Leaf] : List Value) ++ (([.int .i64 x.Kind] : List Value) ++ (([.int .i64 x.Label] : List Value) ++ (cS_api_Addr x.Root ++ (([.slice ao1 x.Id.length cap1] : List Value)))))
def rS_api_Tunnel : Rep S_api_Tunnel := rIso (fun x : S_api_Tunnel => (x.Leaf, (x.Kind, (x.Label, (x.Root, x.Id))))) (rPair rBool (rPair (rInt .i64) (rPair (rInt .i64) (rPair rS_api_Addr (rSl 5 (rInt .u8))))))
theorem rS_api_Tunnel.open {w : World} {M : List Nat} {cs : List Value} {x : S_api_Tunnel} (h : rS_api_Tunnel.R w M cs x) : ∃ (ao1 : Option Addr) (cap1 : Nat), cs = cS_api_Tunnel x ao1 cap1 ∧ RSl (rInt .u8) 5 w M ao1 cap1 x.Id := by
  obtain ⟨c0, k0, e0, h0, ⟨c1, k1, e1, h1, ⟨c2, k2, e2, h2, ⟨c3, k3, e3, h3, h4⟩⟩⟩⟩ := h
  have h3 := rS_api_Addr.open h3
  obtain rfl := h0
  obtain rfl := h1
  obtain rfl := h2
  obtain rfl := h3
  obtain ⟨ao1, cap1, rfl, f1⟩ := h4
  subst e3
  subst e2
  subst e1
  subst e0
  exact ⟨ao1, cap1, rfl, f1⟩
theorem rS_api_Tunnel.mk {w : World} {M : List Nat} (x : S_api_Tunnel) {ao1 : Option Addr} {cap1 : Nat} (f1 : RSl (rInt .u8) 5 w M ao1 cap1 x.Id) : rS_api_Tunnel.R w M (cS_api_Tunnel x ao1 cap1) x := ⟨_, _, rfl, rfl, ⟨_, _, rfl, rfl, ⟨_, _, rfl, rfl, ⟨_, _, rfl, (rS_api_Addr.mk x.Root), ⟨ao1, cap1, rfl, f1⟩⟩⟩⟩⟩
def okS_api_Tunnel (x : S_api_Tunnel) : Prop := okB x.Leaf ∧ (okI .i64) x.Kind ∧ (okI .i64) x.Label ∧ (okS_api_Addr) x.Root ∧ (okL 1 (okI .u8)) x.Id
structure S_cursor_rest where
  left : List Int
  bad : Bool
  deriving DecidableEq, Inhabited
def cS_cursor_rest (x : S_cursor_rest) (ao1 : Option Addr) (cap1 : Nat) : List Value := ([.slice ao1 x.left.length cap1] : List Value) ++ (([.bool x.bad] : List Value))
def rS_cursor_rest : Rep S_cursor_rest := rIso (fun x : S_cursor_rest => (x.left, x.bad)) (rPair (rSl 5 (rInt .u8)) rBool)
theorem rS_cursor_rest.open {w : World} {M : List Nat} {cs : List Value} {x : S_cursor_rest} (h : rS_cursor_rest.R w M cs x) : ∃ (ao1 : Option Addr) (cap1 : Nat), cs = cS_cursor_rest x ao1 cap1 ∧ RSl (rInt .u8) 5 w M ao1 cap1 x.left := by
  obtain ⟨c0, k0, e0, h0, h1⟩ := h
  obtain ⟨ao1, cap1, rfl, f1⟩ := h0
  obtain rfl := h1
  subst e0
  exact ⟨ao1, cap1, rfl, f1⟩
theorem rS_cursor_rest.mk {w : World} {M : List Nat} (x : S_cursor_rest) {ao1 : Option Addr} {cap1 : Nat} (f1 : RSl (rInt .u8) 5 w M ao1 cap1 x.left) : rS_cursor_rest.R w M (cS_cursor_rest x ao1 cap1) x := ⟨_, _, rfl, ⟨ao1, cap1, rfl, f1⟩, rfl⟩
def okS_cursor_rest (x : S_cursor_rest) : Prop := (okL 1 (okI .u8)) x.left ∧ okB x.bad
structure S_cursor_Reader where
  rest : S_cursor_rest
  deriving DecidableEq, Inhabited
def cS_cursor_Reader (x : S_cursor_Reader) (ao1 : Option Addr) (cap1 : Nat) : List Value := cS_cursor_rest x.rest ao1 cap1
def rS_cursor_Reader : Rep S_cursor_Reader := rIso (fun x : S_cursor_Reader => x.rest) rS_cursor_rest
theorem rS_cursor_Reader.open {w : World} {M : List Nat} {cs : List Value} {x : S_cursor_Reader} (h : rS_cursor_Reader.R w M cs x) : ∃ (ao1 : Option Addr) (cap1 : Nat), cs = cS_cursor_Reader x ao1 cap1 ∧ RSl (rInt .u8) 5 w M ao1 cap1 x.rest.left := by
  have h0 := h
  have h0 := rS_cursor_rest.open h0
  obtain ⟨ao1, cap1, rfl, f1⟩ := h0
  exact ⟨ao1, cap1, rfl, f1⟩
theorem rS_cursor_Reader.mk {w : World} {M : List Nat} (x : S_cursor_Reader) {ao1 : Option Addr} {cap1 : Nat} (f1 : RSl (rInt .u8) 5 w M ao1 cap1 x.rest.left) : rS_cursor_Reader.R w M (cS_cursor_Reader x ao1 cap1) x := (rS_cursor_rest.mk x.rest f1)
def okS_cursor_Reader (x : S_cursor_Reader) : Prop := (okS_cursor_rest) x.rest
structure S_vineryref01_Reader where
  B : List Int
  At : Int
  No : Bool
  deriving DecidableEq, Inhabited
def cS_vineryref01_Reader (x : S_vineryref01_Reader) (ao1 : Option Addr) (cap1 : Nat) : List Value := ([.slice ao1 x.B.length cap1] : List Value) ++ (([.int .i64 x.At] : List Value) ++ (([.bool x.No] : List Value)))
def rS_vineryref01_Reader : Rep S_vineryref01_Reader := rIso (fun x : S_vineryref01_Reader => (x.B, (x.At, x.No))) (rPair (rSl 5 (rInt .u8)) (rPair (rInt .i64) rBool))
theorem rS_vineryref01_Reader.open {w : World} {M : List Nat} {cs : List Value} {x : S_vineryref01_Reader} (h : rS_vineryref01_Reader.R w M cs x) : ∃ (ao1 : Option Addr) (cap1 : Nat), cs = cS_vineryref01_Reader x ao1 cap1 ∧ RSl (rInt .u8) 5 w M ao1 cap1 x.B := by
  obtain ⟨c0, k0, e0, h0, ⟨c1, k1, e1, h1, h2⟩⟩ := h
  obtain ⟨ao1, cap1, rfl, f1⟩ := h0
  obtain rfl := h1
  obtain rfl := h2
  subst e1
  subst e0
  exact ⟨ao1, cap1, rfl, f1⟩
theorem rS_vineryref01_Reader.mk {w : World} {M : List Nat} (x : S_vineryref01_Reader) {ao1 : Option Addr} {cap1 : Nat} (f1 : RSl (rInt .u8) 5 w M ao1 cap1 x.B) : rS_vineryref01_Reader.R w M (cS_vineryref01_Reader x ao1 cap1) x := ⟨_, _, rfl, ⟨ao1, cap1, rfl, f1⟩, ⟨_, _, rfl, rfl, rfl⟩⟩
def okS_vineryref01_Reader (x : S_vineryref01_Reader) : Prop := (okL 1 (okI .u8)) x.B ∧ (okI .i64) x.At ∧ okB x.No
def bytes_trimRightByte.l0 (a1 : Int) : Nat → (List Int) → Option (List Int)
  | 0, _ => none
  | kk + 1, x6 => ((if (decide ((x6.length : Int) > (0 : Int))) = true then (if 0 ≤ (IntKind.i64.wrap ((x6.length : Int) - (1 : Int))) ∧ (IntKind.i64.wrap ((x6.length : Int) - (1 : Int))) < (x6.length : Int) then some ((rd x6 (IntKind.i64.wrap ((x6.length : Int) - (1 : Int)))) == a1 : Bool) else none) else some (false : Bool))).bind fun s11 => (if s11 = true then (if 0 ≤ (0 : Int) ∧ (0 : Int) ≤ (IntKind.i64.wrap ((x6.length : Int) - (1 : Int))) ∧ (IntKind.i64.wrap ((x6.length : Int) - (1 : Int))) ≤ (x6.length : Int) then bytes_trimRightByte.l0 a1 kk ((x6.take (Int.toNat (IntKind.i64.wrap ((x6.length : Int) - (1 : Int))))).drop (Int.toNat (0 : Int))) else none) else some (x6 : List Int))
def bytes_trimRightByte.f (k : Nat) (a0 : List Int) (a1 : Int) : Option (List Int) := (bytes_trimRightByte.l0 a1 k a0).bind fun s4 => some ((s4 : List Int))
set_option maxRecDepth 100000 in
theorem bytes_trimRightByte.walk (w : World) (M : List Nat) (hM : MS M w) (a0 : List Int) (ao1 : Option Addr) (cap1 : Nat) (f1 : RSl (rInt .u8) 5 w M ao1 cap1 a0) (a1 : Int) (k : Nat) (r : List Int) (H : bytes_trimRightByte.f k a0 a1 = some r) :
    To Tryd.prog 104 [.slice ao1 a0.length cap1, .int .u8 a1] w fun v w' => ∃ (ao23 : Option Addr) (cap23 : Nat), v = .slice ao23 r.length cap23 ∧ (RSl (rInt .u8) 5 w' (M) ao23 cap23 r) ∧ Chg [] w w' ∧ MS (M) w' := by
 unfold bytes_trimRightByte.f at H
 refine ent Tryd.func104 rfl [(0, .slice ao1 a0.length cap1), (1, .int .u8 a1)] rfl (by rfl) fun a ha => ?_
 have hC : Chg [] w w := Chg.refl _ _
 refine wp_seq_k fun K2 hK2 => ?_
 refine wp_region_lit ?_
 refine seg ha 1 [(0, .slice ao1 a0.length cap1), (1, .int .u8 a1)] (by kernel_rfl) fun a ha => ?_
 refine hK2 _ _ ?_; try clear hK2 K2
 refine wp_seq_k fun K3 hK3 => ?_
 refine wp_block ?_
 obtain ⟨s4, H4, H⟩ := bind_some H
 have J4 : ∀ (a : Act) (wx4 : World) (ao7 : Option Addr) (cap7 : Nat), Has a Tryd.f104.ntmps [(0, .slice ao7 s4.length cap7)] → (RSl (rInt .u8) 5 wx4 (M) ao7 cap7 s4) → (Chg [] w wx4) → (MS (M) wx4) → K3 a wx4 := by
  intro a wx4 ao7 cap7 ha f7 hC hM
  refine hK3 _ _ ?_; try clear hK3 K3
  refine wp_seq_k fun K8 hK8 => ?_
  refine wp_region_lit ?_
  refine seg ha 2 [(4, .slice ao7 s4.length cap7)] (by kernel_rfl) fun a ha => ?_
  refine hK8 _ _ ?_; try clear hK8 K8
  refine wp_ret ?_
  try simp only [Exit.then, Exit.inBlock]
  obtain rfl := Option.some.inj H
  refine rt1 ha rfl rfl ?_
  exact ⟨ao7, cap7, rfl, f7, hC, hM⟩
 have Hc4 := H
 have H := H4
 refine wp_loop_ghost (fun kk a w4 => ∃ (x6 : List Int) (ao5 : Option Addr) (cap5 : Nat), bytes_trimRightByte.l0 a1 kk x6 = some s4 ∧ Has a Tryd.f104.ntmps [(0, .slice ao5 x6.length cap5), (1, .int .u8 a1)] ∧ (RSl (rInt .u8) 5 w4 (M) ao5 cap5 x6) ∧ (Chg [] w w4) ∧ (MS (M) w4)) k ?_ ?_
 ·skip
  exact ⟨a0, ao1, cap1, H, (ha.sel (by kernel_rfl)), f1, hC, hM⟩
 ·rintro kk a w4 ⟨x6, ao5, cap5, H, ha, f5, hC, hM⟩
  obtain _ | kk := kk
  ·exact nomatch (show none = some _ from H)
  rw [bytes_trimRightByte.l0] at H
  refine wp_seq_k fun K9 hK9 => ?_
  refine wp_seq_k fun K10 hK10 => ?_
  refine wp_region_lit ?_
  obtain ⟨s11, H11, H⟩ := bind_some H
  have J11 : ∀ (a : Act) (w11 : World), Has a Tryd.f104.ntmps [(0, .slice ao5 x6.length cap5), (1, .int .u8 a1), (17, .bool s11)] → (RSl (rInt .u8) 5 w11 (M) ao5 cap5 x6) → (Chg [] w w11) → (MS (M) w11) → K10 a w11 := by
   intro a w11 ha f5 hC hM
   refine hK10 _ _ ?_; try clear hK10 K10
   refine cnd ha rfl (fun hc12 => ?_) (fun hc12 => ?_)
   ·have H := ite_t hc12 H
    refine wp_skip ?_
    refine hK9 _ _ ?_; try clear hK9 K9
    refine wp_block ?_
    refine wp_region_lit ?_
    refine seg ha 4 [(1, .int .u8 a1), (18, .slice ao5 x6.length cap5), (21, .int .i64 (IntKind.i64.wrap ((x6.length : Int) - (1 : Int))))] (by kernel_rfl) fun a ha => ?_
    obtain ⟨⟨hx13, hx13', hx13''⟩, H⟩ := ite_some H
    refine slc (r := (rInt .u8)) (l := (0 : Int)) (h := (IntKind.i64.wrap ((x6.length : Int) - (1 : Int)))) ha (by kernel_rfl) (by kernel_rfl) rfl rfl rfl rfl rfl rfl f5 hx13 hx13' hx13'' fun a ao14 cap14 f14 ha => ?_
    refine seg ha 1 [(0, .slice ao14 ((x6.take (Int.toNat (IntKind.i64.wrap ((x6.length : Int) - (1 : Int))))).drop (Int.toNat (0 : Int))).length cap14), (1, .int .u8 a1)] (by kernel_rfl) fun a ha => ?_
    exact ⟨kk, Nat.lt_succ_self _, ⟨((x6.take (Int.toNat (IntKind.i64.wrap ((x6.length : Int) - (1 : Int))))).drop (Int.toNat (0 : Int))), ao14, cap14, H, (ha.sel (by kernel_rfl)), f14, hC, hM⟩⟩
   ·have H := ite_f hc12 H
    refine wp_exit ?_
    simp only [Exit.then, Exit.inBlock, ↓reduceIte, Nat.reduceEqDiff]
    obtain rfl := Option.some.inj H
    exact J4 _ _ ao5 cap5 (ha.sel (by kernel_rfl)) f5 hC hM
  have H := H11
  refine seg ha 4 [(8, .bool (decide ((x6.length : Int) > (0 : Int)))), (0, .slice ao5 x6.length cap5), (1, .int .u8 a1)] (by kernel_rfl) fun a ha => ?_
  rcases Bool.eq_false_or_eq_true (decide ((x6.length : Int) > (0 : Int))) with hb15 | hb15
  ·have ha := ha.lit hb15
   have H := ite_t hb15 H
   refine sgh ha 4 [2, 2, 2, 2] [(0, .slice ao5 x6.length cap5), (1, .int .u8 a1), (8, .bool true), (9, .slice ao5 x6.length cap5), (12, .int .i64 (IntKind.i64.wrap ((x6.length : Int) - (1 : Int))))] (by kernel_rfl) fun a ha => ?_
   obtain ⟨⟨hx16, hx16'⟩, H⟩ := ite_some H
   refine ix (r := (rInt .u8)) ha (by kernel_rfl) (by kernel_rfl) rfl rfl rfl rfl rfl f5 hx16 hx16' fun a ge17 oe18 cs19 hn22 hR20 hE21 ha => ?_
   rw [rd_get] at hR20
   obtain rfl := hR20
   have hE21 : ∀ j v, ([.int .u8 (rd x6 (IntKind.i64.wrap ((x6.length : Int) - (1 : Int))))] : List Value)[j]? = some v → w4.cell? ⟨ge17, oe18 + j, none⟩ = some v := hE21
   refine ld ha rfl (by kernel_rfl) rfl rfl rfl (hE21 0 (.int .u8 (rd x6 (IntKind.i64.wrap ((x6.length : Int) - (1 : Int))))) (by kernel_rfl)) fun a ha => ?_
   refine sgh ha 3 [2, 2, 3] [(0, .slice ao5 x6.length cap5), (1, .int .u8 a1), (17, .bool ((rd x6 (IntKind.i64.wrap ((x6.length : Int) - (1 : Int)))) == a1))] (by kernel_rfl) fun a ha => ?_
   obtain rfl := Option.some.inj H
   exact J11 _ _ (ha.sel (by kernel_rfl)) f5 hC hM
  ·have ha := ha.lit hb15
   have H := ite_f hb15 H
   refine sgh ha 9 [1, 1, 1, 1, 1, 1, 1, 1, 4] [(0, .slice ao5 x6.length cap5), (1, .int .u8 a1), (17, .bool false)] (by kernel_rfl) fun a ha => ?_
   obtain rfl := Option.some.inj H
   exact J11 _ _ (ha.sel (by kernel_rfl)) f5 hC hM
def bytes_trimLeftByte.l0 (a1 : Int) : Nat → (List Int) → Option (List Int)
  | 0, _ => none
  | kk + 1, x6 => ((if (decide ((x6.length : Int) > (0 : Int))) = true then (if 0 ≤ (0 : Int) ∧ (0 : Int) < (x6.length : Int) then some ((rd x6 (0 : Int)) == a1 : Bool) else none) else some (false : Bool))).bind fun s15 => (if s15 = true then (if 0 ≤ (1 : Int) ∧ (1 : Int) ≤ (x6.length : Int) ∧ (x6.length : Int) ≤ (x6.length : Int) then bytes_trimLeftByte.l0 a1 kk ((x6.take (Int.toNat (x6.length : Int))).drop (Int.toNat (1 : Int))) else none) else some (x6 : List Int))
def bytes_trimLeftByte.f (k : Nat) (a0 : List Int) (a1 : Int) : Option (List Int) := (bytes_trimLeftByte.l0 a1 k a0).bind fun s4 => (if ((s4.length : Int) == (0 : Int)) = true then some ((([] : List Int) : List Int)) else some ((s4 : List Int)))
set_option maxRecDepth 100000 in
theorem bytes_trimLeftByte.walk (w : World) (M : List Nat) (hM : MS M w) (a0 : List Int) (ao1 : Option Addr) (cap1 : Nat) (f1 : RSl (rInt .u8) 5 w M ao1 cap1 a0) (a1 : Int) (k : Nat) (r : List Int) (H : bytes_trimLeftByte.f k a0 a1 = some r) :
    To Tryd.prog 103 [.slice ao1 a0.length cap1, .int .u8 a1] w fun v w' => ∃ (ao27 : Option Addr) (cap27 : Nat), v = .slice ao27 r.length cap27 ∧ (RSl (rInt .u8) 5 w' (M) ao27 cap27 r) ∧ Chg [] w w' ∧ MS (M) w' := by
 unfold bytes_trimLeftByte.f at H
 refine ent Tryd.func103 rfl [(0, .slice ao1 a0.length cap1), (1, .int .u8 a1)] rfl (by rfl) fun a ha => ?_
 have hC : Chg [] w w := Chg.refl _ _
 refine wp_seq_k fun K2 hK2 => ?_
 refine wp_region_lit ?_
 refine seg ha 1 [(0, .slice ao1 a0.length cap1), (1, .int .u8 a1)] (by kernel_rfl) fun a ha => ?_
 refine hK2 _ _ ?_; try clear hK2 K2
 refine wp_seq_k fun K3 hK3 => ?_
 refine wp_block ?_
 obtain ⟨s4, H4, H⟩ := bind_some H
 have J4 : ∀ (a : Act) (wx4 : World) (ao7 : Option Addr) (cap7 : Nat), Has a Tryd.f103.ntmps [(0, .slice ao7 s4.length cap7)] → (RSl (rInt .u8) 5 wx4 (M) ao7 cap7 s4) → (Chg [] w wx4) → (MS (M) wx4) → K3 a wx4 := by
  intro a wx4 ao7 cap7 ha f7 hC hM
  refine hK3 _ _ ?_; try clear hK3 K3
  refine wp_seq_k fun K8 hK8 => ?_
  refine wp_seq_k fun K9 hK9 => ?_
  refine wp_region_lit ?_
  refine seg ha 3 [(0, .slice ao7 s4.length cap7), (19, .bool ((s4.length : Int) == (0 : Int)))] (by kernel_rfl) fun a ha => ?_
  refine hK9 _ _ ?_; try clear hK9 K9
  refine cnd ha rfl (fun hc10 => ?_) (fun hc10 => ?_)
  ·have H := ite_t hc10 H
   refine wp_seq_k fun K11 hK11 => ?_
   refine wp_region_lit ?_
   refine seg ha 1 [(4, .slice none 0 0)] (by kernel_rfl) fun a ha => ?_
   refine hK11 _ _ ?_; try clear hK11 K11
   refine wp_ret ?_
   try simp only [Exit.then, Exit.inBlock]
   obtain rfl := Option.some.inj H
   refine rt1 ha rfl rfl ?_
   exact ⟨none, 0, rfl, (RSl.nil (Nat.zero_le _)), hC, hM⟩
  ·have H := ite_f hc10 H
   refine wp_skip ?_
   refine hK8 _ _ ?_; try clear hK8 K8
   refine wp_seq_k fun K12 hK12 => ?_
   refine wp_region_lit ?_
   refine seg ha 2 [(4, .slice ao7 s4.length cap7)] (by kernel_rfl) fun a ha => ?_
   refine hK12 _ _ ?_; try clear hK12 K12
   refine wp_ret ?_
   try simp only [Exit.then, Exit.inBlock]
   obtain rfl := Option.some.inj H
   refine rt1 ha rfl rfl ?_
   exact ⟨ao7, cap7, rfl, f7, hC, hM⟩
 have Hc4 := H
 have H := H4
 refine wp_loop_ghost (fun kk a w4 => ∃ (x6 : List Int) (ao5 : Option Addr) (cap5 : Nat), bytes_trimLeftByte.l0 a1 kk x6 = some s4 ∧ Has a Tryd.f103.ntmps [(0, .slice ao5 x6.length cap5), (1, .int .u8 a1)] ∧ (RSl (rInt .u8) 5 w4 (M) ao5 cap5 x6) ∧ (Chg [] w w4) ∧ (MS (M) w4)) k ?_ ?_
 ·skip
  exact ⟨a0, ao1, cap1, H, (ha.sel (by kernel_rfl)), f1, hC, hM⟩
 ·rintro kk a w4 ⟨x6, ao5, cap5, H, ha, f5, hC, hM⟩
  obtain _ | kk := kk
  ·exact nomatch (show none = some _ from H)
  rw [bytes_trimLeftByte.l0] at H
  refine wp_seq_k fun K13 hK13 => ?_
  refine wp_seq_k fun K14 hK14 => ?_
  refine wp_region_lit ?_
  obtain ⟨s15, H15, H⟩ := bind_some H
  have J15 : ∀ (a : Act) (w15 : World), Has a Tryd.f103.ntmps [(0, .slice ao5 x6.length cap5), (1, .int .u8 a1), (14, .bool s15)] → (RSl (rInt .u8) 5 w15 (M) ao5 cap5 x6) → (Chg [] w w15) → (MS (M) w15) → K14 a w15 := by
   intro a w15 ha f5 hC hM
   refine hK14 _ _ ?_; try clear hK14 K14
   refine cnd ha rfl (fun hc16 => ?_) (fun hc16 => ?_)
   ·have H := ite_t hc16 H
    refine wp_skip ?_
    refine hK13 _ _ ?_; try clear hK13 K13
    refine wp_block ?_
    refine wp_region_lit ?_
    refine seg ha 1 [(1, .int .u8 a1), (15, .slice ao5 x6.length cap5)] (by kernel_rfl) fun a ha => ?_
    obtain ⟨⟨hx17, hx17', hx17''⟩, H⟩ := ite_some H
    refine slc (r := (rInt .u8)) (l := (1 : Int)) (h := (x6.length : Int)) ha (by kernel_rfl) (by kernel_rfl) rfl rfl rfl rfl rfl rfl f5 hx17 hx17' hx17'' fun a ao18 cap18 f18 ha => ?_
    refine seg ha 1 [(0, .slice ao18 ((x6.take (Int.toNat (x6.length : Int))).drop (Int.toNat (1 : Int))).length cap18), (1, .int .u8 a1)] (by kernel_rfl) fun a ha => ?_
    exact ⟨kk, Nat.lt_succ_self _, ⟨((x6.take (Int.toNat (x6.length : Int))).drop (Int.toNat (1 : Int))), ao18, cap18, H, (ha.sel (by kernel_rfl)), f18, hC, hM⟩⟩
   ·have H := ite_f hc16 H
    refine wp_exit ?_
    simp only [Exit.then, Exit.inBlock, ↓reduceIte, Nat.reduceEqDiff]
    obtain rfl := Option.some.inj H
    exact J4 _ _ ao5 cap5 (ha.sel (by kernel_rfl)) f5 hC hM
  have H := H15
  refine seg ha 4 [(8, .bool (decide ((x6.length : Int) > (0 : Int)))), (0, .slice ao5 x6.length cap5), (1, .int .u8 a1)] (by kernel_rfl) fun a ha => ?_
  rcases Bool.eq_false_or_eq_true (decide ((x6.length : Int) > (0 : Int))) with hb19 | hb19
  ·have ha := ha.lit hb19
   have H := ite_t hb19 H
   refine sgh ha 1 [2] [(0, .slice ao5 x6.length cap5), (1, .int .u8 a1), (8, .bool true), (9, .slice ao5 x6.length cap5)] (by kernel_rfl) fun a ha => ?_
   obtain ⟨⟨hx20, hx20'⟩, H⟩ := ite_some H
   refine ix (r := (rInt .u8)) ha (by kernel_rfl) (by kernel_rfl) rfl rfl rfl rfl rfl f5 hx20 hx20' fun a ge21 oe22 cs23 hn26 hR24 hE25 ha => ?_
   rw [rd_get] at hR24
   obtain rfl := hR24
   have hE25 : ∀ j v, ([.int .u8 (rd x6 (0 : Int))] : List Value)[j]? = some v → w4.cell? ⟨ge21, oe22 + j, none⟩ = some v := hE25
   refine ld ha rfl (by kernel_rfl) rfl rfl rfl (hE25 0 (.int .u8 (rd x6 (0 : Int))) (by kernel_rfl)) fun a ha => ?_
   refine sgh ha 3 [2, 2, 3] [(0, .slice ao5 x6.length cap5), (1, .int .u8 a1), (14, .bool ((rd x6 (0 : Int)) == a1))] (by kernel_rfl) fun a ha => ?_
   obtain rfl := Option.some.inj H
   exact J15 _ _ (ha.sel (by kernel_rfl)) f5 hC hM
  ·have ha := ha.lit hb19
   have H := ite_f hb19 H
   refine sgh ha 6 [1, 1, 1, 1, 1, 4] [(0, .slice ao5 x6.length cap5), (1, .int .u8 a1), (14, .bool false)] (by kernel_rfl) fun a ha => ?_
   obtain rfl := Option.some.inj H
   exact J15 _ _ (ha.sel (by kernel_rfl)) f5 hC hM
def bytes_Trim.f (k : Nat) (a0 : List Int) (a1 : List UInt8) : Option (List Int) := (if ((a0.length : Int) == (0 : Int)) = true then some ((([] : List Int) : List Int)) else (if ((bstr a1).toList == (bstr ([] : List UInt8)).toList) = true then some ((a0 : List Int)) else ((if (((bstr a1).size : Int) == (1 : Int)) = true then (if 0 ≤ (0 : Int) ∧ (0 : Int) < (a1.length : Int) then some (decide (((a1.getD (Int.toNat (0 : Int)) 0).toNat : Int) < (128 : Int)) : Bool) else none) else some (false : Bool))).bind fun s13 => (if s13 = true then (if 0 ≤ (0 : Int) ∧ (0 : Int) < (a1.length : Int) then (if 0 ≤ (0 : Int) ∧ (0 : Int) < (a1.length : Int) then (bytes_trimRightByte.f k a0 ((a1.getD (Int.toNat (0 : Int)) 0).toNat : Int)).bind fun t21 => (bytes_trimLeftByte.f k t21 ((a1.getD (Int.toNat (0 : Int)) 0).toNat : Int)).bind fun t24 => some ((t24 : List Int)) else none) else none) else none)))
set_option maxRecDepth 100000 in
theorem bytes_Trim.walk (w : World) (M : List Nat) (hM : MS M w) (a0 : List Int) (ao1 : Option Addr) (cap1 : Nat) (f1 : RSl (rInt .u8) 5 w M ao1 cap1 a0) (a1 : List UInt8) (k : Nat) (r : List Int) (H : bytes_Trim.f k a0 a1 = some r) :
    To Tryd.prog 90 [.slice ao1 a0.length cap1, .string (bstr a1)] w fun v w' => ∃ (ao28 : Option Addr) (cap28 : Nat), v = .slice ao28 r.length cap28 ∧ (RSl (rInt .u8) 5 w' (M) ao28 cap28 r) ∧ Chg [] w w' ∧ MS (M) w' := by
 unfold bytes_Trim.f at H
 refine ent Tryd.func90 rfl [(0, .slice ao1 a0.length cap1), (1, .string (bstr a1))] rfl (by rfl) fun a ha => ?_
 have hC : Chg [] w w := Chg.refl _ _
 refine wp_seq_k fun K2 hK2 => ?_
 refine wp_region_lit ?_
 refine seg ha 1 [(0, .slice ao1 a0.length cap1), (1, .string (bstr a1))] (by kernel_rfl) fun a ha => ?_
 refine hK2 _ _ ?_; try clear hK2 K2
 refine wp_seq_k fun K3 hK3 => ?_
 refine wp_seq_k fun K4 hK4 => ?_
 refine wp_region_lit ?_
 refine seg ha 3 [(0, .slice ao1 a0.length cap1), (1, .string (bstr a1)), (9, .bool ((a0.length : Int) == (0 : Int)))] (by kernel_rfl) fun a ha => ?_
 refine hK4 _ _ ?_; try clear hK4 K4
 refine cnd ha rfl (fun hc5 => ?_) (fun hc5 => ?_)
 ·have H := ite_t hc5 H
  refine wp_seq_k fun K6 hK6 => ?_
  refine wp_region_lit ?_
  refine seg ha 1 [(4, .slice none 0 0)] (by kernel_rfl) fun a ha => ?_
  refine hK6 _ _ ?_; try clear hK6 K6
  refine wp_ret ?_
  try simp only [Exit.then, Exit.inBlock]
  obtain rfl := Option.some.inj H
  refine rt1 ha rfl rfl ?_
  exact ⟨none, 0, rfl, (RSl.nil (Nat.zero_le _)), hC, hM⟩
 ·have H := ite_f hc5 H
  refine wp_skip ?_
  refine hK3 _ _ ?_; try clear hK3 K3
  refine wp_seq_k fun K7 hK7 => ?_
  refine wp_seq_k fun K8 hK8 => ?_
  refine wp_region_lit ?_
  refine seg ha 2 [(0, .slice ao1 a0.length cap1), (1, .string (bstr a1)), (11, .bool ((bstr a1).toList == (bstr ([] : List UInt8)).toList))] (by kernel_rfl) fun a ha => ?_
  refine hK8 _ _ ?_; try clear hK8 K8
  refine cnd ha rfl (fun hc9 => ?_) (fun hc9 => ?_)
  ·have H := ite_t hc9 H
   refine wp_seq_k fun K10 hK10 => ?_
   refine wp_region_lit ?_
   refine seg ha 2 [(4, .slice ao1 a0.length cap1)] (by kernel_rfl) fun a ha => ?_
   refine hK10 _ _ ?_; try clear hK10 K10
   refine wp_ret ?_
   try simp only [Exit.then, Exit.inBlock]
   obtain rfl := Option.some.inj H
   refine rt1 ha rfl rfl ?_
   exact ⟨ao1, cap1, rfl, f1, hC, hM⟩
  ·have H := ite_f hc9 H
   refine wp_skip ?_
   refine hK7 _ _ ?_; try clear hK7 K7
   refine wp_seq_k fun K11 hK11 => ?_
   refine wp_seq_k fun K12 hK12 => ?_
   refine wp_region_lit ?_
   obtain ⟨s13, H13, H⟩ := bind_some H
   have J13 : ∀ (a : Act) (w13 : World), Has a Tryd.f90.ntmps [(0, .slice ao1 a0.length cap1), (1, .string (bstr a1)), (20, .bool s13)] → (RSl (rInt .u8) 5 w13 (M) ao1 cap1 a0) → (Chg [] w w13) → (MS (M) w13) → K12 a w13 := by
    intro a w13 ha f1 hC hM
    refine hK12 _ _ ?_; try clear hK12 K12
    refine cnd ha rfl (fun hc14 => ?_) (fun hc14 => ?_)
    ·have H := ite_t hc14 H
     refine wp_seq_k fun K15 hK15 => ?_
     have z_f1 := f1
     have okS : Ok [] (M) w13.heap.size := Ok.nil _ _
     refine drw (fun w' => Chg [] w13 w') (by kernel_rfl) fun w16 hc17 _ => ?_
     have hS : Chg [] w13 w16 := (Chg.refl [] _).trans hc17 (Ok.nil _ _)
     have o1 : Ok [] (M) w13.heap.size := Ok.nil _ _
     have o2 : Ok (M) (M) w13.heap.size := (Ok.refl _ _)
     have f1 := f1.chg hc17 o1 o2
     have hM : MS (M) w16 := (hM.chg hc17)
     have hC := hC.trans hc17 (Ok.nil _ _)
     refine tkpz 0 0 (.slice ao1 a0.length cap1) ha (s := hS) (q := fun a ha => ?_)
     refine tkpz 1 0 (.string (bstr a1)) ha (s := hS) (q := fun a ha => ?_)
     obtain ⟨⟨hx18, hx18'⟩, H⟩ := ite_some H
     refine tkz 2 ha (v := .int .u8 ((a1.getD (Int.toNat (0 : Int)) 0).toNat : Int)) (y := fun w' hs => sidx_run (l := a1) (k := .i64) (i := (0 : Int)) ha (by kernel_rfl) (by rfl) (by rfl) hx18 hx18' w') (s := hS) (q := fun a ha => ?_)
     refine tkpz 4 0 (.string (bstr a1)) ha (s := hS) (q := fun a ha => ?_)
     obtain ⟨⟨hx19, hx19'⟩, H⟩ := ite_some H
     refine tkz 5 ha (v := .int .u8 ((a1.getD (Int.toNat (0 : Int)) 0).toNat : Int)) (y := fun w' hs => sidx_run (l := a1) (k := .i64) (i := (0 : Int)) ha (by kernel_rfl) (by rfl) (by rfl) hx19 hx19' w') (s := hS) (q := fun a ha => ?_)
     refine ac 3 (by kernel_rfl) (by rfl) fun K20 hK20 => ?_
     obtain ⟨t21, H21, H⟩ := bind_some H
     refine cl ha (by rfl) (by kernel_rfl) (by rfl) (by rfl) (by rfl) (bytes_trimRightByte.walk w16 _ hM a0 ao1 cap1 f1 ((a1.getD (Int.toNat (0 : Int)) 0).toNat : Int) k _ H21) ?_
     rintro _ w21 ⟨ao22, cap22, rfl, f22, hc21, hMn⟩ a ha
     have o1 : Ok [] (M) w16.heap.size := Ok.nil _ _
     have o2 : Ok (M) (M) w16.heap.size := (Ok.refl _ _)
     have f1 := f1.chg hc21 o1 o2
     have hM : MS (M) w21 := (hM.chg hc21)
     have hC := hC.trans hc21 (Ok.nil _ _)
     have hS := hS.trans hc21 (Ok.nil _ _)
     refine ae hK20 hS ?_; clear hK20 K20
     refine ac 6 (by kernel_rfl) (by rfl) fun K23 hK23 => ?_
     obtain ⟨t24, H24, H⟩ := bind_some H
     refine cl ha (by rfl) (by kernel_rfl) (by rfl) (by rfl) (by rfl) (bytes_trimLeftByte.walk w21 _ hM t21 ao22 cap22 f22 ((a1.getD (Int.toNat (0 : Int)) 0).toNat : Int) k _ H24) ?_
     rintro _ w24 ⟨ao25, cap25, rfl, f25, hc24, hMn⟩ a ha
     have o1 : Ok [] (M) w21.heap.size := Ok.nil _ _
     have o2 : Ok (M) (M) w21.heap.size := (Ok.refl _ _)
     have f1 := f1.chg hc24 o1 o2
     have f22 := f22.chg hc24 o1 o2
     have hM : MS (M) w24 := (hM.chg hc24)
     have hC := hC.trans hc24 (Ok.nil _ _)
     have hS := hS.trans hc24 (Ok.nil _ _)
     refine ae hK23 hS ?_; clear hK23 K23
     refine tkpz 7 0 (.slice ao25 t24.length cap25) ha (s := hS) (q := fun a ha => ?_)
     refine dn (by kernel_rfl) ?_
     refine hK15 _ _ ?_; try clear hK15 K15
     refine wp_ret ?_
     try simp only [Exit.then, Exit.inBlock]
     obtain rfl := Option.some.inj H
     refine rt1 ha rfl rfl ?_
     exact ⟨ao25, cap25, rfl, f25, hC, hM⟩
    ·have H := ite_f hc14 H
     exact nomatch (show none = some _ from H)
   have H := H13
   refine seg ha 4 [(16, .bool (((bstr a1).size : Int) == (1 : Int))), (0, .slice ao1 a0.length cap1), (1, .string (bstr a1))] (by kernel_rfl) fun a ha => ?_
   rcases Bool.eq_false_or_eq_true (((bstr a1).size : Int) == (1 : Int)) with hb26 | hb26
   ·have ha := ha.lit hb26
    have H := ite_t hb26 H
    refine sgh ha 1 [2] [(0, .slice ao1 a0.length cap1), (1, .string (bstr a1)), (16, .bool true), (17, .string (bstr a1))] (by kernel_rfl) fun a ha => ?_
    obtain ⟨⟨hx27, hx27'⟩, H⟩ := ite_some H
    refine hop (v := .int .u8 ((a1.getD (Int.toNat (0 : Int)) 0).toNat : Int)) (w' := w) ha rfl rfl rfl (sidx_run (l := a1) (k := .i64) (i := (0 : Int)) ha (by kernel_rfl) (by rfl) (by rfl) hx27 hx27' _) fun a ha => ?_
    refine sgh ha 2 [2, 3] [(0, .slice ao1 a0.length cap1), (1, .string (bstr a1)), (20, .bool (decide (((a1.getD (Int.toNat (0 : Int)) 0).toNat : Int) < (128 : Int))))] (by kernel_rfl) fun a ha => ?_
    obtain rfl := Option.some.inj H
    exact J13 _ _ (ha.sel (by kernel_rfl)) f1 hC hM
   ·have ha := ha.lit hb26
    have H := ite_f hb26 H
    refine sgh ha 4 [1, 1, 1, 4] [(0, .slice ao1 a0.length cap1), (1, .string (bstr a1)), (20, .bool false)] (by kernel_rfl) fun a ha => ?_
    obtain rfl := Option.some.inj H
    exact J13 _ _ (ha.sel (by kernel_rfl)) f1 hC hM
def addr_Right.f (k : Nat) (a0 : S_api_Addr) : Option (Bool) := ((if (a0.Size == (0 : Int)) = true then some (a0.Size == (0 : Int) : Bool) else (if (a0.Size == (4 : Int)) = true then some (a0.Size == (4 : Int) : Bool) else some (a0.Size == (16 : Int) : Bool)))).bind fun s10 => (if s10 = true then (if 0 ≤ a0.Size ∧ a0.Size ≤ (16 : Int) ∧ (16 : Int) ≤ (16 : Int) then (bytes_Trim.f k (((arL 16 a0.B).take (Int.toNat (16 : Int))).drop (Int.toNat a0.Size)) ([0] : List UInt8)).bind fun t15 => some (((t15.length : Int) == (0 : Int) : Bool)) else none) else some ((false : Bool)))
set_option maxRecDepth 100000 in
theorem addr_Right.walk (w : World) (M : List Nat) (hM : MS M w) (a0 : S_api_Addr) (k : Nat) (r : Bool) (H : addr_Right.f k a0 = some r) :
    To Tryd.prog 53 [.agg (cS_api_Addr a0).toArray] w fun v w' => v = .bool r ∧ Chg [] w w' ∧ MS (M) w' := by
 unfold addr_Right.f at H
 refine ent Tryd.func53 rfl [(0, .agg (cS_api_Addr a0).toArray)] rfl (by rfl) fun a ha => ?_
 have hC : Chg [] w w := Chg.refl _ _
 refine wp_seq_k fun K1 hK1 => ?_
 refine wp_region_lit ?_
 refine bx (cs := (cS_api_Addr a0)) ha rfl rfl rfl rfl rfl fun a w2 g3 hN4 ha => ?_
 have hn6 := hN4.notin hM
 have hM : MS (M) w2 := (hM.chg hN4.chg)
 have hC := hC.trans hN4.chg (Ok.nil _ _)
 have hE5 : ∀ j v, (cS_api_Addr a0)[j]? = some v → w2.cell? ⟨g3, 0 + j, none⟩ = some v := Box.cells (New.box hN4)
 refine seg ha 1 [(1, .pointer (some ⟨g3, 0, none⟩))] (by kernel_rfl) fun a ha => ?_
 refine hK1 _ _ ?_; try clear hK1 K1
 refine wp_seq_k fun K7 hK7 => ?_
 refine wp_seq_k fun K8 hK8 => ?_
 refine wp_region_lit ?_
 refine seg ha 1 [(1, .pointer (some ⟨g3, 0, none⟩)), (3, .pointer (some ⟨g3, 0, none⟩))] (by kernel_rfl) fun a ha => ?_
 refine ld ha rfl (by kernel_rfl) rfl rfl rfl (hE5 0 (.int .i64 a0.Size) (by kernel_rfl)) fun a ha => ?_
 refine hK8 _ _ ?_; try clear hK8 K8
 refine wp_block ?_
 refine wp_seq_k fun K9 hK9 => ?_
 obtain ⟨s10, H10, H⟩ := bind_some H
 have J10 : ∀ (a : Act) (w10 : World), Has a Tryd.f53.ntmps [(1, .pointer (some ⟨g3, 0, none⟩)), (5, .bool s10)] → (∀ j v, (cS_api_Addr a0)[j]? = some v → w10.cell? ⟨g3, 0 + j, none⟩ = some v) → (g3 ∉ (M)) → (Chg [] w w10) → (MS (M) w10) → K9 a w10 := by
  intro a w10 ha hE5 hn6 hC hM
  refine hK9 _ _ ?_; try clear hK9 K9
  refine cnd ha rfl (fun hc11 => ?_) (fun hc11 => ?_)
  ·have H := ite_t hc11 H
   refine wp_seq_k fun K12 hK12 => ?_
   refine wp_region_lit ?_
   refine seg ha 2 [(9, .pointer (some ⟨g3, 0 + 1, none⟩)), (10, .pointer (some ⟨g3, 0, none⟩))] (by kernel_rfl) fun a ha => ?_
   refine ld ha rfl (by kernel_rfl) rfl rfl rfl (hE5 0 (.int .i64 a0.Size) (by kernel_rfl)) fun a ha => ?_
   have f13 : RSl (rInt .u8) 5 w10 (M) (some ⟨g3, 0 + 1, none⟩) 16 (arL 16 a0.B) := RSl.ofA [.int .i64 a0.Size] [] hE5 hn6 (by kernel_rfl) rfl
   obtain ⟨⟨hx14, hx14', hx14''⟩, H⟩ := ite_some H
   obtain ⟨ao14, cap14, f14, hr14⟩ := slA_run (kk := .u8) (T := 5) (N := 16) (g := g3) (o' := 0 + 1) (xs := (arL 16 a0.B)) (t := 22) (lo := (Option.some (Operand.tmp 11))) (hi := Option.none) (l := a0.Size) (h := (16 : Int)) (dd := some 12) (ty := 25) (pos := "addr.go:24") (af := #[{ on := 0, ground := Ground.data }, { on := 2, ground := Ground.data }]) (gd := Option.none) ha (by kernel_rfl) (by kernel_rfl) (x := (Operand.tmp 9)) rfl (arL_length _ _) rfl rfl f13 hx14 hx14' (by rw [arL_length]; exact hx14'')
   refine hop (v := .slice ao14 (((arL 16 a0.B).take (Int.toNat (16 : Int))).drop (Int.toNat a0.Size)).length cap14) (w' := w10) ha rfl rfl rfl (hr14 _) fun a ha => ?_
   obtain ⟨t15, H15, H⟩ := bind_some H
   refine cl ha (by rfl) (by kernel_rfl) (by rfl) (by rfl) (by rfl) (bytes_Trim.walk w10 _ hM (((arL 16 a0.B).take (Int.toNat (16 : Int))).drop (Int.toNat a0.Size)) ao14 cap14 f14 ([0] : List UInt8) k _ H15) ?_
   rintro _ w15 ⟨ao16, cap16, rfl, f16, hc15, hMn⟩ a ha
   have o1 : Ok [] (M) w10.heap.size := Ok.nil _ _
   have o2 : Ok (M) (M) w10.heap.size := (Ok.refl _ _)
   have f14 := f14.chg hc15 o1 o2
   have hM : MS (M) w15 := (hM.chg hc15)
   have hC := hC.trans hc15 (Ok.nil _ _)
   refine seg ha 3 [(2, .bool ((t15.length : Int) == (0 : Int)))] (by kernel_rfl) fun a ha => ?_
   refine hK12 _ _ ?_; try clear hK12 K12
   refine wp_ret ?_
   try simp only [Exit.then, Exit.inBlock]
   obtain rfl := Option.some.inj H
   refine rt1 ha rfl rfl ?_
   exact ⟨rfl, hC, hM⟩
  ·have H := ite_f hc11 H
   refine wp_skip ?_
   refine hK7 _ _ ?_; try clear hK7 K7
   refine wp_seq_k fun K17 hK17 => ?_
   refine wp_region_lit ?_
   refine seg ha 1 [(2, .bool false)] (by kernel_rfl) fun a ha => ?_
   refine hK17 _ _ ?_; try clear hK17 K17
   refine wp_ret ?_
   try simp only [Exit.then, Exit.inBlock]
   obtain rfl := Option.some.inj H
   refine rt1 ha rfl rfl ?_
   exact ⟨rfl, hC, hM⟩
 have H := H10
 refine wp_seq_k fun K18 hK18 => ?_
 refine wp_region_lit ?_
 refine seg ha 2 [(1, .pointer (some ⟨g3, 0, none⟩)), (4, .int .i64 a0.Size), (5, .bool (a0.Size == (0 : Int)))] (by kernel_rfl) fun a ha => ?_
 refine hK18 _ _ ?_; try clear hK18 K18
 refine cnd ha rfl (fun hc19 => ?_) (fun hc19 => ?_)
 ·have H := ite_t hc19 H
  refine wp_skip ?_
  obtain rfl := Option.some.inj H
  exact J10 _ _ (ha.sel (by kernel_rfl)) hE5 hn6 hC hM
 ·have H := ite_f hc19 H
  refine wp_seq_k fun K20 hK20 => ?_
  refine wp_region_lit ?_
  refine seg ha 2 [(1, .pointer (some ⟨g3, 0, none⟩)), (4, .int .i64 a0.Size), (5, .bool (a0.Size == (4 : Int)))] (by kernel_rfl) fun a ha => ?_
  refine hK20 _ _ ?_; try clear hK20 K20
  refine cnd ha rfl (fun hc21 => ?_) (fun hc21 => ?_)
  ·have H := ite_t hc21 H
   refine wp_skip ?_
   obtain rfl := Option.some.inj H
   exact J10 _ _ (ha.sel (by kernel_rfl)) hE5 hn6 hC hM
  ·have H := ite_f hc21 H
   refine wp_region_lit ?_
   refine seg ha 2 [(1, .pointer (some ⟨g3, 0, none⟩)), (5, .bool (a0.Size == (16 : Int)))] (by kernel_rfl) fun a ha => ?_
   obtain rfl := Option.some.inj H
   exact J10 _ _ (ha.sel (by kernel_rfl)) hE5 hn6 hC hM
def addr_Of.f (a0 : List Int) : Option (S_api_Addr × Int) := ((if ((a0.length : Int) == (0 : Int)) = true then some ((a0.length : Int) == (0 : Int) : Bool) else (if ((a0.length : Int) == (4 : Int)) = true then some ((a0.length : Int) == (4 : Int) : Bool) else some ((a0.length : Int) == (16 : Int) : Bool)))).bind fun s10 => (if s10 = true then some (((⟨(a0.length : Int), (arC 16 (List.replicate 16 (0 : Int)) a0)⟩ : S_api_Addr) : S_api_Addr), ((0 : Int) : Int)) else some (((⟨(0 : Int), (List.replicate 16 (0 : Int))⟩ : S_api_Addr) : S_api_Addr), ((1 : Int) : Int)))
set_option maxRecDepth 100000 in
theorem addr_Of.walk (w : World) (M : List Nat) (hM : MS M w) (a0 : List Int) (ao1 : Option Addr) (cap1 : Nat) (f1 : RSl (rInt .u8) 5 w M ao1 cap1 a0) (r : S_api_Addr × Int) (H : addr_Of.f a0 = some r) :
    To Tryd.prog 54 [.slice ao1 a0.length cap1] w fun v w' => v = .tuple #[.agg (cS_api_Addr r.1).toArray, .int .i64 r.2] ∧ Chg [] w w' ∧ MS (M) w' := by
 unfold addr_Of.f at H
 refine ent Tryd.func54 rfl [(0, .slice ao1 a0.length cap1)] rfl (by rfl) fun a ha => ?_
 have hC : Chg [] w w := Chg.refl _ _
 refine wp_seq_k fun K2 hK2 => ?_
 refine wp_region_lit ?_
 refine al (cs := (cS_api_Addr (⟨(0 : Int), (List.replicate 16 (0 : Int))⟩ : S_api_Addr))) (z := .agg (cS_api_Addr (⟨(0 : Int), (List.replicate 16 (0 : Int))⟩ : S_api_Addr)).toArray) ha (fun w => by kernel_rfl) rfl rfl rfl rfl fun a w3 g4 hN5 ha => ?_
 have o1 : Ok [] (M) w.heap.size := Ok.nil _ _
 have o2 : Ok ([g4] ++ (M)) (M) w.heap.size := (Ok.app (hN5.ok _) (Ok.refl _ _))
 have f1 := f1.chg hN5.chg o1 o2
 have p_i6_M : ∀ x ∈ [g4], x ∉ M := fun x hx hy => absurd (hM x (hy)) (Nat.not_lt.2 ((hN5.ge1) x hx))
 have e_i6 : ∀ x ∈ [g4], w.heap.size ≤ x := fun x hx => Nat.le_trans hC.size ((hN5.ge1) x hx)
 have hM : MS ([g4] ++ (M)) w3 := (MS.app hN5.ms (hM.chg hN5.chg))
 have hC := hC.trans hN5.chg (Ok.nil _ _)
 have hBg4 : Box w3 g4 (cS_api_Addr (⟨(0 : Int), (List.replicate 16 (0 : Int))⟩ : S_api_Addr)) := hN5.box
 refine seg ha 1 [(0, .slice ao1 a0.length cap1), (2, .pointer (some ⟨g4, 0, none⟩))] (by kernel_rfl) fun a ha => ?_
 refine hK2 _ _ ?_; try clear hK2 K2
 refine wp_seq_k fun K7 hK7 => ?_
 refine wp_seq_k fun K8 hK8 => ?_
 refine wp_region_lit ?_
 refine seg ha 2 [(0, .slice ao1 a0.length cap1), (2, .pointer (some ⟨g4, 0, none⟩)), (6, .int .i64 (a0.length : Int))] (by kernel_rfl) fun a ha => ?_
 refine hK8 _ _ ?_; try clear hK8 K8
 refine wp_block ?_
 refine wp_seq_k fun K9 hK9 => ?_
 obtain ⟨s10, H10, H⟩ := bind_some H
 have J10 : ∀ (a : Act) (w10 : World), Has a Tryd.f54.ntmps [(0, .slice ao1 a0.length cap1), (2, .pointer (some ⟨g4, 0, none⟩)), (7, .bool s10)] → (RSl (rInt .u8) 5 w10 ([g4] ++ (M)) ao1 cap1 a0) → (Box w10 g4 (cS_api_Addr (⟨(0 : Int), (List.replicate 16 (0 : Int))⟩ : S_api_Addr))) → (Chg [] w w10) → (MS ([g4] ++ (M)) w10) → K9 a w10 := by
  intro a w10 ha f1 hBg4 hC hM
  refine hK9 _ _ ?_; try clear hK9 K9
  refine cnd ha rfl (fun hc11 => ?_) (fun hc11 => ?_)
  ·have H := ite_t hc11 H
   refine wp_seq_k fun K12 hK12 => ?_
   refine wp_region_lit ?_
   refine seg ha 2 [(0, .slice ao1 a0.length cap1), (2, .pointer (some ⟨g4, 0, none⟩)), (12, .int .i64 (a0.length : Int))] (by kernel_rfl) fun a ha => ?_
   refine opk (v := .agg (cS_api_Addr (⟨(a0.length : Int), (List.replicate 16 (0 : Int))⟩ : S_api_Addr)).toArray) ha rfl rfl rfl rfl rfl (fun w => by kernel_rfl) fun a ha => ?_
   refine al (cs := (cS_api_Addr (⟨(0 : Int), (List.replicate 16 (0 : Int))⟩ : S_api_Addr))) (z := .agg (cS_api_Addr (⟨(0 : Int), (List.replicate 16 (0 : Int))⟩ : S_api_Addr)).toArray) ha (fun w => by kernel_rfl) rfl rfl rfl rfl fun a w13 g14 hN15 ha => ?_
   have o1 : Ok [] ([g4] ++ (M)) w10.heap.size := Ok.nil _ _
   have o2 : Ok ([g14] ++ ([g4] ++ (M))) ([g4] ++ (M)) w10.heap.size := (Ok.app (hN15.ok _) (Ok.refl _ _))
   have f1 := f1.chg hN15.chg o1 o2
   have hBg4 := hBg4.chg hN15.chg (fun h => nomatch h)
   have p_i16_i6 : ∀ x ∈ [g14], x ∉ ([g4]) := fun x hx hy => absurd (hM x (ml hy)) (Nat.not_lt.2 ((hN15.ge1) x hx))
   have p_i16_M : ∀ x ∈ [g14], x ∉ M := fun x hx hy => absurd (hM x (mr (hy))) (Nat.not_lt.2 ((hN15.ge1) x hx))
   have e_i16 : ∀ x ∈ [g14], w.heap.size ≤ x := fun x hx => Nat.le_trans hC.size ((hN15.ge1) x hx)
   have hM : MS ([g14] ++ ([g4] ++ (M))) w13 := (MS.app hN15.ms (hM.chg hN15.chg))
   have hC := hC.trans hN15.chg (Ok.nil _ _)
   have hBg14 : Box w13 g14 (cS_api_Addr (⟨(0 : Int), (List.replicate 16 (0 : Int))⟩ : S_api_Addr)) := hN15.box
   refine stA (l := (cS_api_Addr (⟨(a0.length : Int), (List.replicate 16 (0 : Int))⟩ : S_api_Addr))) ha rfl rfl rfl (by kernel_rfl) rfl rfl hBg14 rfl fun a w17 ha hb2 hc18 _ => ?_
   have o1 : Ok [g14] ([g14] ++ ([g4] ++ (M))) w13.heap.size := (fun _ h => .inl (ml h))
   have o2 : Ok ([g14] ++ ([g4] ++ (M))) ([g14] ++ ([g4] ++ (M))) w13.heap.size := (Ok.refl _ _)
   have f1 := f1.chg hc18 o1 o2
   have hBg4 := hBg4.chg hc18 ((fun x (hx : x ∈ [g4]) (hy : x ∈ [g14]) => p_i16_i6 x hy hx) g4 (by simp))
   have hM : MS ([g14] ++ ([g4] ++ (M))) w17 := (hM.chg hc18)
   have hC := hC.trans hc18 (fun x h => .inr (e_i16 x h))
   have hBg14 : Box w17 g14 (cS_api_Addr (⟨(a0.length : Int), (List.replicate 16 (0 : Int))⟩ : S_api_Addr)) := hb2
   refine hK12 _ _ ?_; try clear hK12 K12
   refine wp_seq_k fun K19 hK19 => ?_
   refine wp_region_lit ?_
   refine seg ha 1 [(0, .slice ao1 a0.length cap1), (2, .pointer (some ⟨g4, 0, none⟩)), (4, .pointer (some ⟨g14, 0, none⟩)), (14, .pointer (some ⟨g14, 1, none⟩))] (by kernel_rfl) fun a ha => ?_
   refine opk (v := .slice (some ⟨g14, 1, none⟩) 16 16) ha rfl rfl rfl rfl rfl (fun w => by kernel_rfl) fun a ha => ?_
   refine seg ha 1 [(2, .pointer (some ⟨g4, 0, none⟩)), (4, .pointer (some ⟨g14, 0, none⟩)), (15, .slice (some ⟨g14, 1, none⟩) 16 16), (16, .slice ao1 a0.length cap1)] (by kernel_rfl) fun a ha => ?_
   refine cpyA (T := 5) (k := .u8) (x0 := (List.replicate 16 (0 : Int))) (N := 16) ([.int .i64 (a0.length : Int)] : List Value) ([] : List Value) ha (by kernel_rfl) (by kernel_rfl) rfl rfl rfl rfl rfl hBg14 (by kernel_rfl) f1 fun a w20 hb2 hc21 ha => ?_
   have o1 : Ok [g14] ([g14] ++ ([g4] ++ (M))) w17.heap.size := (fun _ h => .inl (ml h))
   have o2 : Ok ([g14] ++ ([g4] ++ (M))) ([g14] ++ ([g4] ++ (M))) w17.heap.size := (Ok.refl _ _)
   have f1 := f1.chg hc21 o1 o2
   have hBg4 := hBg4.chg hc21 ((fun x (hx : x ∈ [g4]) (hy : x ∈ [g14]) => p_i16_i6 x hy hx) g4 (by simp))
   have hM : MS ([g14] ++ ([g4] ++ (M))) w20 := (hM.chg hc21)
   have hC := hC.trans hc21 (fun x h => .inr (e_i16 x h))
   have hBg14 : Box w20 g14 (cS_api_Addr (⟨(a0.length : Int), (arC 16 (List.replicate 16 (0 : Int)) a0)⟩ : S_api_Addr)) := hb2.cast (by kernel_rfl)
   refine hK19 _ _ ?_; try clear hK19 K19
   refine wp_seq_k fun K22 hK22 => ?_
   refine wp_region_lit ?_
   refine ldA (cs := (cS_api_Addr (⟨(a0.length : Int), (arC 16 (List.replicate 16 (0 : Int)) a0)⟩ : S_api_Addr))) ha rfl (by kernel_rfl) rfl rfl rfl (cells_sub (Box.cells hBg14) (all := (cS_api_Addr (⟨(a0.length : Int), (arC 16 (List.replicate 16 (0 : Int)) a0)⟩ : S_api_Addr))) [] [] (by kernel_rfl)) fun a ha => ?_
   refine stA (l := (cS_api_Addr (⟨(a0.length : Int), (arC 16 (List.replicate 16 (0 : Int)) a0)⟩ : S_api_Addr))) ha rfl rfl rfl (by kernel_rfl) rfl rfl hBg4 rfl fun a w23 ha hb2 hc24 _ => ?_
   have hBg14 := hBg14.chg hc24 (p_i16_i6 g14 (by simp))
   have hM : MS ([g14] ++ ([g4] ++ (M))) w23 := (hM.chg hc24)
   have hC := hC.trans hc24 (fun x h => .inr (e_i6 x h))
   have hBg4 : Box w23 g4 (cS_api_Addr (⟨(a0.length : Int), (arC 16 (List.replicate 16 (0 : Int)) a0)⟩ : S_api_Addr)) := hb2
   refine seg ha 1 [(2, .pointer (some ⟨g4, 0, none⟩)), (3, .int .i64 (0 : Int))] (by kernel_rfl) fun a ha => ?_
   refine hK22 _ _ ?_; try clear hK22 K22
   refine wp_ret ?_
   try simp only [Exit.then, Exit.inBlock]
   have hBg4 := hBg4.chg (Chg.refl [] _) (fun h => nomatch h)
   have hBg14 := hBg14.chg (Chg.refl [] _) (fun h => nomatch h)
   have hM : MS (M) w23 := (fun x h => hM.chg (Chg.refl [] _) x (mr (mr (h))))
   have hC := hC.trans (Chg.refl [] _) (Ok.nil _ _)
   obtain rfl := Option.some.inj H
   refine rtr ha (res2 rfl (roA ha rfl hBg4 (by kernel_rfl)) (roT ha rfl)) ?_
   exact ⟨rfl, hC, hM⟩
  ·have H := ite_f hc11 H
   refine wp_skip ?_
   refine hK7 _ _ ?_; try clear hK7 K7
   refine wp_seq_k fun K25 hK25 => ?_
   refine wp_region_lit ?_
   refine opk (v := .agg (cS_api_Addr (⟨(0 : Int), (List.replicate 16 (0 : Int))⟩ : S_api_Addr)).toArray) ha rfl rfl rfl rfl rfl (fun w => by kernel_rfl) fun a ha => ?_
   refine stA (l := (cS_api_Addr (⟨(0 : Int), (List.replicate 16 (0 : Int))⟩ : S_api_Addr))) ha rfl rfl rfl (by kernel_rfl) rfl rfl hBg4 rfl fun a w26 ha hb2 hc27 _ => ?_
   have hM : MS ([g4] ++ (M)) w26 := (hM.chg hc27)
   have hC := hC.trans hc27 (fun x h => .inr (e_i6 x h))
   have hBg4 : Box w26 g4 (cS_api_Addr (⟨(0 : Int), (List.replicate 16 (0 : Int))⟩ : S_api_Addr)) := hb2
   refine seg ha 1 [(2, .pointer (some ⟨g4, 0, none⟩)), (3, .int .i64 (1 : Int))] (by kernel_rfl) fun a ha => ?_
   refine hK25 _ _ ?_; try clear hK25 K25
   refine wp_ret ?_
   try simp only [Exit.then, Exit.inBlock]
   have hBg4 := hBg4.chg (Chg.refl [] _) (fun h => nomatch h)
   have hM : MS (M) w26 := (fun x h => hM.chg (Chg.refl [] _) x (mr (h)))
   have hC := hC.trans (Chg.refl [] _) (Ok.nil _ _)
   obtain rfl := Option.some.inj H
   refine rtr ha (res2 rfl (roA ha rfl hBg4 (by kernel_rfl)) (roT ha rfl)) ?_
   exact ⟨rfl, hC, hM⟩
 have H := H10
 refine wp_seq_k fun K28 hK28 => ?_
 refine wp_region_lit ?_
 refine seg ha 2 [(0, .slice ao1 a0.length cap1), (2, .pointer (some ⟨g4, 0, none⟩)), (6, .int .i64 (a0.length : Int)), (7, .bool ((a0.length : Int) == (0 : Int)))] (by kernel_rfl) fun a ha => ?_
 refine hK28 _ _ ?_; try clear hK28 K28
 refine cnd ha rfl (fun hc29 => ?_) (fun hc29 => ?_)
 ·have H := ite_t hc29 H
  refine wp_skip ?_
  obtain rfl := Option.some.inj H
  exact J10 _ _ (ha.sel (by kernel_rfl)) f1 hBg4 hC hM
 ·have H := ite_f hc29 H
  refine wp_seq_k fun K30 hK30 => ?_
  refine wp_region_lit ?_
  refine seg ha 2 [(0, .slice ao1 a0.length cap1), (2, .pointer (some ⟨g4, 0, none⟩)), (6, .int .i64 (a0.length : Int)), (7, .bool ((a0.length : Int) == (4 : Int)))] (by kernel_rfl) fun a ha => ?_
  refine hK30 _ _ ?_; try clear hK30 K30
  refine cnd ha rfl (fun hc31 => ?_) (fun hc31 => ?_)
  ·have H := ite_t hc31 H
   refine wp_skip ?_
   obtain rfl := Option.some.inj H
   exact J10 _ _ (ha.sel (by kernel_rfl)) f1 hBg4 hC hM
  ·have H := ite_f hc31 H
   refine wp_region_lit ?_
   refine seg ha 2 [(0, .slice ao1 a0.length cap1), (2, .pointer (some ⟨g4, 0, none⟩)), (7, .bool ((a0.length : Int) == (16 : Int)))] (by kernel_rfl) fun a ha => ?_
   obtain rfl := Option.some.inj H
   exact J10 _ _ (ha.sel (by kernel_rfl)) f1 hBg4 hC hM
def addr_Multicast.f (k : Nat) (a0 : S_api_Addr) : Option (Bool) := (addr_Right.f k a0).bind fun t9 => (if (!t9) = true then some ((false : Bool)) else (if (a0.Size == (4 : Int)) = true then some (((Int.fdiv (ar a0.B 0) (2 ^ (min (4 : Int).toNat IntKind.u8.bits))) == (14 : Int) : Bool)) else ((if (a0.Size == (16 : Int)) = true then some ((ar a0.B 0) == (255 : Int) : Bool) else some (false : Bool))).bind fun s17 => some ((s17 : Bool))))
set_option maxRecDepth 100000 in
theorem addr_Multicast.walk (w : World) (M : List Nat) (hM : MS M w) (a0 : S_api_Addr) (k : Nat) (r : Bool) (H : addr_Multicast.f k a0 = some r) :
    To Tryd.prog 55 [.agg (cS_api_Addr a0).toArray] w fun v w' => v = .bool r ∧ Chg [] w w' ∧ MS (M) w' := by
 unfold addr_Multicast.f at H
 refine ent Tryd.func55 rfl [(0, .agg (cS_api_Addr a0).toArray)] rfl (by rfl) fun a ha => ?_
 have hC : Chg [] w w := Chg.refl _ _
 refine wp_seq_k fun K1 hK1 => ?_
 refine wp_region_lit ?_
 refine bx (cs := (cS_api_Addr a0)) ha rfl rfl rfl rfl rfl fun a w2 g3 hN4 ha => ?_
 have hn6 := hN4.notin hM
 have hM : MS (M) w2 := (hM.chg hN4.chg)
 have hC := hC.trans hN4.chg (Ok.nil _ _)
 have hE5 : ∀ j v, (cS_api_Addr a0)[j]? = some v → w2.cell? ⟨g3, 0 + j, none⟩ = some v := Box.cells (New.box hN4)
 refine seg ha 1 [(1, .pointer (some ⟨g3, 0, none⟩))] (by kernel_rfl) fun a ha => ?_
 refine hK1 _ _ ?_; try clear hK1 K1
 refine wp_seq_k fun K7 hK7 => ?_
 refine wp_block ?_
 refine wp_seq_k fun K8 hK8 => ?_
 refine wp_region_lit ?_
 refine ldA (cs := (cS_api_Addr a0)) ha rfl (by kernel_rfl) rfl rfl rfl (cells_sub hE5 (all := (cS_api_Addr a0)) [] [] (by kernel_rfl)) fun a ha => ?_
 obtain ⟨t9, H9, H⟩ := bind_some H
 refine cl ha (by rfl) (by kernel_rfl) (by rfl) (by rfl) (by rfl) (addr_Right.walk w2 _ hM a0 k _ H9) ?_
 rintro _ w9 ⟨rfl, hc9, hMn⟩ a ha
 have o1 : Ok [] (M) w2.heap.size := Ok.nil _ _
 have o2 : Ok (M) (M) w2.heap.size := (Ok.refl _ _)
 have q_hn6 : g3 ∉ M := fun h => (o2 g3 h).elim hn6 (fun h => absurd (lt_cell (hE5 0 _ rfl)) (Nat.not_lt.2 h))
 have hE5 : ∀ j v, (cS_api_Addr a0)[j]? = some v → w9.cell? ⟨g3, 0 + j, none⟩ = some v := fun j v hv => (cell_keep hc9 o1 hn6 (hE5 j v hv))
 have hn6 := q_hn6
 have hM : MS (M) w9 := (hM.chg hc9)
 have hC := hC.trans hc9 (Ok.nil _ _)
 refine seg ha 2 [(1, .pointer (some ⟨g3, 0, none⟩)), (3, .bool (!t9))] (by kernel_rfl) fun a ha => ?_
 refine hK8 _ _ ?_; try clear hK8 K8
 refine cnd ha rfl (fun hc10 => ?_) (fun hc10 => ?_)
 ·have H := ite_t hc10 H
  refine wp_seq_k fun K11 hK11 => ?_
  refine wp_region_lit ?_
  refine seg ha 1 [(2, .bool false)] (by kernel_rfl) fun a ha => ?_
  refine hK11 _ _ ?_; try clear hK11 K11
  refine wp_ret ?_
  try simp only [Exit.then, Exit.inBlock]
  obtain rfl := Option.some.inj H
  refine rt1 ha rfl rfl ?_
  exact ⟨rfl, hC, hM⟩
 ·have H := ite_f hc10 H
  refine wp_seq_k fun K12 hK12 => ?_
  refine wp_region_lit ?_
  refine seg ha 1 [(1, .pointer (some ⟨g3, 0, none⟩)), (8, .pointer (some ⟨g3, 0, none⟩))] (by kernel_rfl) fun a ha => ?_
  refine ld ha rfl (by kernel_rfl) rfl rfl rfl (hE5 0 (.int .i64 a0.Size) (by kernel_rfl)) fun a ha => ?_
  refine seg ha 2 [(1, .pointer (some ⟨g3, 0, none⟩)), (7, .bool (a0.Size == (4 : Int)))] (by kernel_rfl) fun a ha => ?_
  refine hK12 _ _ ?_; try clear hK12 K12
  refine cnd ha rfl (fun hc13 => ?_) (fun hc13 => ?_)
  ·have H := ite_t hc13 H
   refine wp_seq_k fun K14 hK14 => ?_
   refine wp_region_lit ?_
   refine seg ha 1 [(11, .pointer (some ⟨g3, 0 + 1, none⟩))] (by kernel_rfl) fun a ha => ?_
   have hE15 : ∀ j v, ([.int .u8 (ar a0.B 0)] : List Value)[j]? = some v → w9.cell? ⟨g3, (0 + 1 + 0) + j, none⟩ = some v := cellA (m := 16) [.int .i64 a0.Size] [] hE5 (by kernel_rfl) (by decide)
   have hn15 := hn6
   refine hop (v := .pointer (some ⟨g3, (0 + 1 + 0), none⟩)) (w' := w9) ha rfl rfl rfl (ixA_run (T := 5) (N := 16) (g := g3) (o' := 0 + 1) (k := .i64) (i := (0 : Int)) ha (by kernel_rfl) (by kernel_rfl) (by rfl) (by rfl) (by decide) (by decide) _) fun a ha => ?_
   refine ld ha rfl (by kernel_rfl) rfl rfl rfl (hE15 0 (.int .u8 (ar a0.B 0)) (by kernel_rfl)) fun a ha => ?_
   refine seg ha 3 [(2, .bool ((Int.fdiv (ar a0.B 0) (2 ^ (min (4 : Int).toNat IntKind.u8.bits))) == (14 : Int)))] (by kernel_rfl) fun a ha => ?_
   refine hK14 _ _ ?_; try clear hK14 K14
   refine wp_ret ?_
   try simp only [Exit.then, Exit.inBlock]
   obtain rfl := Option.some.inj H
   refine rt1 ha rfl rfl ?_
   exact ⟨rfl, hC, hM⟩
  ·have H := ite_f hc13 H
   refine wp_skip ?_
   refine hK7 _ _ ?_; try clear hK7 K7
   refine wp_seq_k fun K16 hK16 => ?_
   refine wp_region_lit ?_
   obtain ⟨s17, H17, H⟩ := bind_some H
   have J17 : ∀ (a : Act) (w17 : World), Has a Tryd.f55.ntmps [(2, .bool s17)] → (Chg [] w w17) → (MS (M) w17) → K16 a w17 := by
    intro a w17 ha hC hM
    refine hK16 _ _ ?_; try clear hK16 K16
    refine wp_ret ?_
    try simp only [Exit.then, Exit.inBlock]
    obtain rfl := Option.some.inj H
    refine rt1 ha rfl rfl ?_
    exact ⟨rfl, hC, hM⟩
   have H := H17
   refine seg ha 1 [(1, .pointer (some ⟨g3, 0, none⟩)), (16, .pointer (some ⟨g3, 0, none⟩))] (by kernel_rfl) fun a ha => ?_
   refine ld ha rfl (by kernel_rfl) rfl rfl rfl (hE5 0 (.int .i64 a0.Size) (by kernel_rfl)) fun a ha => ?_
   refine seg ha 2 [(19, .bool (a0.Size == (16 : Int))), (1, .pointer (some ⟨g3, 0, none⟩))] (by kernel_rfl) fun a ha => ?_
   rcases Bool.eq_false_or_eq_true (a0.Size == (16 : Int)) with hb18 | hb18
   ·have ha := ha.lit hb18
    have H := ite_t hb18 H
    refine sgh ha 1 [2] [(19, .bool true), (20, .pointer (some ⟨g3, 0 + 1, none⟩))] (by kernel_rfl) fun a ha => ?_
    have hE19 : ∀ j v, ([.int .u8 (ar a0.B 0)] : List Value)[j]? = some v → w9.cell? ⟨g3, (0 + 1 + 0) + j, none⟩ = some v := cellA (m := 16) [.int .i64 a0.Size] [] hE5 (by kernel_rfl) (by decide)
    have hn19 := hn6
    refine hop (v := .pointer (some ⟨g3, (0 + 1 + 0), none⟩)) (w' := w9) ha rfl rfl rfl (ixA_run (T := 5) (N := 16) (g := g3) (o' := 0 + 1) (k := .i64) (i := (0 : Int)) ha (by kernel_rfl) (by kernel_rfl) (by rfl) (by rfl) (by decide) (by decide) _) fun a ha => ?_
    refine ld ha rfl (by kernel_rfl) rfl rfl rfl (hE19 0 (.int .u8 (ar a0.B 0)) (by kernel_rfl)) fun a ha => ?_
    refine sgh ha 3 [2, 3, 0] [(2, .bool ((ar a0.B 0) == (255 : Int)))] (by kernel_rfl) fun a ha => ?_
    obtain rfl := Option.some.inj H
    exact J17 _ _ (ha.sel (by kernel_rfl)) hC hM
   ·have ha := ha.lit hb18
    have H := ite_f hb18 H
    refine sgh ha 6 [1, 1, 1, 1, 4, 0] [(2, .bool false)] (by kernel_rfl) fun a ha => ?_
    obtain rfl := Option.some.inj H
    exact J17 _ _ (ha.sel (by kernel_rfl)) hC hM
def pmsi_Right.f (k : Nat) (a0 : S_api_Tunnel) : Option (Bool) := ((addr_Right.f k a0.Root).bind fun t57 => (if (!t57) = true then some (true : Bool) else (if (decide (a0.Label < (0 : Int))) = true then some (true : Bool) else some (decide (a0.Label > (1048575 : Int)) : Bool)))).bind fun s10 => (if s10 = true then some ((false : Bool)) else (if (a0.Kind == (0 : Int)) = true then some (((IntKind.i64.wrap (a0.Root.Size + (a0.Id.length : Int))) == (0 : Int) : Bool)) else (if (a0.Kind == (1 : Int)) = true then ((if (a0.Root.Size == (4 : Int)) = true then some ((a0.Id.length : Int) == (6 : Int) : Bool) else some (false : Bool))).bind fun s21 => some ((s21 : Bool)) else ((if (a0.Kind == (2 : Int)) = true then some (a0.Kind == (2 : Int) : Bool) else some (a0.Kind == (7 : Int) : Bool))).bind fun s24 => (if s24 = true then ((if (decide (a0.Root.Size > (0 : Int))) = true then some (decide ((a0.Id.length : Int) ≤ (64 : Int)) : Bool) else some (false : Bool))).bind fun s27 => some ((s27 : Bool)) else ((if (a0.Kind == (3 : Int)) = true then some (a0.Kind == (3 : Int) : Bool) else (if (a0.Kind == (4 : Int)) = true then some (a0.Kind == (4 : Int) : Bool) else some (a0.Kind == (5 : Int) : Bool)))).bind fun s30 => (if s30 = true then (addr_Of.f a0.Id).bind fun t33 => ((if (t33.2 == (0 : Int)) = true then (if (t33.1.Size == a0.Root.Size) = true then (addr_Multicast.f k t33.1).bind fun t44 => some (t44 : Bool) else some (false : Bool)) else some (false : Bool))).bind fun s41 => some ((s41 : Bool)) else (if (a0.Kind == (6 : Int)) = true then ((if (decide (a0.Root.Size > (0 : Int))) = true then some ((a0.Id.length : Int) == (0 : Int) : Bool) else some (false : Bool))).bind fun s48 => some ((s48 : Bool)) else some ((false : Bool))))))))
set_option maxRecDepth 100000 in
theorem pmsi_Right.walk (w : World) (M : List Nat) (hM : MS M w) (a0 : S_api_Tunnel) (ao1 : Option Addr) (cap1 : Nat) (f1 : RSl (rInt .u8) 5 w M ao1 cap1 a0.Id) (k : Nat) (r : Bool) (H : pmsi_Right.f k a0 = some r) :
    To Tryd.prog 21 [.agg (cS_api_Tunnel a0 ao1 cap1).toArray] w fun v w' => v = .bool r ∧ Chg [] w w' ∧ MS (M) w' := by
 unfold pmsi_Right.f at H
 refine ent Tryd.func21 rfl [(0, .agg (cS_api_Tunnel a0 ao1 cap1).toArray)] rfl (by rfl) fun a ha => ?_
 have hC : Chg [] w w := Chg.refl _ _
 refine wp_seq_k fun K2 hK2 => ?_
 refine wp_region_lit ?_
 refine bx (cs := (cS_api_Tunnel a0 ao1 cap1)) ha rfl rfl rfl rfl rfl fun a w3 g4 hN5 ha => ?_
 have hn7 := hN5.notin hM
 have o1 : Ok [] (M) w.heap.size := Ok.nil _ _
 have o2 : Ok (M) (M) w.heap.size := (Ok.refl _ _)
 have f1 := f1.chg hN5.chg o1 o2
 have hM : MS (M) w3 := (hM.chg hN5.chg)
 have hC := hC.trans hN5.chg (Ok.nil _ _)
 have hE6 : ∀ j v, (cS_api_Tunnel a0 ao1 cap1)[j]? = some v → w3.cell? ⟨g4, 0 + j, none⟩ = some v := Box.cells (New.box hN5)
 refine seg ha 1 [(1, .pointer (some ⟨g4, 0, none⟩))] (by kernel_rfl) fun a ha => ?_
 refine hK2 _ _ ?_; try clear hK2 K2
 refine wp_seq_k fun K8 hK8 => ?_
 refine wp_seq_k fun K9 hK9 => ?_
 refine wp_region_lit ?_
 obtain ⟨s10, H10, H⟩ := bind_some H
 have J10 : ∀ (a : Act) (w10 : World), Has a Tryd.f21.ntmps [(1, .pointer (some ⟨g4, 0, none⟩)), (18, .bool s10)] → (RSl (rInt .u8) 5 w10 (M) ao1 cap1 a0.Id) → (∀ j v, (cS_api_Tunnel a0 ao1 cap1)[j]? = some v → w10.cell? ⟨g4, 0 + j, none⟩ = some v) → (g4 ∉ (M)) → (Chg [] w w10) → (MS (M) w10) → K9 a w10 := by
  intro a w10 ha f1 hE6 hn7 hC hM
  refine hK9 _ _ ?_; try clear hK9 K9
  refine cnd ha rfl (fun hc11 => ?_) (fun hc11 => ?_)
  ·have H := ite_t hc11 H
   refine wp_seq_k fun K12 hK12 => ?_
   refine wp_region_lit ?_
   refine seg ha 1 [(2, .bool false)] (by kernel_rfl) fun a ha => ?_
   refine hK12 _ _ ?_; try clear hK12 K12
   refine wp_ret ?_
   try simp only [Exit.then, Exit.inBlock]
   obtain rfl := Option.some.inj H
   refine rt1 ha rfl rfl ?_
   exact ⟨rfl, hC, hM⟩
  ·have H := ite_f hc11 H
   refine wp_skip ?_
   refine hK8 _ _ ?_; try clear hK8 K8
   refine wp_seq_k fun K13 hK13 => ?_
   refine wp_seq_k fun K14 hK14 => ?_
   refine wp_region_lit ?_
   refine seg ha 1 [(1, .pointer (some ⟨g4, 0, none⟩)), (19, .pointer (some ⟨g4, 0 + 1, none⟩))] (by kernel_rfl) fun a ha => ?_
   refine ld ha rfl (by kernel_rfl) rfl rfl rfl (hE6 1 (.int .i64 a0.Kind) (by kernel_rfl)) fun a ha => ?_
   refine hK14 _ _ ?_; try clear hK14 K14
   refine wp_block ?_
   refine wp_seq_k fun K15 hK15 => ?_
   refine wp_region_lit ?_
   refine seg ha 2 [(1, .pointer (some ⟨g4, 0, none⟩)), (20, .int .i64 a0.Kind), (21, .bool (a0.Kind == (0 : Int)))] (by kernel_rfl) fun a ha => ?_
   refine hK15 _ _ ?_; try clear hK15 K15
   refine cnd ha rfl (fun hc16 => ?_) (fun hc16 => ?_)
   ·have H := ite_t hc16 H
    refine wp_seq_k fun K17 hK17 => ?_
    refine wp_region_lit ?_
    refine seg ha 2 [(1, .pointer (some ⟨g4, 0, none⟩)), (24, .pointer (some ⟨g4, 0 + 3, none⟩))] (by kernel_rfl) fun a ha => ?_
    refine ld ha rfl (by kernel_rfl) rfl rfl rfl (hE6 3 (.int .i64 a0.Root.Size) (by kernel_rfl)) fun a ha => ?_
    refine seg ha 1 [(25, .int .i64 a0.Root.Size), (26, .pointer (some ⟨g4, 0 + 20, none⟩))] (by kernel_rfl) fun a ha => ?_
    refine ld ha rfl (by kernel_rfl) rfl rfl rfl (hE6 20 (.slice ao1 a0.Id.length cap1) (by kernel_rfl)) fun a ha => ?_
    refine seg ha 4 [(2, .bool ((IntKind.i64.wrap (a0.Root.Size + (a0.Id.length : Int))) == (0 : Int)))] (by kernel_rfl) fun a ha => ?_
    refine hK17 _ _ ?_; try clear hK17 K17
    refine wp_ret ?_
    try simp only [Exit.then, Exit.inBlock]
    obtain rfl := Option.some.inj H
    refine rt1 ha rfl rfl ?_
    exact ⟨rfl, hC, hM⟩
   ·have H := ite_f hc16 H
    refine wp_seq_k fun K18 hK18 => ?_
    refine wp_region_lit ?_
    refine seg ha 2 [(1, .pointer (some ⟨g4, 0, none⟩)), (20, .int .i64 a0.Kind), (31, .bool (a0.Kind == (1 : Int)))] (by kernel_rfl) fun a ha => ?_
    refine hK18 _ _ ?_; try clear hK18 K18
    refine cnd ha rfl (fun hc19 => ?_) (fun hc19 => ?_)
    ·have H := ite_t hc19 H
     refine wp_seq_k fun K20 hK20 => ?_
     refine wp_region_lit ?_
     obtain ⟨s21, H21, H⟩ := bind_some H
     have J21 : ∀ (a : Act) (w21 : World), Has a Tryd.f21.ntmps [(2, .bool s21)] → (Chg [] w w21) → (MS (M) w21) → K20 a w21 := by
      intro a w21 ha hC hM
      refine hK20 _ _ ?_; try clear hK20 K20
      refine wp_ret ?_
      try simp only [Exit.then, Exit.inBlock]
      obtain rfl := Option.some.inj H
      refine rt1 ha rfl rfl ?_
      exact ⟨rfl, hC, hM⟩
     have H := H21
     refine seg ha 2 [(1, .pointer (some ⟨g4, 0, none⟩)), (34, .pointer (some ⟨g4, 0 + 3, none⟩))] (by kernel_rfl) fun a ha => ?_
     refine ld ha rfl (by kernel_rfl) rfl rfl rfl (hE6 3 (.int .i64 a0.Root.Size) (by kernel_rfl)) fun a ha => ?_
     refine seg ha 2 [(37, .bool (a0.Root.Size == (4 : Int))), (1, .pointer (some ⟨g4, 0, none⟩))] (by kernel_rfl) fun a ha => ?_
     rcases Bool.eq_false_or_eq_true (a0.Root.Size == (4 : Int)) with hb22 | hb22
     ·have ha := ha.lit hb22
      have H := ite_t hb22 H
      refine sgh ha 1 [2] [(37, .bool true), (38, .pointer (some ⟨g4, 0 + 20, none⟩))] (by kernel_rfl) fun a ha => ?_
      refine ld ha rfl (by kernel_rfl) rfl rfl rfl (hE6 20 (.slice ao1 a0.Id.length cap1) (by kernel_rfl)) fun a ha => ?_
      refine sgh ha 4 [2, 2, 3, 0] [(2, .bool ((a0.Id.length : Int) == (6 : Int)))] (by kernel_rfl) fun a ha => ?_
      obtain rfl := Option.some.inj H
      exact J21 _ _ (ha.sel (by kernel_rfl)) hC hM
     ·have ha := ha.lit hb22
      have H := ite_f hb22 H
      refine sgh ha 6 [1, 1, 1, 1, 4, 0] [(2, .bool false)] (by kernel_rfl) fun a ha => ?_
      obtain rfl := Option.some.inj H
      exact J21 _ _ (ha.sel (by kernel_rfl)) hC hM
    ·have H := ite_f hc19 H
     refine wp_seq_k fun K23 hK23 => ?_
     obtain ⟨s24, H24, H⟩ := bind_some H
     have J24 : ∀ (a : Act) (w24 : World), Has a Tryd.f21.ntmps [(1, .pointer (some ⟨g4, 0, none⟩)), (20, .int .i64 a0.Kind), (43, .bool s24)] → (RSl (rInt .u8) 5 w24 (M) ao1 cap1 a0.Id) → (∀ j v, (cS_api_Tunnel a0 ao1 cap1)[j]? = some v → w24.cell? ⟨g4, 0 + j, none⟩ = some v) → (g4 ∉ (M)) → (Chg [] w w24) → (MS (M) w24) → K23 a w24 := by
      intro a w24 ha f1 hE6 hn7 hC hM
      refine hK23 _ _ ?_; try clear hK23 K23
      refine cnd ha rfl (fun hc25 => ?_) (fun hc25 => ?_)
      ·have H := ite_t hc25 H
       refine wp_seq_k fun K26 hK26 => ?_
       refine wp_region_lit ?_
       obtain ⟨s27, H27, H⟩ := bind_some H
       have J27 : ∀ (a : Act) (w27 : World), Has a Tryd.f21.ntmps [(2, .bool s27)] → (Chg [] w w27) → (MS (M) w27) → K26 a w27 := by
        intro a w27 ha hC hM
        refine hK26 _ _ ?_; try clear hK26 K26
        refine wp_ret ?_
        try simp only [Exit.then, Exit.inBlock]
        obtain rfl := Option.some.inj H
        refine rt1 ha rfl rfl ?_
        exact ⟨rfl, hC, hM⟩
       have H := H27
       refine seg ha 2 [(1, .pointer (some ⟨g4, 0, none⟩)), (47, .pointer (some ⟨g4, 0 + 3, none⟩))] (by kernel_rfl) fun a ha => ?_
       refine ld ha rfl (by kernel_rfl) rfl rfl rfl (hE6 3 (.int .i64 a0.Root.Size) (by kernel_rfl)) fun a ha => ?_
       refine seg ha 2 [(50, .bool (decide (a0.Root.Size > (0 : Int)))), (1, .pointer (some ⟨g4, 0, none⟩))] (by kernel_rfl) fun a ha => ?_
       rcases Bool.eq_false_or_eq_true (decide (a0.Root.Size > (0 : Int))) with hb28 | hb28
       ·have ha := ha.lit hb28
        have H := ite_t hb28 H
        refine sgh ha 1 [2] [(50, .bool true), (51, .pointer (some ⟨g4, 0 + 20, none⟩))] (by kernel_rfl) fun a ha => ?_
        refine ld ha rfl (by kernel_rfl) rfl rfl rfl (hE6 20 (.slice ao1 a0.Id.length cap1) (by kernel_rfl)) fun a ha => ?_
        refine sgh ha 4 [2, 2, 3, 0] [(2, .bool (decide ((a0.Id.length : Int) ≤ (64 : Int))))] (by kernel_rfl) fun a ha => ?_
        obtain rfl := Option.some.inj H
        exact J27 _ _ (ha.sel (by kernel_rfl)) hC hM
       ·have ha := ha.lit hb28
        have H := ite_f hb28 H
        refine sgh ha 6 [1, 1, 1, 1, 4, 0] [(2, .bool false)] (by kernel_rfl) fun a ha => ?_
        obtain rfl := Option.some.inj H
        exact J27 _ _ (ha.sel (by kernel_rfl)) hC hM
      ·have H := ite_f hc25 H
       refine wp_seq_k fun K29 hK29 => ?_
       obtain ⟨s30, H30, H⟩ := bind_some H
       have J30 : ∀ (a : Act) (w30 : World), Has a Tryd.f21.ntmps [(1, .pointer (some ⟨g4, 0, none⟩)), (20, .int .i64 a0.Kind), (56, .bool s30)] → (RSl (rInt .u8) 5 w30 (M) ao1 cap1 a0.Id) → (∀ j v, (cS_api_Tunnel a0 ao1 cap1)[j]? = some v → w30.cell? ⟨g4, 0 + j, none⟩ = some v) → (g4 ∉ (M)) → (Chg [] w w30) → (MS (M) w30) → K29 a w30 := by
        intro a w30 ha f1 hE6 hn7 hC hM
        refine hK29 _ _ ?_; try clear hK29 K29
        refine cnd ha rfl (fun hc31 => ?_) (fun hc31 => ?_)
        ·have H := ite_t hc31 H
         refine wp_seq_k fun K32 hK32 => ?_
         refine wp_region_lit ?_
         refine seg ha 1 [(1, .pointer (some ⟨g4, 0, none⟩)), (61, .pointer (some ⟨g4, 0 + 20, none⟩))] (by kernel_rfl) fun a ha => ?_
         refine ld ha rfl (by kernel_rfl) rfl rfl rfl (hE6 20 (.slice ao1 a0.Id.length cap1) (by kernel_rfl)) fun a ha => ?_
         obtain ⟨t33, H33, H⟩ := bind_some H
         refine cl ha (by rfl) (by kernel_rfl) (by rfl) (by rfl) (by rfl) (addr_Of.walk w30 _ hM a0.Id ao1 cap1 f1 _ H33) ?_
         rintro _ w33 ⟨rfl, hc33, hMn⟩ a ha
         have o1 : Ok [] (M) w30.heap.size := Ok.nil _ _
         have o2 : Ok (M) (M) w30.heap.size := (Ok.refl _ _)
         have f1 := f1.chg hc33 o1 o2
         have q_hn7 : g4 ∉ M := fun h => (o2 g4 h).elim hn7 (fun h => absurd (lt_cell (hE6 0 _ rfl)) (Nat.not_lt.2 h))
         have hE6 : ∀ j v, (cS_api_Tunnel a0 ao1 cap1)[j]? = some v → w33.cell? ⟨g4, 0 + j, none⟩ = some v := fun j v hv => (cell_keep hc33 o1 hn7 (hE6 j v hv))
         have hn7 := q_hn7
         have hM : MS (M) w33 := (hM.chg hc33)
         have hC := hC.trans hc33 (Ok.nil _ _)
         refine seg ha 3 [(1, .pointer (some ⟨g4, 0, none⟩)), (64, .agg (cS_api_Addr t33.1).toArray), (65, .int .i64 t33.2)] (by kernel_rfl) fun a ha => ?_
         refine al (cs := (cS_api_Addr (⟨(0 : Int), (List.replicate 16 (0 : Int))⟩ : S_api_Addr))) (z := .agg (cS_api_Addr (⟨(0 : Int), (List.replicate 16 (0 : Int))⟩ : S_api_Addr)).toArray) ha (fun w => by kernel_rfl) rfl rfl rfl rfl fun a w34 g35 hN36 ha => ?_
         have o1 : Ok [] (M) w33.heap.size := Ok.nil _ _
         have o2 : Ok ([g35] ++ (M)) (M) w33.heap.size := (Ok.app (hN36.ok _) (Ok.refl _ _))
         have f1 := f1.chg hN36.chg o1 o2
         have q_hn7 : g4 ∉ [g35] ++ (M) := fun h => (o2 g4 h).elim hn7 (fun h => absurd (lt_cell (hE6 0 _ rfl)) (Nat.not_lt.2 h))
         have hE6 : ∀ j v, (cS_api_Tunnel a0 ao1 cap1)[j]? = some v → w34.cell? ⟨g4, 0 + j, none⟩ = some v := fun j v hv => (cell_keep hN36.chg o1 hn7 (hE6 j v hv))
         have hn7 := q_hn7
         have p_i37_M : ∀ x ∈ [g35], x ∉ M := fun x hx hy => absurd (hM x (hy)) (Nat.not_lt.2 ((hN36.ge1) x hx))
         have e_i37 : ∀ x ∈ [g35], w.heap.size ≤ x := fun x hx => Nat.le_trans hC.size ((hN36.ge1) x hx)
         have hM : MS ([g35] ++ (M)) w34 := (MS.app hN36.ms (hM.chg hN36.chg))
         have hC := hC.trans hN36.chg (Ok.nil _ _)
         have hBg35 : Box w34 g35 (cS_api_Addr (⟨(0 : Int), (List.replicate 16 (0 : Int))⟩ : S_api_Addr)) := hN36.box
         refine stA (l := (cS_api_Addr t33.1)) ha rfl rfl rfl (by kernel_rfl) rfl rfl hBg35 rfl fun a w38 ha hb2 hc39 _ => ?_
         have o1 : Ok [g35] ([g35] ++ (M)) w34.heap.size := (fun _ h => .inl (ml h))
         have o2 : Ok ([g35] ++ (M)) ([g35] ++ (M)) w34.heap.size := (Ok.refl _ _)
         have f1 := f1.chg hc39 o1 o2
         have q_hn7 : g4 ∉ [g35] ++ (M) := fun h => (o2 g4 h).elim hn7 (fun h => absurd (lt_cell (hE6 0 _ rfl)) (Nat.not_lt.2 h))
         have hE6 : ∀ j v, (cS_api_Tunnel a0 ao1 cap1)[j]? = some v → w38.cell? ⟨g4, 0 + j, none⟩ = some v := fun j v hv => (cell_keep hc39 o1 hn7 (hE6 j v hv))
         have hn7 := q_hn7
         have hM : MS ([g35] ++ (M)) w38 := (hM.chg hc39)
         have hC := hC.trans hc39 (fun x h => .inr (e_i37 x h))
         have hBg35 : Box w38 g35 (cS_api_Addr t33.1) := hb2
         refine seg ha 1 [(1, .pointer (some ⟨g4, 0, none⟩)), (3, .pointer (some ⟨g35, 0, none⟩)), (4, .int .i64 t33.2)] (by kernel_rfl) fun a ha => ?_
         refine hK32 _ _ ?_; try clear hK32 K32
         refine wp_seq_k fun K40 hK40 => ?_
         refine wp_region_lit ?_
         obtain ⟨s41, H41, H⟩ := bind_some H
         have J41 : ∀ (a : Act) (w41 : World), Has a Tryd.f21.ntmps [(2, .bool s41)] → (Box w41 g35 (cS_api_Addr t33.1)) → (Chg [] w w41) → (MS ([g35] ++ (M)) w41) → K40 a w41 := by
          intro a w41 ha hBg35 hC hM
          refine hK40 _ _ ?_; try clear hK40 K40
          refine wp_ret ?_
          try simp only [Exit.then, Exit.inBlock]
          have hBg35 := hBg35.chg (Chg.refl [] _) (fun h => nomatch h)
          have hM : MS (M) w41 := (fun x h => hM.chg (Chg.refl [] _) x (mr (h)))
          have hC := hC.trans (Chg.refl [] _) (Ok.nil _ _)
          obtain rfl := Option.some.inj H
          refine rt1 ha rfl rfl ?_
          exact ⟨rfl, hC, hM⟩
         have H := H41
         refine seg ha 3 [(68, .bool (t33.2 == (0 : Int))), (1, .pointer (some ⟨g4, 0, none⟩)), (3, .pointer (some ⟨g35, 0, none⟩))] (by kernel_rfl) fun a ha => ?_
         rcases Bool.eq_false_or_eq_true (t33.2 == (0 : Int)) with hb42 | hb42
         ·have ha := ha.lit hb42
          have H := ite_t hb42 H
          refine sgh ha 1 [2] [(1, .pointer (some ⟨g4, 0, none⟩)), (3, .pointer (some ⟨g35, 0, none⟩)), (68, .bool true), (69, .pointer (some ⟨g35, 0, none⟩))] (by kernel_rfl) fun a ha => ?_
          refine ld (v := .int .i64 t33.1.Size) ha rfl (by kernel_rfl) rfl rfl rfl (hBg35.cell' (o := 0) rfl (by kernel_rfl)) fun a ha => ?_
          refine sgh ha 2 [2, 2] [(3, .pointer (some ⟨g35, 0, none⟩)), (68, .bool true), (70, .int .i64 t33.1.Size), (72, .pointer (some ⟨g4, 0 + 3, none⟩))] (by kernel_rfl) fun a ha => ?_
          refine ld ha rfl (by kernel_rfl) rfl rfl rfl (hE6 3 (.int .i64 a0.Root.Size) (by kernel_rfl)) fun a ha => ?_
          refine sgh ha 3 [2, 3, 0] [(76, .bool (t33.1.Size == a0.Root.Size)), (3, .pointer (some ⟨g35, 0, none⟩))] (by kernel_rfl) fun a ha => ?_
          rcases Bool.eq_false_or_eq_true (t33.1.Size == a0.Root.Size) with hb43 | hb43
          ·have ha := ha.lit hb43
           have H := ite_t hb43 H
           refine ldA (cs := (cS_api_Addr t33.1)) ha rfl (by kernel_rfl) rfl rfl rfl (cells_sub (Box.cells hBg35) (all := (cS_api_Addr t33.1)) [] [] (by kernel_rfl)) fun a ha => ?_
           obtain ⟨t44, H44, H⟩ := bind_some H
           refine cl ha (by rfl) (by kernel_rfl) (by rfl) (by rfl) (by rfl) (addr_Multicast.walk w38 _ hM t33.1 k _ H44) ?_
           rintro _ w44 ⟨rfl, hc44, hMn⟩ a ha
           have hBg35 := hBg35.chg hc44 (fun h => nomatch h)
           have hM : MS ([g35] ++ (M)) w44 := (hM.chg hc44)
           have hC := hC.trans hc44 (Ok.nil _ _)
           refine sgh ha 2 [3, 0] [(2, .bool t44)] (by kernel_rfl) fun a ha => ?_
           obtain rfl := Option.some.inj H
           exact J41 _ _ (ha.sel (by kernel_rfl)) hBg35 hC hM
          ·have ha := ha.lit hb43
           have H := ite_f hb43 H
           refine sgh ha 4 [1, 1, 4, 0] [(2, .bool false)] (by kernel_rfl) fun a ha => ?_
           obtain rfl := Option.some.inj H
           exact J41 _ _ (ha.sel (by kernel_rfl)) hBg35 hC hM
         ·have ha := ha.lit hb42
          have H := ite_f hb42 H
          refine sgh ha 12 [1, 1, 1, 1, 1, 1, 4, 0, 1, 1, 4, 0] [(2, .bool false)] (by kernel_rfl) fun a ha => ?_
          obtain rfl := Option.some.inj H
          exact J41 _ _ (ha.sel (by kernel_rfl)) hBg35 hC hM
        ·have H := ite_f hc31 H
         refine wp_seq_k fun K45 hK45 => ?_
         refine wp_region_lit ?_
         refine seg ha 2 [(1, .pointer (some ⟨g4, 0, none⟩)), (80, .bool (a0.Kind == (6 : Int)))] (by kernel_rfl) fun a ha => ?_
         refine hK45 _ _ ?_; try clear hK45 K45
         refine cnd ha rfl (fun hc46 => ?_) (fun hc46 => ?_)
         ·have H := ite_t hc46 H
          refine wp_seq_k fun K47 hK47 => ?_
          refine wp_region_lit ?_
          obtain ⟨s48, H48, H⟩ := bind_some H
          have J48 : ∀ (a : Act) (w48 : World), Has a Tryd.f21.ntmps [(2, .bool s48)] → (Chg [] w w48) → (MS (M) w48) → K47 a w48 := by
           intro a w48 ha hC hM
           refine hK47 _ _ ?_; try clear hK47 K47
           refine wp_ret ?_
           try simp only [Exit.then, Exit.inBlock]
           obtain rfl := Option.some.inj H
           refine rt1 ha rfl rfl ?_
           exact ⟨rfl, hC, hM⟩
          have H := H48
          refine seg ha 2 [(1, .pointer (some ⟨g4, 0, none⟩)), (83, .pointer (some ⟨g4, 0 + 3, none⟩))] (by kernel_rfl) fun a ha => ?_
          refine ld ha rfl (by kernel_rfl) rfl rfl rfl (hE6 3 (.int .i64 a0.Root.Size) (by kernel_rfl)) fun a ha => ?_
          refine seg ha 2 [(86, .bool (decide (a0.Root.Size > (0 : Int)))), (1, .pointer (some ⟨g4, 0, none⟩))] (by kernel_rfl) fun a ha => ?_
          rcases Bool.eq_false_or_eq_true (decide (a0.Root.Size > (0 : Int))) with hb49 | hb49
          ·have ha := ha.lit hb49
           have H := ite_t hb49 H
           refine sgh ha 1 [2] [(86, .bool true), (87, .pointer (some ⟨g4, 0 + 20, none⟩))] (by kernel_rfl) fun a ha => ?_
           refine ld ha rfl (by kernel_rfl) rfl rfl rfl (hE6 20 (.slice ao1 a0.Id.length cap1) (by kernel_rfl)) fun a ha => ?_
           refine sgh ha 4 [2, 2, 3, 0] [(2, .bool ((a0.Id.length : Int) == (0 : Int)))] (by kernel_rfl) fun a ha => ?_
           obtain rfl := Option.some.inj H
           exact J48 _ _ (ha.sel (by kernel_rfl)) hC hM
          ·have ha := ha.lit hb49
           have H := ite_f hb49 H
           refine sgh ha 6 [1, 1, 1, 1, 4, 0] [(2, .bool false)] (by kernel_rfl) fun a ha => ?_
           obtain rfl := Option.some.inj H
           exact J48 _ _ (ha.sel (by kernel_rfl)) hC hM
         ·have H := ite_f hc46 H
          refine wp_skip ?_
          refine hK13 _ _ ?_; try clear hK13 K13
          refine wp_seq_k fun K50 hK50 => ?_
          refine wp_region_lit ?_
          refine seg ha 1 [(2, .bool false)] (by kernel_rfl) fun a ha => ?_
          refine hK50 _ _ ?_; try clear hK50 K50
          refine wp_ret ?_
          try simp only [Exit.then, Exit.inBlock]
          obtain rfl := Option.some.inj H
          refine rt1 ha rfl rfl ?_
          exact ⟨rfl, hC, hM⟩
       have H := H30
       refine wp_seq_k fun K51 hK51 => ?_
       refine wp_region_lit ?_
       refine seg ha 2 [(1, .pointer (some ⟨g4, 0, none⟩)), (20, .int .i64 a0.Kind), (56, .bool (a0.Kind == (3 : Int)))] (by kernel_rfl) fun a ha => ?_
       refine hK51 _ _ ?_; try clear hK51 K51
       refine cnd ha rfl (fun hc52 => ?_) (fun hc52 => ?_)
       ·have H := ite_t hc52 H
        refine wp_skip ?_
        obtain rfl := Option.some.inj H
        exact J30 _ _ (ha.sel (by kernel_rfl)) f1 hE6 hn7 hC hM
       ·have H := ite_f hc52 H
        refine wp_seq_k fun K53 hK53 => ?_
        refine wp_region_lit ?_
        refine seg ha 2 [(1, .pointer (some ⟨g4, 0, none⟩)), (20, .int .i64 a0.Kind), (56, .bool (a0.Kind == (4 : Int)))] (by kernel_rfl) fun a ha => ?_
        refine hK53 _ _ ?_; try clear hK53 K53
        refine cnd ha rfl (fun hc54 => ?_) (fun hc54 => ?_)
        ·have H := ite_t hc54 H
         refine wp_skip ?_
         obtain rfl := Option.some.inj H
         exact J30 _ _ (ha.sel (by kernel_rfl)) f1 hE6 hn7 hC hM
        ·have H := ite_f hc54 H
         refine wp_region_lit ?_
         refine seg ha 2 [(1, .pointer (some ⟨g4, 0, none⟩)), (20, .int .i64 a0.Kind), (56, .bool (a0.Kind == (5 : Int)))] (by kernel_rfl) fun a ha => ?_
         obtain rfl := Option.some.inj H
         exact J30 _ _ (ha.sel (by kernel_rfl)) f1 hE6 hn7 hC hM
     have H := H24
     refine wp_seq_k fun K55 hK55 => ?_
     refine wp_region_lit ?_
     refine seg ha 2 [(1, .pointer (some ⟨g4, 0, none⟩)), (20, .int .i64 a0.Kind), (43, .bool (a0.Kind == (2 : Int)))] (by kernel_rfl) fun a ha => ?_
     refine hK55 _ _ ?_; try clear hK55 K55
     refine cnd ha rfl (fun hc56 => ?_) (fun hc56 => ?_)
     ·have H := ite_t hc56 H
      refine wp_skip ?_
      obtain rfl := Option.some.inj H
      exact J24 _ _ (ha.sel (by kernel_rfl)) f1 hE6 hn7 hC hM
     ·have H := ite_f hc56 H
      refine wp_region_lit ?_
      refine seg ha 2 [(1, .pointer (some ⟨g4, 0, none⟩)), (20, .int .i64 a0.Kind), (43, .bool (a0.Kind == (7 : Int)))] (by kernel_rfl) fun a ha => ?_
      obtain rfl := Option.some.inj H
      exact J24 _ _ (ha.sel (by kernel_rfl)) f1 hE6 hn7 hC hM
 have H := H10
 refine seg ha 1 [(1, .pointer (some ⟨g4, 0, none⟩)), (5, .pointer (some ⟨g4, 0 + 3, none⟩))] (by kernel_rfl) fun a ha => ?_
 refine ldA (cs := (cS_api_Addr a0.Root)) ha rfl (by kernel_rfl) rfl rfl rfl (cells_sub hE6 (all := (cS_api_Tunnel a0 ao1 cap1)) [.bool a0.Leaf, .int .i64 a0.Kind, .int .i64 a0.Label] [.slice ao1 a0.Id.length cap1] (by kernel_rfl)) fun a ha => ?_
 obtain ⟨t57, H57, H⟩ := bind_some H
 refine cl ha (by rfl) (by kernel_rfl) (by rfl) (by rfl) (by rfl) (addr_Right.walk w3 _ hM a0.Root k _ H57) ?_
 rintro _ w57 ⟨rfl, hc57, hMn⟩ a ha
 have o1 : Ok [] (M) w3.heap.size := Ok.nil _ _
 have o2 : Ok (M) (M) w3.heap.size := (Ok.refl _ _)
 have f1 := f1.chg hc57 o1 o2
 have q_hn7 : g4 ∉ M := fun h => (o2 g4 h).elim hn7 (fun h => absurd (lt_cell (hE6 0 _ rfl)) (Nat.not_lt.2 h))
 have hE6 : ∀ j v, (cS_api_Tunnel a0 ao1 cap1)[j]? = some v → w57.cell? ⟨g4, 0 + j, none⟩ = some v := fun j v hv => (cell_keep hc57 o1 hn7 (hE6 j v hv))
 have hn7 := q_hn7
 have hM : MS (M) w57 := (hM.chg hc57)
 have hC := hC.trans hc57 (Ok.nil _ _)
 refine seg ha 2 [(9, .bool (!t57)), (1, .pointer (some ⟨g4, 0, none⟩))] (by kernel_rfl) fun a ha => ?_
 rcases Bool.eq_false_or_eq_true (!t57) with hb58 | hb58
 ·have ha := ha.lit hb58
  have H := ite_t hb58 H
  refine sgh ha 9 [1, 1, 1, 3, 0, 1, 1, 1, 3] [(1, .pointer (some ⟨g4, 0, none⟩)), (18, .bool true)] (by kernel_rfl) fun a ha => ?_
  obtain rfl := Option.some.inj H
  exact J10 _ _ (ha.sel (by kernel_rfl)) f1 hE6 hn7 hC hM
 ·have ha := ha.lit hb58
  have H := ite_f hb58 H
  refine sgh ha 1 [2] [(1, .pointer (some ⟨g4, 0, none⟩)), (9, .bool false), (10, .pointer (some ⟨g4, 0 + 2, none⟩))] (by kernel_rfl) fun a ha => ?_
  refine ld ha rfl (by kernel_rfl) rfl rfl rfl (hE6 2 (.int .i64 a0.Label) (by kernel_rfl)) fun a ha => ?_
  refine sgh ha 3 [2, 4, 0] [(14, .bool (decide (a0.Label < (0 : Int)))), (1, .pointer (some ⟨g4, 0, none⟩))] (by kernel_rfl) fun a ha => ?_
  rcases Bool.eq_false_or_eq_true (decide (a0.Label < (0 : Int))) with hb59 | hb59
  ·have ha := ha.lit hb59
   have H := ite_t hb59 H
   refine sgh ha 4 [1, 1, 1, 3] [(1, .pointer (some ⟨g4, 0, none⟩)), (18, .bool true)] (by kernel_rfl) fun a ha => ?_
   obtain rfl := Option.some.inj H
   exact J10 _ _ (ha.sel (by kernel_rfl)) f1 hE6 hn7 hC hM
  ·have ha := ha.lit hb59
   have H := ite_f hb59 H
   refine sgh ha 1 [2] [(1, .pointer (some ⟨g4, 0, none⟩)), (14, .bool false), (15, .pointer (some ⟨g4, 0 + 2, none⟩))] (by kernel_rfl) fun a ha => ?_
   refine ld ha rfl (by kernel_rfl) rfl rfl rfl (hE6 2 (.int .i64 a0.Label) (by kernel_rfl)) fun a ha => ?_
   refine sgh ha 2 [2, 4] [(1, .pointer (some ⟨g4, 0, none⟩)), (18, .bool (decide (a0.Label > (1048575 : Int))))] (by kernel_rfl) fun a ha => ?_
   obtain rfl := Option.some.inj H
   exact J10 _ _ (ha.sel (by kernel_rfl)) f1 hE6 hn7 hC hM

def bytes_Clone.f (a0 : List Int) : Option (List Int) := if a0.length ≤ 140737488355328 then some a0 else none
theorem bytes_Clone.walk (w : World) (M : List Nat) (hM : MS M w) (a0 : List Int) (ao1 : Option Addr) (cap1 : Nat) (f1 : RSl (rInt .u8) 5 w M ao1 cap1 a0) (r : List Int) (H : bytes_Clone.f a0 = some r) :
    To Tryd.prog 85 [.slice ao1 a0.length cap1] w fun v w' => ∃ (ao2 : Option Addr) (cap2 : Nat), v = .slice ao2 r.length cap2 ∧ (Own (rInt .u8) 5 w' (blkL ao2 ++ M) ao2 cap2 r) ∧ (∀ x ∈ blkL ao2, w.heap.size ≤ x) ∧ Chg [] w w' ∧ MS (blkL ao2 ++ M) w' := by
  unfold bytes_Clone.f at H
  obtain ⟨hb, H⟩ := ite_some H
  obtain rfl := Option.some.inj H
  refine ent Tryd.func85 rfl [(0, .slice ao1 a0.length cap1)] rfl rfl fun a ha => ?_
  refine wp_seq_k fun K hK => ?_
  refine wp_region_lit ?_
  refine seg ha 1 [(0, .slice ao1 a0.length cap1)] (by kernel_rfl) fun a ha => ?_
  refine hK _ _ ?_; clear hK K
  refine wp_seq_k fun K hK => ?_
  refine wp_seq_k fun K2 hK2 => ?_
  refine wp_region_lit ?_
  refine seg ha 2 [(0, .slice ao1 a0.length cap1), (4, .bool ao1.isNone)] (by kernel_rfl) fun a ha => ?_
  refine hK2 _ _ ?_; clear hK2 K2
  refine cnd ha rfl (fun hc => ?_) (fun hc => ?_)
  · refine wp_seq_k fun K2 hK2 => ?_
    refine wp_region_lit ?_
    refine seg ha 1 [(2, .slice none 0 0)] (by kernel_rfl) fun a ha => ?_
    refine hK2 _ _ ?_; clear hK2 K2
    refine wp_ret ?_
    have hx : a0 = [] := by
      rcases f1 with ⟨_, _, h | ⟨g, o, cur, fr, e, _⟩⟩
      · exact h
      · subst e; simp at hc
    simp only [Exit.then]
    refine rt1 ha rfl rfl ?_
    exact ⟨none, 0, by rw [hx]; rfl, by rw [hx]; exact Own.nil, (fun _ h => nomatch h), Chg.refl _ _, hM⟩
  · refine wp_skip ?_
    refine hK _ _ ?_; clear hK K
    refine wp_seq_k fun K hK => ?_
    refine wp_region_lit ?_
    refine bsl (vals := []) (T := 5) ha rfl [] (fun w => by kernel_rfl) rfl rfl rfl fun a w1 g hN ha => ?_
    refine seg ha 1 [(0, .slice ao1 a0.length cap1), (5, .slice (some ⟨g, 0, none⟩) 0 0), (6, .slice ao1 a0.length cap1)] (by kernel_rfl) fun a ha => ?_
    have hO : Own (rInt .u8) 5 w1 ([g] ++ M) (some ⟨g, 0, none⟩) 0 [] := hN.own rfl (Nat.zero_le _)
    have h1 : RSl (rInt .u8) 5 w1 ([g] ++ M) ao1 cap1 a0 := f1.chg hN.chg (Ok.nil _ _) (Ok.app (hN.ok _) (Ok.refl _ _))
    refine app (r := rInt .u8) (xs := []) ha (ElemT.mk' (bytes := 1) (by kernel_rfl)) rfl rfl rfl rfl rfl hO h1.src (by simpa using hb) (by decide) fun a w2 ao2 cap2 hO2 hc2 hok hlt ha => ?_
    refine seg ha 1 [(2, .slice ao2 ([] ++ a0).length cap2)] (by kernel_rfl) fun a ha => ?_
    refine hK _ _ ?_; clear hK K
    refine wp_ret ?_
    refine rt1 ha rfl rfl ⟨ao2, cap2, rfl, ?_, ?_, ?_, ?_⟩
    · exact hO2.chg (Chg.refl [] _) (Ok.nil _ _) (Ok.app (fun g hg => .inl (ml hg)) (fun g hg => .inl (mr (mr hg)))) (fun _ _ hh => nomatch hh) (fun g hg => ml hg)
    · intro x hx
      rcases hok x hx with h | h
      · simp [blkL] at h; subst h; exact hN.ge
      · exact Nat.le_trans hN.chg.size h
    · exact hN.chg.trans hc2 (Ok.one (.inr hN.ge))
    · exact MS.app hlt ((hM.chg hN.chg).chg hc2)

def cursor_Put.l0 (a1 : Int) : Nat → (List Int) → Int → Option (List Int)
  | 0, _, _ => none
  | kk + 1, x20, x21 => (if (decide (x21 ≥ (0 : Int))) = true then (if 0 ≤ x21 then (if (x20.length + ([IntKind.u8.wrap (Int.fdiv a1 (2 ^ (min (Int.toNat x21) IntKind.i64.bits)))] : List Int).length) * 1 ≤ 140737488355328 then cursor_Put.l0 a1 kk (x20 ++ ([IntKind.u8.wrap (Int.fdiv a1 (2 ^ (min (Int.toNat x21) IntKind.i64.bits)))] : List Int)) (IntKind.i64.wrap (x21 - (8 : Int))) else none) else none) else some (x20 : List Int))
def cursor_Put.f (k : Nat) (a0 : List Int) (a1 : Int) (a2 : Int) : Option (List Int × Int) := (if (if (decide (a2 < (1 : Int))) = true then true else (decide (a2 > (4 : Int)))) = true then some ((([] : List Int) : List Int), ((1 : Int) : Int)) else ((if (decide (a1 < (0 : Int))) = true then some (true : Bool) else (if 0 ≤ (IntKind.i64.wrap ((8 : Int) * a2)) then some ((Int.fdiv a1 (2 ^ (min (Int.toNat (IntKind.i64.wrap ((8 : Int) * a2))) IntKind.i64.bits))) != (0 : Int) : Bool) else none))).bind fun s9 => (if s9 = true then some ((([] : List Int) : List Int), ((5 : Int) : Int)) else (bytes_Clone.f a0).bind fun t14 => (cursor_Put.l0 a1 k t14 (IntKind.i64.wrap ((8 : Int) * (IntKind.i64.wrap (a2 - (1 : Int)))))).bind fun s18 => some ((s18 : List Int), ((0 : Int) : Int))))
set_option maxRecDepth 100000 in
theorem cursor_Put.walk (w : World) (M : List Nat) (hM : MS M w) (a0 : List Int) (ao1 : Option Addr) (cap1 : Nat) (f1 : RSl (rInt .u8) 5 w M ao1 cap1 a0) (a1 : Int) (a2 : Int) (k : Nat) (r : List Int × Int) (H : cursor_Put.f k a0 a1 a2 = some r) :
    To Tryd.prog 59 [.slice ao1 a0.length cap1, .int .i64 a1, .int .i64 a2] w fun v w' => ∃ (ao39 : Option Addr) (cap39 : Nat), v = .tuple #[.slice ao39 r.1.length cap39, .int .i64 r.2] ∧ (Own (rInt .u8) 5 w' (blkL ao39 ++ (M)) ao39 cap39 r.1) ∧ (∀ x ∈ blkL ao39, w.heap.size ≤ x) ∧ Chg [] w w' ∧ MS (blkL ao39 ++ (M)) w' := by
 unfold cursor_Put.f at H
 refine ent Tryd.func59 rfl [(0, .slice ao1 a0.length cap1), (1, .int .i64 a1), (2, .int .i64 a2)] rfl (by rfl) fun a ha => ?_
 have hC : Chg [] w w := Chg.refl _ _
 refine wp_seq_k fun K2 hK2 => ?_
 refine wp_region_lit ?_
 refine seg ha 2 [(0, .slice ao1 a0.length cap1), (1, .int .i64 a1), (2, .int .i64 a2)] (by kernel_rfl) fun a ha => ?_
 refine hK2 _ _ ?_; try clear hK2 K2
 refine wp_seq_k fun K3 hK3 => ?_
 refine wp_block ?_
 refine wp_seq_k fun K4 hK4 => ?_
 refine wp_region_lit ?_
 refine seg ha 7 [(0, .slice ao1 a0.length cap1), (1, .int .i64 a1), (2, .int .i64 a2), (10, .bool (if (decide (a2 < (1 : Int))) = true then true else (decide (a2 > (4 : Int)))))] (by kernel_rfl) fun a ha => ?_
 refine hK4 _ _ ?_; try clear hK4 K4
 refine cnd ha rfl (fun hc5 => ?_) (fun hc5 => ?_)
 ·have H := ite_t hc5 H
  refine wp_seq_k fun K6 hK6 => ?_
  refine wp_region_lit ?_
  refine seg ha 2 [(6, .slice none 0 0), (7, .int .i64 (1 : Int))] (by kernel_rfl) fun a ha => ?_
  refine hK6 _ _ ?_; try clear hK6 K6
  refine wp_ret ?_
  try simp only [Exit.then, Exit.inBlock]
  have p_z7_M : ∀ x ∈ blkL none, x ∉ M := fun x hx hy => absurd (hM x (hy)) (Nat.not_lt.2 ((fun _ h => nomatch h) x hx))
  have e_z7 : ∀ x ∈ blkL none, w.heap.size ≤ x := fun x hx => Nat.le_trans hC.size ((fun _ h => nomatch h) x hx)
  have hM : MS (blkL none ++ (M)) w := (MS.app (fun _ h => nomatch h) (hM.chg (Chg.refl [] _)))
  have hC := hC.trans (Chg.refl [] _) (Ok.nil _ _)
  obtain rfl := Option.some.inj H
  refine rt2 ha rfl rfl rfl ?_
  exact ⟨none, 0, rfl, Own.nil, e_z7, hC, hM⟩
 ·have H := ite_f hc5 H
  refine wp_seq_k fun K8 hK8 => ?_
  refine wp_region_lit ?_
  obtain ⟨s9, H9, H⟩ := bind_some H
  have J9 : ∀ (a : Act) (w9 : World), Has a Tryd.f59.ntmps [(0, .slice ao1 a0.length cap1), (1, .int .i64 a1), (2, .int .i64 a2), (17, .bool s9)] → (RSl (rInt .u8) 5 w9 (M) ao1 cap1 a0) → (Chg [] w w9) → (MS (M) w9) → K8 a w9 := by
   intro a w9 ha f1 hC hM
   refine hK8 _ _ ?_; try clear hK8 K8
   refine cnd ha rfl (fun hc10 => ?_) (fun hc10 => ?_)
   ·have H := ite_t hc10 H
    refine wp_seq_k fun K11 hK11 => ?_
    refine wp_region_lit ?_
    refine seg ha 2 [(6, .slice none 0 0), (7, .int .i64 (5 : Int))] (by kernel_rfl) fun a ha => ?_
    refine hK11 _ _ ?_; try clear hK11 K11
    refine wp_ret ?_
    try simp only [Exit.then, Exit.inBlock]
    have p_z12_M : ∀ x ∈ blkL none, x ∉ M := fun x hx hy => absurd (hM x (hy)) (Nat.not_lt.2 ((fun _ h => nomatch h) x hx))
    have e_z12 : ∀ x ∈ blkL none, w.heap.size ≤ x := fun x hx => Nat.le_trans hC.size ((fun _ h => nomatch h) x hx)
    have hM : MS (blkL none ++ (M)) w9 := (MS.app (fun _ h => nomatch h) (hM.chg (Chg.refl [] _)))
    have hC := hC.trans (Chg.refl [] _) (Ok.nil _ _)
    obtain rfl := Option.some.inj H
    refine rt2 ha rfl rfl rfl ?_
    exact ⟨none, 0, rfl, Own.nil, e_z12, hC, hM⟩
   ·have H := ite_f hc10 H
    refine wp_skip ?_
    refine hK3 _ _ ?_; try clear hK3 K3
    refine wp_seq_k fun K13 hK13 => ?_
    refine wp_region_lit ?_
    refine seg ha 1 [(1, .int .i64 a1), (2, .int .i64 a2), (27, .slice ao1 a0.length cap1)] (by kernel_rfl) fun a ha => ?_
    obtain ⟨t14, H14, H⟩ := bind_some H
    refine cl ha (by rfl) (by kernel_rfl) (by rfl) (by rfl) (by rfl) (bytes_Clone.walk w9 _ hM a0 ao1 cap1 f1 _ H14) ?_
    rintro _ w14 ⟨ao15, cap15, rfl, f15, ne_i15, hc14, hMn⟩ a ha
    have o1 : Ok [] (M) w9.heap.size := Ok.nil _ _
    have o2 : Ok (blkL ao15 ++ (M)) (M) w9.heap.size := (Ok.app (fun x h => .inr (ne_i15 x h)) (Ok.refl _ _))
    have f1 := f1.chg hc14 o1 o2
    have p_i15_M : ∀ x ∈ blkL ao15, x ∉ M := fun x hx hy => absurd (hM x (hy)) (Nat.not_lt.2 (ne_i15 x hx))
    have e_i15 : ∀ x ∈ blkL ao15, w.heap.size ≤ x := fun x hx => Nat.le_trans hC.size (ne_i15 x hx)
    have hM : MS (blkL ao15 ++ (M)) w14 := (MS.app (fun x h => hMn x (ml h)) (hM.chg hc14))
    have hC := hC.trans hc14 (Ok.nil _ _)
    refine seg ha 1 [(1, .int .i64 a1), (2, .int .i64 a2), (8, .slice ao15 t14.length cap15)] (by kernel_rfl) fun a ha => ?_
    refine hK13 _ _ ?_; try clear hK13 K13
    refine wp_seq_k fun K16 hK16 => ?_
    refine wp_seq_k fun K17 hK17 => ?_
    refine wp_region_lit ?_
    refine seg ha 4 [(1, .int .i64 a1), (8, .slice ao15 t14.length cap15), (9, .int .i64 (IntKind.i64.wrap ((8 : Int) * (IntKind.i64.wrap (a2 - (1 : Int))))))] (by kernel_rfl) fun a ha => ?_
    refine hK17 _ _ ?_; try clear hK17 K17
    refine wp_block ?_
    obtain ⟨s18, H18, H⟩ := bind_some H
    have J18 : ∀ (a : Act) (wx18 : World) (ao22 : Option Addr) (cap22 : Nat), Has a Tryd.f59.ntmps [(8, .slice ao22 s18.length cap22)] → (Own (rInt .u8) 5 wx18 (blkL ao22 ++ (M)) ao22 cap22 s18) → (∀ x ∈ blkL ao22, w.heap.size ≤ x) → (∀ x ∈ blkL ao22, x ∉ M) → (Chg [] w wx18) → (MS (blkL ao22 ++ (M)) wx18) → K16 a wx18 := by
     intro a wx18 ao22 cap22 ha f22 e_i22 p_i22_M hC hM
     refine hK16 _ _ ?_; try clear hK16 K16
     refine wp_seq_k fun K23 hK23 => ?_
     refine wp_region_lit ?_
     refine seg ha 3 [(6, .slice ao22 s18.length cap22), (7, .int .i64 (0 : Int))] (by kernel_rfl) fun a ha => ?_
     refine hK23 _ _ ?_; try clear hK23 K23
     refine wp_ret ?_
     try simp only [Exit.then, Exit.inBlock]
     obtain rfl := Option.some.inj H
     refine rt2 ha rfl rfl rfl ?_
     exact ⟨ao22, cap22, rfl, f22, e_i22, hC, hM⟩
    have Hc18 := H
    have H := H18
    refine wp_loop_ghost (fun kk a w18 => ∃ (x20 : List Int) (x21 : Int) (ao19 : Option Addr) (cap19 : Nat), cursor_Put.l0 a1 kk x20 x21 = some s18 ∧ Has a Tryd.f59.ntmps [(1, .int .i64 a1), (8, .slice ao19 x20.length cap19), (9, .int .i64 x21)] ∧ (Own (rInt .u8) 5 w18 (blkL ao19 ++ (M)) ao19 cap19 x20) ∧ (∀ x ∈ blkL ao19, w.heap.size ≤ x) ∧ (∀ x ∈ blkL ao19, x ∉ M) ∧ (Chg [] w w18) ∧ (MS (blkL ao19 ++ (M)) w18)) k ?_ ?_
    ·skip
     exact ⟨t14, IntKind.i64.wrap ((8 : Int) * (IntKind.i64.wrap (a2 - (1 : Int)))), ao15, cap15, H, (ha.sel (by kernel_rfl)), f15, e_i15, p_i15_M, hC, hM⟩
    ·rintro kk a w18 ⟨x20, x21, ao19, cap19, H, ha, f19, e_i19, p_i19_M, hC, hM⟩
     obtain _ | kk := kk
     ·exact nomatch (show none = some _ from H)
     rw [cursor_Put.l0] at H
     refine wp_seq_k fun K24 hK24 => ?_
     refine wp_seq_k fun K25 hK25 => ?_
     refine wp_region_lit ?_
     refine seg ha 2 [(1, .int .i64 a1), (8, .slice ao19 x20.length cap19), (9, .int .i64 x21), (33, .bool (decide (x21 ≥ (0 : Int))))] (by kernel_rfl) fun a ha => ?_
     refine hK25 _ _ ?_; try clear hK25 K25
     refine cnd ha rfl (fun hc26 => ?_) (fun hc26 => ?_)
     ·have H := ite_t hc26 H
      refine wp_skip ?_
      refine hK24 _ _ ?_; try clear hK24 K24
      refine wp_seq_k fun K27 hK27 => ?_
      refine wp_block ?_
      refine wp_region_lit ?_
      refine seg ha 3 [(1, .int .i64 a1), (9, .int .i64 x21), (36, .slice ao19 x20.length cap19), (37, .int .i64 a1), (38, .int .i64 x21)] (by kernel_rfl) fun a ha => ?_
      obtain ⟨hx28, H⟩ := ite_some H
      refine hop (v := .int .i64 (Int.fdiv a1 (2 ^ (min (Int.toNat x21) IntKind.i64.bits)))) (w' := w18) ha rfl rfl rfl (shr_run ha (by rfl) (by rfl) hx28 _) fun a ha => ?_
      refine seg ha 1 [(1, .int .i64 a1), (9, .int .i64 x21), (36, .slice ao19 x20.length cap19), (40, .int .u8 (IntKind.u8.wrap (Int.fdiv a1 (2 ^ (min (Int.toNat x21) IntKind.i64.bits)))))] (by kernel_rfl) fun a ha => ?_
      refine bsl (vals := ([.int .u8 (IntKind.u8.wrap (Int.fdiv a1 (2 ^ (min (Int.toNat x21) IntKind.i64.bits))))] : List Value)) (T := 5) ha rfl (([.int .u8 (IntKind.u8.wrap (Int.fdiv a1 (2 ^ (min (Int.toNat x21) IntKind.i64.bits))))] : List Value) ++ ([] : List Value)) (fun w => by kernel_rfl) rfl rfl rfl fun a w29 g30 hN31 ha => ?_
      have o1 : Ok [] (blkL ao19 ++ (M)) w18.heap.size := Ok.nil _ _
      have o2 : Ok ([g30] ++ (blkL ao19 ++ (M))) (blkL ao19 ++ (M)) w18.heap.size := (Ok.app (hN31.ok _) (Ok.refl _ _))
      have f19 := f19.chg hN31.chg o1 o2 (fun _ _ h => nomatch h) (fun _ h => mr (ml h))
      have p_i32_i19 : ∀ x ∈ [g30], x ∉ (blkL ao19) := fun x hx hy => absurd (hM x (ml hy)) (Nat.not_lt.2 ((hN31.ge1) x hx))
      have p_i32_M : ∀ x ∈ [g30], x ∉ M := fun x hx hy => absurd (hM x (mr (hy))) (Nat.not_lt.2 ((hN31.ge1) x hx))
      have e_i32 : ∀ x ∈ [g30], w.heap.size ≤ x := fun x hx => Nat.le_trans hC.size ((hN31.ge1) x hx)
      have hM : MS ([g30] ++ (blkL ao19 ++ (M))) w29 := (MS.app hN31.ms (hM.chg hN31.chg))
      have hC := hC.trans hN31.chg (Ok.nil _ _)
      have f33 : Own (rInt .u8) 5 w29 ([g30] ++ (blkL ao19 ++ (M))) (some ⟨g30, 0, none⟩) 1 ([IntKind.u8.wrap (Int.fdiv a1 (2 ^ (min (Int.toNat x21) IntKind.i64.bits)))] : List Int) := hN31.own ⟨([.int .u8 (IntKind.u8.wrap (Int.fdiv a1 (2 ^ (min (Int.toNat x21) IntKind.i64.bits))))] : List Value), _, rfl, rfl, rfl⟩ (Nat.le_of_ble_eq_true rfl)
      obtain ⟨hx34, H⟩ := ite_some H
      refine app (r := (rInt .u8)) (xs := x20) (ys := ([IntKind.u8.wrap (Int.fdiv a1 (2 ^ (min (Int.toNat x21) IntKind.i64.bits)))] : List Int)) ha (ElemT.mk' (bytes := 1) (by kernel_rfl)) rfl rfl rfl rfl rfl f19 f33.src hx34 (by decide) fun a w35 ao36 cap36 hO36 hc36 hk36 hl36 ha => ?_
      have o1 : Ok (blkL ao19) ([g30] ++ (blkL ao19 ++ (M))) w29.heap.size := (fun _ h => .inl (mr (ml h)))
      have o2 : Ok (blkL ao36 ++ ([g30] ++ (M))) ([g30] ++ (blkL ao19 ++ (M))) w29.heap.size := (Ok.app (Ok.to hk36 (fun _ h => mr (ml h))) (Ok.app (fun _ h => .inl (ml h)) (fun _ h => .inl (mr (mr (h))))))
      have f33 := f33.chg hc36 o1 o2 p_i32_i19 (fun _ h => mr (ml h))
      have p_i36_i32 : ∀ x ∈ blkL ao36, x ∉ ([g30]) := fun x hx hy => (hk36 x hx).elim (fun h => (fun x hx hy => p_i32_i19 x hy hx) x h hy) (fun h => absurd (hM x (ml hy)) (Nat.not_lt.2 h))
      have p_i36_M : ∀ x ∈ blkL ao36, x ∉ M := fun x hx hy => (hk36 x hx).elim (fun h => p_i19_M x h hy) (fun h => absurd (hM x (mr (mr (hy)))) (Nat.not_lt.2 h))
      have e_i36 : ∀ x ∈ blkL ao36, w.heap.size ≤ x := fun x hx => (hk36 x hx).elim (e_i19 x) (Nat.le_trans hC.size)
      have hM : MS (blkL ao36 ++ ([g30] ++ (M))) w35 := (MS.app hl36 (MS.app (fun x h => hM.chg hc36 x (ml h)) (fun x h => hM.chg hc36 x (mr (mr (h))))))
      have hC := hC.trans hc36 (fun x h => .inr (e_i19 x h))
      have f36 := hO36.chg (M' := blkL ao36 ++ ([g30] ++ (M))) (Chg.refl [] _) (Ok.nil _ _) (Ok.app (fun _ h => .inl (ml h)) (Ok.to (Ok.app (fun _ h => .inl (ml h)) (fun _ h => .inl (mr (mr (h))))) (fun _ h => mr h))) (fun _ _ h => nomatch h) (fun _ h => ml h)
      refine seg ha 1 [(1, .int .i64 a1), (8, .slice ao36 (x20 ++ ([IntKind.u8.wrap (Int.fdiv a1 (2 ^ (min (Int.toNat x21) IntKind.i64.bits)))] : List Int)).length cap36), (9, .int .i64 x21)] (by kernel_rfl) fun a ha => ?_
      refine hK27 _ _ ?_; try clear hK27 K27
      refine wp_region_lit ?_
      refine seg ha 3 [(1, .int .i64 a1), (8, .slice ao36 (x20 ++ ([IntKind.u8.wrap (Int.fdiv a1 (2 ^ (min (Int.toNat x21) IntKind.i64.bits)))] : List Int)).length cap36), (9, .int .i64 (IntKind.i64.wrap (x21 - (8 : Int))))] (by kernel_rfl) fun a ha => ?_
      have o1 : Ok [] (blkL ao36 ++ ([g30] ++ (M))) w35.heap.size := Ok.nil _ _
      have o2 : Ok (blkL ao36 ++ (M)) (blkL ao36 ++ ([g30] ++ (M))) w35.heap.size := (Ok.app (fun _ h => .inl (ml h)) (fun _ h => .inl (mr (mr (h)))))
      have f36 := f36.chg (Chg.refl [] _) o1 o2 (fun _ _ h => nomatch h) (fun _ h => ml h)
      have hM : MS (blkL ao36 ++ (M)) w35 := (MS.app (fun x h => hM.chg (Chg.refl [] _) x (ml h)) (fun x h => hM.chg (Chg.refl [] _) x (mr (mr (h)))))
      have hC := hC.trans (Chg.refl [] _) (Ok.nil _ _)
      exact ⟨kk, Nat.lt_succ_self _, ⟨(x20 ++ ([IntKind.u8.wrap (Int.fdiv a1 (2 ^ (min (Int.toNat x21) IntKind.i64.bits)))] : List Int)), IntKind.i64.wrap (x21 - (8 : Int)), ao36, cap36, H, (ha.sel (by kernel_rfl)), f36, e_i36, p_i36_M, hC, hM⟩⟩
     ·have H := ite_f hc26 H
      refine wp_exit ?_
      simp only [Exit.then, Exit.inBlock, ↓reduceIte, Nat.reduceEqDiff]
      obtain rfl := Option.some.inj H
      exact J18 _ _ ao19 cap19 (ha.sel (by kernel_rfl)) f19 e_i19 p_i19_M hC hM
  have H := H9
  refine seg ha 3 [(20, .bool (decide (a1 < (0 : Int)))), (0, .slice ao1 a0.length cap1), (1, .int .i64 a1), (2, .int .i64 a2)] (by kernel_rfl) fun a ha => ?_
  rcases Bool.eq_false_or_eq_true (decide (a1 < (0 : Int))) with hb37 | hb37
  ·have ha := ha.lit hb37
   have H := ite_t hb37 H
   refine sgh ha 7 [1, 1, 1, 1, 1, 3, 0] [(0, .slice ao1 a0.length cap1), (1, .int .i64 a1), (2, .int .i64 a2), (17, .bool true)] (by kernel_rfl) fun a ha => ?_
   obtain rfl := Option.some.inj H
   exact J9 _ _ (ha.sel (by kernel_rfl)) f1 hC hM
  ·have ha := ha.lit hb37
   have H := ite_f hb37 H
   refine sgh ha 3 [2, 2, 2] [(0, .slice ao1 a0.length cap1), (1, .int .i64 a1), (2, .int .i64 a2), (20, .bool false), (21, .int .i64 a1), (23, .int .i64 (IntKind.i64.wrap ((8 : Int) * a2)))] (by kernel_rfl) fun a ha => ?_
   obtain ⟨hx38, H⟩ := ite_some H
   refine hop (v := .int .i64 (Int.fdiv a1 (2 ^ (min (Int.toNat (IntKind.i64.wrap ((8 : Int) * a2))) IntKind.i64.bits)))) (w' := w) ha rfl rfl rfl (shr_run ha (by rfl) (by rfl) hx38 _) fun a ha => ?_
   refine sgh ha 3 [2, 4, 0] [(0, .slice ao1 a0.length cap1), (1, .int .i64 a1), (2, .int .i64 a2), (17, .bool ((Int.fdiv a1 (2 ^ (min (Int.toNat (IntKind.i64.wrap ((8 : Int) * a2))) IntKind.i64.bits))) != (0 : Int)))] (by kernel_rfl) fun a ha => ?_
   obtain rfl := Option.some.inj H
   exact J9 _ _ (ha.sel (by kernel_rfl)) f1 hC hM
def label_Bytes.f (k : Nat) (a0 : Int) (a1 : Bool) : Option (List Int × Int) := (if (if (decide (a0 < (0 : Int))) = true then true else (decide (a0 > (1048575 : Int)))) = true then some ((([] : List Int) : List Int), ((5 : Int) : Int)) else ((if a1 = true then some (IntKind.i64.wrap (BitVec.ofInt IntKind.i64.bits (IntKind.i64.wrap (a0 * 2 ^ (min (4 : Int).toNat IntKind.i64.bits))) ||| BitVec.ofInt IntKind.i64.bits (1 : Int)).toNat : Int) else some (IntKind.i64.wrap (a0 * 2 ^ (min (4 : Int).toNat IntKind.i64.bits)) : Int))).bind fun s9 => (cursor_Put.f k ([] : List Int) s9 (3 : Int)).bind fun t11 => some ((t11.1 : List Int), (t11.2 : Int)))
set_option maxRecDepth 100000 in
theorem label_Bytes.walk (w : World) (M : List Nat) (hM : MS M w) (a0 : Int) (a1 : Bool) (k : Nat) (r : List Int × Int) (H : label_Bytes.f k a0 a1 = some r) :
    To Tryd.prog 39 [.int .i64 a0, .bool a1] w fun v w' => ∃ (ao15 : Option Addr) (cap15 : Nat), v = .tuple #[.slice ao15 r.1.length cap15, .int .i64 r.2] ∧ (Own (rInt .u8) 5 w' (blkL ao15 ++ (M)) ao15 cap15 r.1) ∧ (∀ x ∈ blkL ao15, w.heap.size ≤ x) ∧ Chg [] w w' ∧ MS (blkL ao15 ++ (M)) w' := by
 unfold label_Bytes.f at H
 refine ent Tryd.func39 rfl [(0, .int .i64 a0), (1, .bool a1)] rfl (by rfl) fun a ha => ?_
 have hC : Chg [] w w := Chg.refl _ _
 refine wp_seq_k fun K1 hK1 => ?_
 refine wp_region_lit ?_
 refine seg ha 2 [(0, .int .i64 a0), (1, .bool a1)] (by kernel_rfl) fun a ha => ?_
 refine hK1 _ _ ?_; try clear hK1 K1
 refine wp_seq_k fun K2 hK2 => ?_
 refine wp_seq_k fun K3 hK3 => ?_
 refine wp_region_lit ?_
 refine seg ha 6 [(0, .int .i64 a0), (1, .bool a1), (12, .bool (if (decide (a0 < (0 : Int))) = true then true else (decide (a0 > (1048575 : Int)))))] (by kernel_rfl) fun a ha => ?_
 refine hK3 _ _ ?_; try clear hK3 K3
 refine cnd ha rfl (fun hc4 => ?_) (fun hc4 => ?_)
 ·have H := ite_t hc4 H
  refine wp_seq_k fun K5 hK5 => ?_
  refine wp_region_lit ?_
  refine seg ha 2 [(4, .slice none 0 0), (5, .int .i64 (5 : Int))] (by kernel_rfl) fun a ha => ?_
  refine hK5 _ _ ?_; try clear hK5 K5
  refine wp_ret ?_
  try simp only [Exit.then, Exit.inBlock]
  have p_z6_M : ∀ x ∈ blkL none, x ∉ M := fun x hx hy => absurd (hM x (hy)) (Nat.not_lt.2 ((fun _ h => nomatch h) x hx))
  have e_z6 : ∀ x ∈ blkL none, w.heap.size ≤ x := fun x hx => Nat.le_trans hC.size ((fun _ h => nomatch h) x hx)
  have hM : MS (blkL none ++ (M)) w := (MS.app (fun _ h => nomatch h) (hM.chg (Chg.refl [] _)))
  have hC := hC.trans (Chg.refl [] _) (Ok.nil _ _)
  obtain rfl := Option.some.inj H
  refine rt2 ha rfl rfl rfl ?_
  exact ⟨none, 0, rfl, Own.nil, e_z6, hC, hM⟩
 ·have H := ite_f hc4 H
  refine wp_skip ?_
  refine hK2 _ _ ?_; try clear hK2 K2
  refine wp_seq_k fun K7 hK7 => ?_
  refine wp_region_lit ?_
  refine seg ha 3 [(1, .bool a1), (6, .int .i64 (IntKind.i64.wrap (a0 * 2 ^ (min (4 : Int).toNat IntKind.i64.bits))))] (by kernel_rfl) fun a ha => ?_
  refine hK7 _ _ ?_; try clear hK7 K7
  refine wp_seq_k fun K8 hK8 => ?_
  obtain ⟨s9, H9, H⟩ := bind_some H
  have J9 : ∀ (a : Act) (w9 : World), Has a Tryd.f39.ntmps [(6, .int .i64 s9)] → (Chg [] w w9) → (MS (M) w9) → K8 a w9 := by
   intro a w9 ha hC hM
   refine hK8 _ _ ?_; try clear hK8 K8
   refine wp_seq_k fun K10 hK10 => ?_
   refine wp_region_lit ?_
   refine seg ha 1 [(18, .int .i64 s9)] (by kernel_rfl) fun a ha => ?_
   obtain ⟨t11, H11, H⟩ := bind_some H
   refine cl ha (by rfl) (by kernel_rfl) (by rfl) (by rfl) (by rfl) (cursor_Put.walk w9 _ hM ([] : List Int) none 0 (RSl.nil (Nat.zero_le _)) s9 (3 : Int) k _ H11) ?_
   rintro _ w11 ⟨ao12, cap12, rfl, f12, ne_i12, hc11, hMn⟩ a ha
   have p_i12_M : ∀ x ∈ blkL ao12, x ∉ M := fun x hx hy => absurd (hM x (hy)) (Nat.not_lt.2 (ne_i12 x hx))
   have e_i12 : ∀ x ∈ blkL ao12, w.heap.size ≤ x := fun x hx => Nat.le_trans hC.size (ne_i12 x hx)
   have hM : MS (blkL ao12 ++ (M)) w11 := (MS.app (fun x h => hMn x (ml h)) (hM.chg hc11))
   have hC := hC.trans hc11 (Ok.nil _ _)
   refine seg ha 4 [(4, .slice ao12 t11.1.length cap12), (5, .int .i64 t11.2)] (by kernel_rfl) fun a ha => ?_
   refine hK10 _ _ ?_; try clear hK10 K10
   refine wp_ret ?_
   try simp only [Exit.then, Exit.inBlock]
   obtain rfl := Option.some.inj H
   refine rt2 ha rfl rfl rfl ?_
   exact ⟨ao12, cap12, rfl, f12, e_i12, hC, hM⟩
  have H := H9
  refine wp_seq_k fun K13 hK13 => ?_
  refine wp_region_lit ?_
  refine seg ha 1 [(6, .int .i64 (IntKind.i64.wrap (a0 * 2 ^ (min (4 : Int).toNat IntKind.i64.bits)))), (15, .bool a1)] (by kernel_rfl) fun a ha => ?_
  refine hK13 _ _ ?_; try clear hK13 K13
  refine cnd ha rfl (fun hc14 => ?_) (fun hc14 => ?_)
  ·have H := ite_t hc14 H
   refine wp_region_lit ?_
   refine seg ha 3 [(6, .int .i64 (IntKind.i64.wrap (BitVec.ofInt IntKind.i64.bits (IntKind.i64.wrap (a0 * 2 ^ (min (4 : Int).toNat IntKind.i64.bits))) ||| BitVec.ofInt IntKind.i64.bits (1 : Int)).toNat))] (by kernel_rfl) fun a ha => ?_
   obtain rfl := Option.some.inj H
   exact J9 _ _ (ha.sel (by kernel_rfl)) hC hM
  ·have H := ite_f hc14 H
   refine wp_skip ?_
   obtain rfl := Option.some.inj H
   exact J9 _ _ (ha.sel (by kernel_rfl)) hC hM
def addr_Bytes.f (k : Nat) (a0 : S_api_Addr) : Option (List Int) := (addr_Right.f k a0).bind fun t9 => (if (!t9) = true then some ((([] : List Int) : List Int)) else (if 0 ≤ (0 : Int) ∧ (0 : Int) ≤ a0.Size ∧ a0.Size ≤ (16 : Int) then (bytes_Clone.f (((arL 16 a0.B).take (Int.toNat a0.Size)).drop (Int.toNat (0 : Int)))).bind fun t16 => some ((t16 : List Int)) else none))
set_option maxRecDepth 100000 in
theorem addr_Bytes.walk (w : World) (M : List Nat) (hM : MS M w) (a0 : S_api_Addr) (k : Nat) (r : List Int) (H : addr_Bytes.f k a0 = some r) :
    To Tryd.prog 66 [.agg (cS_api_Addr a0).toArray] w fun v w' => ∃ (ao18 : Option Addr) (cap18 : Nat), v = .slice ao18 r.length cap18 ∧ (Own (rInt .u8) 5 w' (blkL ao18 ++ (M)) ao18 cap18 r) ∧ (∀ x ∈ blkL ao18, w.heap.size ≤ x) ∧ Chg [] w w' ∧ MS (blkL ao18 ++ (M)) w' := by
 unfold addr_Bytes.f at H
 refine ent Tryd.func66 rfl [(0, .agg (cS_api_Addr a0).toArray)] rfl (by rfl) fun a ha => ?_
 have hC : Chg [] w w := Chg.refl _ _
 refine wp_seq_k fun K1 hK1 => ?_
 refine wp_region_lit ?_
 refine bx (cs := (cS_api_Addr a0)) ha rfl rfl rfl rfl rfl fun a w2 g3 hN4 ha => ?_
 have hn6 := hN4.notin hM
 have hM : MS (M) w2 := (hM.chg hN4.chg)
 have hC := hC.trans hN4.chg (Ok.nil _ _)
 have hE5 : ∀ j v, (cS_api_Addr a0)[j]? = some v → w2.cell? ⟨g3, 0 + j, none⟩ = some v := Box.cells (New.box hN4)
 refine seg ha 1 [(1, .pointer (some ⟨g3, 0, none⟩))] (by kernel_rfl) fun a ha => ?_
 refine hK1 _ _ ?_; try clear hK1 K1
 refine wp_seq_k fun K7 hK7 => ?_
 refine wp_seq_k fun K8 hK8 => ?_
 refine wp_region_lit ?_
 refine ldA (cs := (cS_api_Addr a0)) ha rfl (by kernel_rfl) rfl rfl rfl (cells_sub hE5 (all := (cS_api_Addr a0)) [] [] (by kernel_rfl)) fun a ha => ?_
 obtain ⟨t9, H9, H⟩ := bind_some H
 refine cl ha (by rfl) (by kernel_rfl) (by rfl) (by rfl) (by rfl) (addr_Right.walk w2 _ hM a0 k _ H9) ?_
 rintro _ w9 ⟨rfl, hc9, hMn⟩ a ha
 have o1 : Ok [] (M) w2.heap.size := Ok.nil _ _
 have o2 : Ok (M) (M) w2.heap.size := (Ok.refl _ _)
 have q_hn6 : g3 ∉ M := fun h => (o2 g3 h).elim hn6 (fun h => absurd (lt_cell (hE5 0 _ rfl)) (Nat.not_lt.2 h))
 have hE5 : ∀ j v, (cS_api_Addr a0)[j]? = some v → w9.cell? ⟨g3, 0 + j, none⟩ = some v := fun j v hv => (cell_keep hc9 o1 hn6 (hE5 j v hv))
 have hn6 := q_hn6
 have hM : MS (M) w9 := (hM.chg hc9)
 have hC := hC.trans hc9 (Ok.nil _ _)
 refine seg ha 1 [(1, .pointer (some ⟨g3, 0, none⟩)), (5, .bool (!t9))] (by kernel_rfl) fun a ha => ?_
 refine hK8 _ _ ?_; try clear hK8 K8
 refine cnd ha rfl (fun hc10 => ?_) (fun hc10 => ?_)
 ·have H := ite_t hc10 H
  refine wp_seq_k fun K11 hK11 => ?_
  refine wp_region_lit ?_
  refine seg ha 1 [(2, .slice none 0 0)] (by kernel_rfl) fun a ha => ?_
  refine hK11 _ _ ?_; try clear hK11 K11
  refine wp_ret ?_
  try simp only [Exit.then, Exit.inBlock]
  have p_z12_M : ∀ x ∈ blkL none, x ∉ M := fun x hx hy => absurd (hM x (hy)) (Nat.not_lt.2 ((fun _ h => nomatch h) x hx))
  have e_z12 : ∀ x ∈ blkL none, w.heap.size ≤ x := fun x hx => Nat.le_trans hC.size ((fun _ h => nomatch h) x hx)
  have hM : MS (blkL none ++ (M)) w9 := (MS.app (fun _ h => nomatch h) (hM.chg (Chg.refl [] _)))
  have hC := hC.trans (Chg.refl [] _) (Ok.nil _ _)
  obtain rfl := Option.some.inj H
  refine rt1 ha rfl rfl ?_
  exact ⟨none, 0, rfl, Own.nil, e_z12, hC, hM⟩
 ·have H := ite_f hc10 H
  refine wp_skip ?_
  refine hK7 _ _ ?_; try clear hK7 K7
  refine wp_seq_k fun K13 hK13 => ?_
  refine wp_region_lit ?_
  refine seg ha 2 [(6, .pointer (some ⟨g3, 0 + 1, none⟩)), (7, .pointer (some ⟨g3, 0, none⟩))] (by kernel_rfl) fun a ha => ?_
  refine ld ha rfl (by kernel_rfl) rfl rfl rfl (hE5 0 (.int .i64 a0.Size) (by kernel_rfl)) fun a ha => ?_
  have f14 : RSl (rInt .u8) 5 w9 (M) (some ⟨g3, 0 + 1, none⟩) 16 (arL 16 a0.B) := RSl.ofA [.int .i64 a0.Size] [] hE5 hn6 (by kernel_rfl) rfl
  obtain ⟨⟨hx15, hx15', hx15''⟩, H⟩ := ite_some H
  obtain ⟨ao15, cap15, f15, hr15⟩ := slA_run (kk := .u8) (T := 5) (N := 16) (g := g3) (o' := 0 + 1) (xs := (arL 16 a0.B)) (t := 22) (lo := Option.none) (hi := (Option.some (Operand.tmp 8))) (l := (0 : Int)) (h := a0.Size) (dd := some 9) (ty := 25) (pos := "addr.go:45") (af := #[{ on := 0, ground := Ground.data }, { on := 2, ground := Ground.data }]) (gd := Option.none) ha (by kernel_rfl) (by kernel_rfl) (x := (Operand.tmp 6)) rfl (arL_length _ _) rfl rfl f14 hx15 hx15' (by rw [arL_length]; exact hx15'')
  refine hop (v := .slice ao15 (((arL 16 a0.B).take (Int.toNat a0.Size)).drop (Int.toNat (0 : Int))).length cap15) (w' := w9) ha rfl rfl rfl (hr15 _) fun a ha => ?_
  obtain ⟨t16, H16, H⟩ := bind_some H
  refine cl ha (by rfl) (by kernel_rfl) (by rfl) (by rfl) (by rfl) (bytes_Clone.walk w9 _ hM (((arL 16 a0.B).take (Int.toNat a0.Size)).drop (Int.toNat (0 : Int))) ao15 cap15 f15 _ H16) ?_
  rintro _ w16 ⟨ao17, cap17, rfl, f17, ne_i17, hc16, hMn⟩ a ha
  have o1 : Ok [] (M) w9.heap.size := Ok.nil _ _
  have o2 : Ok (blkL ao17 ++ (M)) (M) w9.heap.size := (Ok.app (fun x h => .inr (ne_i17 x h)) (Ok.refl _ _))
  have f15 := f15.chg hc16 o1 o2
  have p_i17_M : ∀ x ∈ blkL ao17, x ∉ M := fun x hx hy => absurd (hM x (hy)) (Nat.not_lt.2 (ne_i17 x hx))
  have e_i17 : ∀ x ∈ blkL ao17, w.heap.size ≤ x := fun x hx => Nat.le_trans hC.size (ne_i17 x hx)
  have hM : MS (blkL ao17 ++ (M)) w16 := (MS.app (fun x h => hMn x (ml h)) (hM.chg hc16))
  have hC := hC.trans hc16 (Ok.nil _ _)
  refine seg ha 1 [(2, .slice ao17 t16.length cap17)] (by kernel_rfl) fun a ha => ?_
  refine hK13 _ _ ?_; try clear hK13 K13
  refine wp_ret ?_
  try simp only [Exit.then, Exit.inBlock]
  obtain rfl := Option.some.inj H
  refine rt1 ha rfl rfl ?_
  exact ⟨ao17, cap17, rfl, f17, e_i17, hC, hM⟩
def pmsi_family.f (a0 : S_api_Addr) : Option (Int) := (if (a0.Size == (4 : Int)) = true then some (((1 : Int) : Int)) else some (((2 : Int) : Int)))
set_option maxRecDepth 100000 in
theorem pmsi_family.walk (w : World) (M : List Nat) (hM : MS M w) (a0 : S_api_Addr) (r : Int) (H : pmsi_family.f a0 = some r) :
    To Tryd.prog 86 [.agg (cS_api_Addr a0).toArray] w fun v w' => v = .int .u8 r ∧ Chg [] w w' ∧ MS (M) w' := by
 unfold pmsi_family.f at H
 refine ent Tryd.func86 rfl [(0, .agg (cS_api_Addr a0).toArray)] rfl (by rfl) fun a ha => ?_
 have hC : Chg [] w w := Chg.refl _ _
 refine wp_seq_k fun K1 hK1 => ?_
 refine wp_region_lit ?_
 refine bx (cs := (cS_api_Addr a0)) ha rfl rfl rfl rfl rfl fun a w2 g3 hN4 ha => ?_
 have hn6 := hN4.notin hM
 have hM : MS (M) w2 := (hM.chg hN4.chg)
 have hC := hC.trans hN4.chg (Ok.nil _ _)
 have hE5 : ∀ j v, (cS_api_Addr a0)[j]? = some v → w2.cell? ⟨g3, 0 + j, none⟩ = some v := Box.cells (New.box hN4)
 refine seg ha 1 [(1, .pointer (some ⟨g3, 0, none⟩))] (by kernel_rfl) fun a ha => ?_
 refine hK1 _ _ ?_; try clear hK1 K1
 refine wp_seq_k fun K7 hK7 => ?_
 refine wp_seq_k fun K8 hK8 => ?_
 refine wp_region_lit ?_
 refine seg ha 1 [(3, .pointer (some ⟨g3, 0, none⟩))] (by kernel_rfl) fun a ha => ?_
 refine ld ha rfl (by kernel_rfl) rfl rfl rfl (hE5 0 (.int .i64 a0.Size) (by kernel_rfl)) fun a ha => ?_
 refine seg ha 1 [(5, .bool (a0.Size == (4 : Int)))] (by kernel_rfl) fun a ha => ?_
 refine hK8 _ _ ?_; try clear hK8 K8
 refine cnd ha rfl (fun hc9 => ?_) (fun hc9 => ?_)
 ·have H := ite_t hc9 H
  refine wp_seq_k fun K10 hK10 => ?_
  refine wp_region_lit ?_
  refine seg ha 1 [(2, .int .u8 (1 : Int))] (by kernel_rfl) fun a ha => ?_
  refine hK10 _ _ ?_; try clear hK10 K10
  refine wp_ret ?_
  try simp only [Exit.then, Exit.inBlock]
  obtain rfl := Option.some.inj H
  refine rt1 ha rfl rfl ?_
  exact ⟨rfl, hC, hM⟩
 ·have H := ite_f hc9 H
  refine wp_skip ?_
  refine hK7 _ _ ?_; try clear hK7 K7
  refine wp_seq_k fun K11 hK11 => ?_
  refine wp_region_lit ?_
  refine seg ha 1 [(2, .int .u8 (2 : Int))] (by kernel_rfl) fun a ha => ?_
  refine hK11 _ _ ?_; try clear hK11 K11
  refine wp_ret ?_
  try simp only [Exit.then, Exit.inBlock]
  obtain rfl := Option.some.inj H
  refine rt1 ha rfl rfl ?_
  exact ⟨rfl, hC, hM⟩
def pmsi_identifier.f (k : Nat) (a0 : S_api_Tunnel) : Option (List Int) := (addr_Bytes.f k a0.Root).bind fun t9 => (if (a0.Kind == (1 : Int)) = true then (if 0 ≤ (0 : Int) ∧ (0 : Int) ≤ (4 : Int) ∧ (4 : Int) ≤ (a0.Id.length : Int) then (bytes_Clone.f ((a0.Id.take (Int.toNat (4 : Int))).drop (Int.toNat (0 : Int)))).bind fun t25 => (if (t25.length + ([(0 : Int), (0 : Int)] : List Int).length) * 1 ≤ 140737488355328 then (if 0 ≤ (4 : Int) ∧ (4 : Int) ≤ (a0.Id.length : Int) ∧ (a0.Id.length : Int) ≤ (a0.Id.length : Int) then (if ((t25 ++ ([(0 : Int), (0 : Int)] : List Int)).length + ((a0.Id.take (Int.toNat (a0.Id.length : Int))).drop (Int.toNat (4 : Int))).length) * 1 ≤ 140737488355328 then (if (((t25 ++ ([(0 : Int), (0 : Int)] : List Int)) ++ ((a0.Id.take (Int.toNat (a0.Id.length : Int))).drop (Int.toNat (4 : Int)))).length + t9.length) * 1 ≤ 140737488355328 then some (((((t25 ++ ([(0 : Int), (0 : Int)] : List Int)) ++ ((a0.Id.take (Int.toNat (a0.Id.length : Int))).drop (Int.toNat (4 : Int)))) ++ t9) : List Int)) else none) else none) else none) else none) else none) else (if (a0.Kind == (7 : Int)) = true then (pmsi_family.f a0.Root).bind fun t52 => (if (([(7 : Int), (0 : Int), t52, IntKind.u8.wrap a0.Root.Size] : List Int).length + t9.length) * 1 ≤ 140737488355328 then (cursor_Put.f k (([(7 : Int), (0 : Int), t52, IntKind.u8.wrap a0.Root.Size] : List Int) ++ t9) (a0.Id.length : Int) (2 : Int)).bind fun t64 => (if (t64.1.length + a0.Id.length) * 1 ≤ 140737488355328 then some (((t64.1 ++ a0.Id) : List Int)) else none) else none) else (if (a0.Kind == (2 : Int)) = true then (pmsi_family.f a0.Root).bind fun t77 => (if (([(6 : Int), (0 : Int), t77, IntKind.u8.wrap a0.Root.Size] : List Int).length + t9.length) * 1 ≤ 140737488355328 then (cursor_Put.f k (([(6 : Int), (0 : Int), t77, IntKind.u8.wrap a0.Root.Size] : List Int) ++ t9) (a0.Id.length : Int) (2 : Int)).bind fun t89 => (if (t89.1.length + a0.Id.length) * 1 ≤ 140737488355328 then some (((t89.1 ++ a0.Id) : List Int)) else none) else none) else (if (t9.length + a0.Id.length) * 1 ≤ 140737488355328 then some (((t9 ++ a0.Id) : List Int)) else none))))
set_option maxRecDepth 100000 in
theorem pmsi_identifier.walk (w : World) (M : List Nat) (hM : MS M w) (a0 : S_api_Tunnel) (ao1 : Option Addr) (cap1 : Nat) (f1 : RSl (rInt .u8) 5 w M ao1 cap1 a0.Id) (k : Nat) (r : List Int) (H : pmsi_identifier.f k a0 = some r) :
    To Tryd.prog 40 [.agg (cS_api_Tunnel a0 ao1 cap1).toArray] w fun v w' => ∃ (ao99 : Option Addr) (cap99 : Nat), v = .slice ao99 r.length cap99 ∧ (Own (rInt .u8) 5 w' (blkL ao99 ++ (M)) ao99 cap99 r) ∧ (∀ x ∈ blkL ao99, w.heap.size ≤ x) ∧ Chg [] w w' ∧ MS (blkL ao99 ++ (M)) w' := by
 unfold pmsi_identifier.f at H
 refine ent Tryd.func40 rfl [(0, .agg (cS_api_Tunnel a0 ao1 cap1).toArray)] rfl (by rfl) fun a ha => ?_
 have hC : Chg [] w w := Chg.refl _ _
 refine wp_seq_k fun K2 hK2 => ?_
 refine wp_region_lit ?_
 refine bx (cs := (cS_api_Tunnel a0 ao1 cap1)) ha rfl rfl rfl rfl rfl fun a w3 g4 hN5 ha => ?_
 have hn7 := hN5.notin hM
 have o1 : Ok [] (M) w.heap.size := Ok.nil _ _
 have o2 : Ok (M) (M) w.heap.size := (Ok.refl _ _)
 have f1 := f1.chg hN5.chg o1 o2
 have hM : MS (M) w3 := (hM.chg hN5.chg)
 have hC := hC.trans hN5.chg (Ok.nil _ _)
 have hE6 : ∀ j v, (cS_api_Tunnel a0 ao1 cap1)[j]? = some v → w3.cell? ⟨g4, 0 + j, none⟩ = some v := Box.cells (New.box hN5)
 refine seg ha 1 [(1, .pointer (some ⟨g4, 0, none⟩))] (by kernel_rfl) fun a ha => ?_
 refine hK2 _ _ ?_; try clear hK2 K2
 refine wp_seq_k fun K8 hK8 => ?_
 refine wp_region_lit ?_
 refine seg ha 1 [(1, .pointer (some ⟨g4, 0, none⟩)), (7, .pointer (some ⟨g4, 0 + 3, none⟩))] (by kernel_rfl) fun a ha => ?_
 refine ldA (cs := (cS_api_Addr a0.Root)) ha rfl (by kernel_rfl) rfl rfl rfl (cells_sub hE6 (all := (cS_api_Tunnel a0 ao1 cap1)) [.bool a0.Leaf, .int .i64 a0.Kind, .int .i64 a0.Label] [.slice ao1 a0.Id.length cap1] (by kernel_rfl)) fun a ha => ?_
 obtain ⟨t9, H9, H⟩ := bind_some H
 refine cl ha (by rfl) (by kernel_rfl) (by rfl) (by rfl) (by rfl) (addr_Bytes.walk w3 _ hM a0.Root k _ H9) ?_
 rintro _ w9 ⟨ao10, cap10, rfl, f10, ne_i10, hc9, hMn⟩ a ha
 have o1 : Ok [] (M) w3.heap.size := Ok.nil _ _
 have o2 : Ok (blkL ao10 ++ (M)) (M) w3.heap.size := (Ok.app (fun x h => .inr (ne_i10 x h)) (Ok.refl _ _))
 have f1 := f1.chg hc9 o1 o2
 have q_hn7 : g4 ∉ blkL ao10 ++ (M) := fun h => (o2 g4 h).elim hn7 (fun h => absurd (lt_cell (hE6 0 _ rfl)) (Nat.not_lt.2 h))
 have hE6 : ∀ j v, (cS_api_Tunnel a0 ao1 cap1)[j]? = some v → w9.cell? ⟨g4, 0 + j, none⟩ = some v := fun j v hv => (cell_keep hc9 o1 hn7 (hE6 j v hv))
 have hn7 := q_hn7
 have p_i10_M : ∀ x ∈ blkL ao10, x ∉ M := fun x hx hy => absurd (hM x (hy)) (Nat.not_lt.2 (ne_i10 x hx))
 have e_i10 : ∀ x ∈ blkL ao10, w.heap.size ≤ x := fun x hx => Nat.le_trans hC.size (ne_i10 x hx)
 have hM : MS (blkL ao10 ++ (M)) w9 := (MS.app (fun x h => hMn x (ml h)) (hM.chg hc9))
 have hC := hC.trans hc9 (Ok.nil _ _)
 refine seg ha 1 [(1, .pointer (some ⟨g4, 0, none⟩)), (3, .slice ao10 t9.length cap10)] (by kernel_rfl) fun a ha => ?_
 refine hK8 _ _ ?_; try clear hK8 K8
 refine wp_seq_k fun K11 hK11 => ?_
 refine wp_region_lit ?_
 refine seg ha 1 [(1, .pointer (some ⟨g4, 0, none⟩)), (3, .slice ao10 t9.length cap10), (4, .int .u8 (6 : Int))] (by kernel_rfl) fun a ha => ?_
 refine hK11 _ _ ?_; try clear hK11 K11
 refine wp_seq_k fun K12 hK12 => ?_
 refine wp_seq_k fun K13 hK13 => ?_
 refine wp_region_lit ?_
 refine seg ha 1 [(1, .pointer (some ⟨g4, 0, none⟩)), (3, .slice ao10 t9.length cap10), (4, .int .u8 (6 : Int)), (10, .pointer (some ⟨g4, 0 + 1, none⟩))] (by kernel_rfl) fun a ha => ?_
 refine ld ha rfl (by kernel_rfl) rfl rfl rfl (hE6 1 (.int .i64 a0.Kind) (by kernel_rfl)) fun a ha => ?_
 refine hK13 _ _ ?_; try clear hK13 K13
 refine wp_block ?_
 refine wp_seq_k fun K14 hK14 => ?_
 refine wp_block ?_
 refine wp_seq_k fun K15 hK15 => ?_
 refine wp_block ?_
 refine wp_seq_k fun K16 hK16 => ?_
 refine wp_block ?_
 refine wp_seq_k fun K17 hK17 => ?_
 refine wp_seq_k fun K18 hK18 => ?_
 refine wp_seq_k fun K19 hK19 => ?_
 refine wp_region_lit ?_
 refine seg ha 2 [(1, .pointer (some ⟨g4, 0, none⟩)), (3, .slice ao10 t9.length cap10), (4, .int .u8 (6 : Int)), (11, .int .i64 a0.Kind), (12, .bool (a0.Kind == (1 : Int)))] (by kernel_rfl) fun a ha => ?_
 refine hK19 _ _ ?_; try clear hK19 K19
 refine cnd ha rfl (fun hc20 => ?_) (fun hc20 => ?_)
 ·have H := ite_t hc20 H
  refine wp_exit ?_
  simp only [Exit.then, Exit.inBlock, ↓reduceIte, Nat.reduceEqDiff]
  refine hK16 _ _ ?_; try clear hK16 K16
  refine wp_seq_k fun K21 hK21 => ?_
  refine wp_seq_k fun K22 hK22 => ?_
  refine wp_region_lit ?_
  refine seg ha 1 [(1, .pointer (some ⟨g4, 0, none⟩)), (3, .slice ao10 t9.length cap10), (18, .pointer (some ⟨g4, 0 + 20, none⟩))] (by kernel_rfl) fun a ha => ?_
  refine ld ha rfl (by kernel_rfl) rfl rfl rfl (hE6 20 (.slice ao1 a0.Id.length cap1) (by kernel_rfl)) fun a ha => ?_
  obtain ⟨⟨hx23, hx23', hx23''⟩, H⟩ := ite_some H
  refine slc (r := (rInt .u8)) (l := (0 : Int)) (h := (4 : Int)) ha (by kernel_rfl) (by kernel_rfl) rfl rfl rfl rfl rfl rfl f1 hx23 hx23' hx23'' fun a ao24 cap24 f24 ha => ?_
  obtain ⟨t25, H25, H⟩ := bind_some H
  refine cl ha (by rfl) (by kernel_rfl) (by rfl) (by rfl) (by rfl) (bytes_Clone.walk w9 _ hM ((a0.Id.take (Int.toNat (4 : Int))).drop (Int.toNat (0 : Int))) ao24 cap24 f24 _ H25) ?_
  rintro _ w25 ⟨ao26, cap26, rfl, f26, ne_i26, hc25, hMn⟩ a ha
  have o1 : Ok [] (blkL ao10 ++ (M)) w9.heap.size := Ok.nil _ _
  have o2 : Ok (blkL ao26 ++ (blkL ao10 ++ (M))) (blkL ao10 ++ (M)) w9.heap.size := (Ok.app (fun x h => .inr (ne_i26 x h)) (Ok.refl _ _))
  have f1 := f1.chg hc25 o1 o2
  have f10 := f10.chg hc25 o1 o2 (fun _ _ h => nomatch h) (fun _ h => mr (ml h))
  have f24 := f24.chg hc25 o1 o2
  have q_hn7 : g4 ∉ blkL ao26 ++ (blkL ao10 ++ (M)) := fun h => (o2 g4 h).elim hn7 (fun h => absurd (lt_cell (hE6 0 _ rfl)) (Nat.not_lt.2 h))
  have hE6 : ∀ j v, (cS_api_Tunnel a0 ao1 cap1)[j]? = some v → w25.cell? ⟨g4, 0 + j, none⟩ = some v := fun j v hv => (cell_keep hc25 o1 hn7 (hE6 j v hv))
  have hn7 := q_hn7
  have p_i26_i10 : ∀ x ∈ blkL ao26, x ∉ (blkL ao10) := fun x hx hy => absurd (hM x (ml hy)) (Nat.not_lt.2 (ne_i26 x hx))
  have p_i26_M : ∀ x ∈ blkL ao26, x ∉ M := fun x hx hy => absurd (hM x (mr (hy))) (Nat.not_lt.2 (ne_i26 x hx))
  have e_i26 : ∀ x ∈ blkL ao26, w.heap.size ≤ x := fun x hx => Nat.le_trans hC.size (ne_i26 x hx)
  have hM : MS (blkL ao26 ++ (blkL ao10 ++ (M))) w25 := (MS.app (fun x h => hMn x (ml h)) (hM.chg hc25))
  have hC := hC.trans hc25 (Ok.nil _ _)
  refine bsl (vals := ([.int .u8 (0 : Int), .int .u8 (0 : Int)] : List Value)) (T := 5) ha rfl (([.int .u8 (0 : Int)] : List Value) ++ (([.int .u8 (0 : Int)] : List Value) ++ ([] : List Value))) (fun w => by kernel_rfl) rfl rfl rfl fun a w27 g28 hN29 ha => ?_
  have o1 : Ok [] (blkL ao26 ++ (blkL ao10 ++ (M))) w25.heap.size := Ok.nil _ _
  have o2 : Ok ([g28] ++ (blkL ao26 ++ (blkL ao10 ++ (M)))) (blkL ao26 ++ (blkL ao10 ++ (M))) w25.heap.size := (Ok.app (hN29.ok _) (Ok.refl _ _))
  have f1 := f1.chg hN29.chg o1 o2
  have f10 := f10.chg hN29.chg o1 o2 (fun _ _ h => nomatch h) (fun _ h => mr (mr (ml h)))
  have f26 := f26.chg hN29.chg o1 o2 (fun _ _ h => nomatch h) (fun _ h => mr (ml h))
  have q_hn7 : g4 ∉ [g28] ++ (blkL ao26 ++ (blkL ao10 ++ (M))) := fun h => (o2 g4 h).elim hn7 (fun h => absurd (lt_cell (hE6 0 _ rfl)) (Nat.not_lt.2 h))
  have hE6 : ∀ j v, (cS_api_Tunnel a0 ao1 cap1)[j]? = some v → w27.cell? ⟨g4, 0 + j, none⟩ = some v := fun j v hv => (cell_keep hN29.chg o1 hn7 (hE6 j v hv))
  have hn7 := q_hn7
  have p_i30_i26 : ∀ x ∈ [g28], x ∉ (blkL ao26) := fun x hx hy => absurd (hM x (ml hy)) (Nat.not_lt.2 ((hN29.ge1) x hx))
  have p_i30_i10 : ∀ x ∈ [g28], x ∉ (blkL ao10) := fun x hx hy => absurd (hM x (mr (ml hy))) (Nat.not_lt.2 ((hN29.ge1) x hx))
  have p_i30_M : ∀ x ∈ [g28], x ∉ M := fun x hx hy => absurd (hM x (mr (mr (hy)))) (Nat.not_lt.2 ((hN29.ge1) x hx))
  have e_i30 : ∀ x ∈ [g28], w.heap.size ≤ x := fun x hx => Nat.le_trans hC.size ((hN29.ge1) x hx)
  have hM : MS ([g28] ++ (blkL ao26 ++ (blkL ao10 ++ (M)))) w27 := (MS.app hN29.ms (hM.chg hN29.chg))
  have hC := hC.trans hN29.chg (Ok.nil _ _)
  have f31 : Own (rInt .u8) 5 w27 ([g28] ++ (blkL ao26 ++ (blkL ao10 ++ (M)))) (some ⟨g28, 0, none⟩) 2 ([(0 : Int), (0 : Int)] : List Int) := hN29.own ⟨([.int .u8 (0 : Int)] : List Value), _, rfl, rfl, ⟨([.int .u8 (0 : Int)] : List Value), _, rfl, rfl, rfl⟩⟩ (Nat.le_of_ble_eq_true rfl)
  obtain ⟨hx32, H⟩ := ite_some H
  refine app (r := (rInt .u8)) (xs := t25) (ys := ([(0 : Int), (0 : Int)] : List Int)) ha (ElemT.mk' (bytes := 1) (by kernel_rfl)) rfl rfl rfl rfl rfl f26 f31.src hx32 (by decide) fun a w33 ao34 cap34 hO34 hc34 hk34 hl34 ha => ?_
  have o1 : Ok (blkL ao26) ([g28] ++ (blkL ao26 ++ (blkL ao10 ++ (M)))) w27.heap.size := (fun _ h => .inl (mr (ml h)))
  have o2 : Ok (blkL ao34 ++ ([g28] ++ (blkL ao10 ++ (M)))) ([g28] ++ (blkL ao26 ++ (blkL ao10 ++ (M)))) w27.heap.size := (Ok.app (Ok.to hk34 (fun _ h => mr (ml h))) (Ok.app (fun _ h => .inl (ml h)) (fun _ h => .inl (mr (mr (h))))))
  have f1 := f1.chg hc34 o1 o2
  have f10 := f10.chg hc34 o1 o2 (fun x (hx : x ∈ blkL ao10) (hy : x ∈ blkL ao26) => p_i26_i10 x hy hx) (fun _ h => mr (mr (ml h)))
  have f31 := f31.chg hc34 o1 o2 p_i30_i26 (fun _ h => mr (ml h))
  have q_hn7 : g4 ∉ blkL ao34 ++ ([g28] ++ (blkL ao10 ++ (M))) := fun h => (o2 g4 h).elim hn7 (fun h => absurd (lt_cell (hE6 0 _ rfl)) (Nat.not_lt.2 h))
  have hE6 : ∀ j v, (cS_api_Tunnel a0 ao1 cap1)[j]? = some v → w33.cell? ⟨g4, 0 + j, none⟩ = some v := fun j v hv => (cell_keep hc34 o1 hn7 (hE6 j v hv))
  have hn7 := q_hn7
  have p_i34_i30 : ∀ x ∈ blkL ao34, x ∉ ([g28]) := fun x hx hy => (hk34 x hx).elim (fun h => (fun x hx hy => p_i30_i26 x hy hx) x h hy) (fun h => absurd (hM x (ml hy)) (Nat.not_lt.2 h))
  have p_i34_i10 : ∀ x ∈ blkL ao34, x ∉ (blkL ao10) := fun x hx hy => (hk34 x hx).elim (fun h => p_i26_i10 x h hy) (fun h => absurd (hM x (mr (mr (ml hy)))) (Nat.not_lt.2 h))
  have p_i34_M : ∀ x ∈ blkL ao34, x ∉ M := fun x hx hy => (hk34 x hx).elim (fun h => p_i26_M x h hy) (fun h => absurd (hM x (mr (mr (mr (hy))))) (Nat.not_lt.2 h))
  have e_i34 : ∀ x ∈ blkL ao34, w.heap.size ≤ x := fun x hx => (hk34 x hx).elim (e_i26 x) (Nat.le_trans hC.size)
  have hM : MS (blkL ao34 ++ ([g28] ++ (blkL ao10 ++ (M)))) w33 := (MS.app hl34 (MS.app (fun x h => hM.chg hc34 x (ml h)) (fun x h => hM.chg hc34 x (mr (mr (h))))))
  have hC := hC.trans hc34 (fun x h => .inr (e_i26 x h))
  have f34 := hO34.chg (M' := blkL ao34 ++ ([g28] ++ (blkL ao10 ++ (M)))) (Chg.refl [] _) (Ok.nil _ _) (Ok.app (fun _ h => .inl (ml h)) (Ok.to (Ok.app (fun _ h => .inl (ml h)) (fun _ h => .inl (mr (mr (h))))) (fun _ h => mr h))) (fun _ _ h => nomatch h) (fun _ h => ml h)
  refine seg ha 1 [(1, .pointer (some ⟨g4, 0, none⟩)), (3, .slice ao10 t9.length cap10), (5, .slice ao34 (t25 ++ ([(0 : Int), (0 : Int)] : List Int)).length cap34)] (by kernel_rfl) fun a ha => ?_
  refine hK22 _ _ ?_; try clear hK22 K22
  refine wp_seq_k fun K35 hK35 => ?_
  refine wp_region_lit ?_
  refine seg ha 2 [(3, .slice ao10 t9.length cap10), (24, .slice ao34 (t25 ++ ([(0 : Int), (0 : Int)] : List Int)).length cap34), (25, .pointer (some ⟨g4, 0 + 20, none⟩))] (by kernel_rfl) fun a ha => ?_
  refine ld ha rfl (by kernel_rfl) rfl rfl rfl (hE6 20 (.slice ao1 a0.Id.length cap1) (by kernel_rfl)) fun a ha => ?_
  obtain ⟨⟨hx36, hx36', hx36''⟩, H⟩ := ite_some H
  refine slc (r := (rInt .u8)) (l := (4 : Int)) (h := (a0.Id.length : Int)) ha (by kernel_rfl) (by kernel_rfl) rfl rfl rfl rfl rfl rfl f1 hx36 hx36' hx36'' fun a ao37 cap37 f37 ha => ?_
  obtain ⟨hx38, H⟩ := ite_some H
  refine app (r := (rInt .u8)) (xs := (t25 ++ ([(0 : Int), (0 : Int)] : List Int))) (ys := ((a0.Id.take (Int.toNat (a0.Id.length : Int))).drop (Int.toNat (4 : Int)))) ha (ElemT.mk' (bytes := 1) (by kernel_rfl)) rfl rfl rfl rfl rfl f34 f37.src hx38 (by decide) fun a w39 ao40 cap40 hO40 hc40 hk40 hl40 ha => ?_
  have o1 : Ok (blkL ao34) (blkL ao34 ++ ([g28] ++ (blkL ao10 ++ (M)))) w33.heap.size := (fun _ h => .inl (ml h))
  have o2 : Ok (blkL ao40 ++ ([g28] ++ (blkL ao10 ++ (M)))) (blkL ao34 ++ ([g28] ++ (blkL ao10 ++ (M)))) w33.heap.size := (Ok.app (Ok.to hk40 (fun _ h => ml h)) (fun _ h => .inl (mr (h))))
  have f10 := f10.chg hc40 o1 o2 (fun x (hx : x ∈ blkL ao10) (hy : x ∈ blkL ao34) => p_i34_i10 x hy hx) (fun _ h => mr (mr (ml h)))
  have f37 := f37.chg hc40 o1 o2
  have p_i40_i30 : ∀ x ∈ blkL ao40, x ∉ ([g28]) := fun x hx hy => (hk40 x hx).elim (fun h => p_i34_i30 x h hy) (fun h => absurd (hM x (mr (ml hy))) (Nat.not_lt.2 h))
  have p_i40_i10 : ∀ x ∈ blkL ao40, x ∉ (blkL ao10) := fun x hx hy => (hk40 x hx).elim (fun h => p_i34_i10 x h hy) (fun h => absurd (hM x (mr (mr (ml hy)))) (Nat.not_lt.2 h))
  have p_i40_M : ∀ x ∈ blkL ao40, x ∉ M := fun x hx hy => (hk40 x hx).elim (fun h => p_i34_M x h hy) (fun h => absurd (hM x (mr (mr (mr (hy))))) (Nat.not_lt.2 h))
  have e_i40 : ∀ x ∈ blkL ao40, w.heap.size ≤ x := fun x hx => (hk40 x hx).elim (e_i34 x) (Nat.le_trans hC.size)
  have hM : MS (blkL ao40 ++ ([g28] ++ (blkL ao10 ++ (M)))) w39 := (MS.app hl40 (fun x h => hM.chg hc40 x (mr (h))))
  have hC := hC.trans hc40 (fun x h => .inr (e_i34 x h))
  have f40 := hO40.chg (M' := blkL ao40 ++ ([g28] ++ (blkL ao10 ++ (M)))) (Chg.refl [] _) (Ok.nil _ _) (Ok.app (fun _ h => .inl (ml h)) (Ok.to (fun _ h => .inl (mr (h))) (fun _ h => mr h))) (fun _ _ h => nomatch h) (fun _ h => ml h)
  refine seg ha 1 [(28, .slice ao40 ((t25 ++ ([(0 : Int), (0 : Int)] : List Int)) ++ ((a0.Id.take (Int.toNat (a0.Id.length : Int))).drop (Int.toNat (4 : Int)))).length cap40), (29, .slice ao10 t9.length cap10)] (by kernel_rfl) fun a ha => ?_
  obtain ⟨hx41, H⟩ := ite_some H
  refine app (r := (rInt .u8)) (xs := ((t25 ++ ([(0 : Int), (0 : Int)] : List Int)) ++ ((a0.Id.take (Int.toNat (a0.Id.length : Int))).drop (Int.toNat (4 : Int))))) (ys := t9) ha (ElemT.mk' (bytes := 1) (by kernel_rfl)) rfl rfl rfl rfl rfl f40 f10.src hx41 (by decide) fun a w42 ao43 cap43 hO43 hc43 hk43 hl43 ha => ?_
  have o1 : Ok (blkL ao40) (blkL ao40 ++ ([g28] ++ (blkL ao10 ++ (M)))) w39.heap.size := (fun _ h => .inl (ml h))
  have o2 : Ok (blkL ao43 ++ ([g28] ++ (blkL ao10 ++ (M)))) (blkL ao40 ++ ([g28] ++ (blkL ao10 ++ (M)))) w39.heap.size := (Ok.app (Ok.to hk43 (fun _ h => ml h)) (fun _ h => .inl (mr (h))))
  have f10 := f10.chg hc43 o1 o2 (fun x (hx : x ∈ blkL ao10) (hy : x ∈ blkL ao40) => p_i40_i10 x hy hx) (fun _ h => mr (mr (ml h)))
  have p_i43_i30 : ∀ x ∈ blkL ao43, x ∉ ([g28]) := fun x hx hy => (hk43 x hx).elim (fun h => p_i40_i30 x h hy) (fun h => absurd (hM x (mr (ml hy))) (Nat.not_lt.2 h))
  have p_i43_i10 : ∀ x ∈ blkL ao43, x ∉ (blkL ao10) := fun x hx hy => (hk43 x hx).elim (fun h => p_i40_i10 x h hy) (fun h => absurd (hM x (mr (mr (ml hy)))) (Nat.not_lt.2 h))
  have p_i43_M : ∀ x ∈ blkL ao43, x ∉ M := fun x hx hy => (hk43 x hx).elim (fun h => p_i40_M x h hy) (fun h => absurd (hM x (mr (mr (mr (hy))))) (Nat.not_lt.2 h))
  have e_i43 : ∀ x ∈ blkL ao43, w.heap.size ≤ x := fun x hx => (hk43 x hx).elim (e_i40 x) (Nat.le_trans hC.size)
  have hM : MS (blkL ao43 ++ ([g28] ++ (blkL ao10 ++ (M)))) w42 := (MS.app hl43 (fun x h => hM.chg hc43 x (mr (h))))
  have hC := hC.trans hc43 (fun x h => .inr (e_i40 x h))
  have f43 := hO43.chg (M' := blkL ao43 ++ ([g28] ++ (blkL ao10 ++ (M)))) (Chg.refl [] _) (Ok.nil _ _) (Ok.app (fun _ h => .inl (ml h)) (Ok.to (fun _ h => .inl (mr (h))) (fun _ h => mr h))) (fun _ _ h => nomatch h) (fun _ h => ml h)
  refine seg ha 1 [(2, .slice ao43 (((t25 ++ ([(0 : Int), (0 : Int)] : List Int)) ++ ((a0.Id.take (Int.toNat (a0.Id.length : Int))).drop (Int.toNat (4 : Int)))) ++ t9).length cap43)] (by kernel_rfl) fun a ha => ?_
  refine hK35 _ _ ?_; try clear hK35 K35
  refine wp_ret ?_
  try simp only [Exit.then, Exit.inBlock]
  have o1 : Ok [] (blkL ao43 ++ ([g28] ++ (blkL ao10 ++ (M)))) w42.heap.size := Ok.nil _ _
  have o2 : Ok (blkL ao43 ++ (M)) (blkL ao43 ++ ([g28] ++ (blkL ao10 ++ (M)))) w42.heap.size := (Ok.app (fun _ h => .inl (ml h)) (fun _ h => .inl (mr (mr (mr (h))))))
  have f43 := f43.chg (Chg.refl [] _) o1 o2 (fun _ _ h => nomatch h) (fun _ h => ml h)
  have hM : MS (blkL ao43 ++ (M)) w42 := (MS.app (fun x h => hM.chg (Chg.refl [] _) x (ml h)) (fun x h => hM.chg (Chg.refl [] _) x (mr (mr (mr (h))))))
  have hC := hC.trans (Chg.refl [] _) (Ok.nil _ _)
  obtain rfl := Option.some.inj H
  refine rt1 ha rfl rfl ?_
  exact ⟨ao43, cap43, rfl, f43, e_i43, hC, hM⟩
 ·have H := ite_f hc20 H
  refine wp_skip ?_
  refine hK18 _ _ ?_; try clear hK18 K18
  refine wp_seq_k fun K44 hK44 => ?_
  refine wp_seq_k fun K45 hK45 => ?_
  refine wp_region_lit ?_
  refine seg ha 2 [(1, .pointer (some ⟨g4, 0, none⟩)), (3, .slice ao10 t9.length cap10), (4, .int .u8 (6 : Int)), (11, .int .i64 a0.Kind), (14, .bool (a0.Kind == (7 : Int)))] (by kernel_rfl) fun a ha => ?_
  refine hK45 _ _ ?_; try clear hK45 K45
  refine cnd ha rfl (fun hc46 => ?_) (fun hc46 => ?_)
  ·have H := ite_t hc46 H
   refine wp_exit ?_
   simp only [Exit.then, Exit.inBlock, ↓reduceIte, Nat.reduceEqDiff]
   refine hK15 _ _ ?_; try clear hK15 K15
   refine wp_region_lit ?_
   refine seg ha 1 [(1, .pointer (some ⟨g4, 0, none⟩)), (3, .slice ao10 t9.length cap10), (4, .int .u8 (7 : Int))] (by kernel_rfl) fun a ha => ?_
   refine hK14 _ _ ?_; try clear hK14 K14
   refine wp_seq_k fun K47 hK47 => ?_
   refine wp_seq_k fun K48 hK48 => ?_
   have z_f1 := f1
   have z_f10 := (Own.toRSl (M' := []) f10 (Ok.nil _ _) (fun _ _ h => nomatch h))
   have z_hE6 := hE6
   have z_hn7 := hn7
   have okS : Ok [] (blkL ao10 ++ (M)) w9.heap.size := Ok.nil _ _
   refine drw (fun w' => Chg [] w9 w') (by kernel_rfl) fun w49 hc50 _ => ?_
   have hS : Chg [] w9 w49 := (Chg.refl [] _).trans hc50 (Ok.nil _ _)
   have o1 : Ok [] (blkL ao10 ++ (M)) w9.heap.size := Ok.nil _ _
   have o2 : Ok (blkL ao10 ++ (M)) (blkL ao10 ++ (M)) w9.heap.size := (Ok.refl _ _)
   have f1 := f1.chg hc50 o1 o2
   have f10 := f10.chg hc50 o1 o2 (fun _ _ h => nomatch h) (fun _ h => ml h)
   have q_hn7 : g4 ∉ blkL ao10 ++ (M) := fun h => (o2 g4 h).elim hn7 (fun h => absurd (lt_cell (hE6 0 _ rfl)) (Nat.not_lt.2 h))
   have hE6 : ∀ j v, (cS_api_Tunnel a0 ao1 cap1)[j]? = some v → w49.cell? ⟨g4, 0 + j, none⟩ = some v := fun j v hv => (cell_keep hc50 o1 hn7 (hE6 j v hv))
   have hn7 := q_hn7
   have hM : MS (blkL ao10 ++ (M)) w49 := (hM.chg hc50)
   have hC := hC.trans hc50 (Ok.nil _ _)
   refine tkpz 0 0 (.int .u8 (7 : Int)) ha (s := hS) (q := fun a ha => ?_)
   refine tkpz 1 0 (.pointer (some ⟨g4, 0 + 3, none⟩)) ha (s := hS) (q := fun a ha => ?_)
   refine tkz 2 ha (v := .agg (cS_api_Addr a0.Root).toArray) (y := fun w' hs => ldA_run (cs := (cS_api_Addr a0.Root)) ha rfl (by kernel_rfl) (cells_sub (fun j v hv => cell_keep hs okS z_hn7 (z_hE6 j v hv)) (all := (cS_api_Tunnel a0 ao1 cap1)) [.bool a0.Leaf, .int .i64 a0.Kind, .int .i64 a0.Label] [.slice ao1 a0.Id.length cap1] (by kernel_rfl))) (s := hS) (q := fun a ha => ?_)
   refine tkpz 4 0 (.pointer (some ⟨g4, 0 + 3, none⟩)) ha (s := hS) (q := fun a ha => ?_)
   refine tkpz 5 0 (.pointer (some ⟨g4, 0 + 3, none⟩)) ha (s := hS) (q := fun a ha => ?_)
   refine tkz 6 ha (v := .int .i64 a0.Root.Size) (y := fun w' hs => ld_run ha rfl (by kernel_rfl) (cell_keep hs okS z_hn7 (z_hE6 3 (.int .i64 a0.Root.Size) (by kernel_rfl)))) (s := hS) (q := fun a ha => ?_)
   refine tkpz 7 0 (.int .u8 (IntKind.u8.wrap a0.Root.Size)) ha (s := hS) (q := fun a ha => ?_)
   refine tkpz 9 0 (.slice ao10 t9.length cap10) ha (s := hS) (q := fun a ha => ?_)
   refine ac 3 (by kernel_rfl) (by rfl) fun K51 hK51 => ?_
   obtain ⟨t52, H52, H⟩ := bind_some H
   refine cl ha (by rfl) (by kernel_rfl) (by rfl) (by rfl) (by rfl) (pmsi_family.walk w49 _ hM a0.Root _ H52) ?_
   rintro _ w52 ⟨rfl, hc52, hMn⟩ a ha
   have o1 : Ok [] (blkL ao10 ++ (M)) w49.heap.size := Ok.nil _ _
   have o2 : Ok (blkL ao10 ++ (M)) (blkL ao10 ++ (M)) w49.heap.size := (Ok.refl _ _)
   have f1 := f1.chg hc52 o1 o2
   have f10 := f10.chg hc52 o1 o2 (fun _ _ h => nomatch h) (fun _ h => ml h)
   have q_hn7 : g4 ∉ blkL ao10 ++ (M) := fun h => (o2 g4 h).elim hn7 (fun h => absurd (lt_cell (hE6 0 _ rfl)) (Nat.not_lt.2 h))
   have hE6 : ∀ j v, (cS_api_Tunnel a0 ao1 cap1)[j]? = some v → w52.cell? ⟨g4, 0 + j, none⟩ = some v := fun j v hv => (cell_keep hc52 o1 hn7 (hE6 j v hv))
   have hn7 := q_hn7
   have hM : MS (blkL ao10 ++ (M)) w52 := (hM.chg hc52)
   have hC := hC.trans hc52 (Ok.nil _ _)
   have hS := hS.trans hc52 (Ok.nil _ _)
   refine ae hK51 hS ?_; clear hK51 K51
   refine ac 8 (by kernel_rfl) (by rfl) fun K53 hK53 => ?_
   refine bsl (vals := ([.int .u8 (7 : Int), .int .u8 (0 : Int), .int .u8 t52, .int .u8 (IntKind.u8.wrap a0.Root.Size)] : List Value)) (T := 5) ha rfl (([.int .u8 (7 : Int)] : List Value) ++ (([.int .u8 (0 : Int)] : List Value) ++ (([.int .u8 t52] : List Value) ++ (([.int .u8 (IntKind.u8.wrap a0.Root.Size)] : List Value) ++ ([] : List Value))))) (fun w => by kernel_rfl) rfl rfl rfl fun a w54 g55 hN56 ha => ?_
   have o1 : Ok [] (blkL ao10 ++ (M)) w52.heap.size := Ok.nil _ _
   have o2 : Ok ([g55] ++ (blkL ao10 ++ (M))) (blkL ao10 ++ (M)) w52.heap.size := (Ok.app (hN56.ok _) (Ok.refl _ _))
   have f1 := f1.chg hN56.chg o1 o2
   have f10 := f10.chg hN56.chg o1 o2 (fun _ _ h => nomatch h) (fun _ h => mr (ml h))
   have q_hn7 : g4 ∉ [g55] ++ (blkL ao10 ++ (M)) := fun h => (o2 g4 h).elim hn7 (fun h => absurd (lt_cell (hE6 0 _ rfl)) (Nat.not_lt.2 h))
   have hE6 : ∀ j v, (cS_api_Tunnel a0 ao1 cap1)[j]? = some v → w54.cell? ⟨g4, 0 + j, none⟩ = some v := fun j v hv => (cell_keep hN56.chg o1 hn7 (hE6 j v hv))
   have hn7 := q_hn7
   have p_iD000057_i10 : ∀ x ∈ [g55], x ∉ (blkL ao10) := fun x hx hy => absurd (hM x (ml hy)) (Nat.not_lt.2 ((hN56.ge1) x hx))
   have p_iD000057_M : ∀ x ∈ [g55], x ∉ M := fun x hx hy => absurd (hM x (mr (hy))) (Nat.not_lt.2 ((hN56.ge1) x hx))
   have e_iD000057 : ∀ x ∈ [g55], w.heap.size ≤ x := fun x hx => Nat.le_trans hC.size ((hN56.ge1) x hx)
   have hM : MS ([g55] ++ (blkL ao10 ++ (M))) w54 := (MS.app hN56.ms (hM.chg hN56.chg))
   have hC := hC.trans hN56.chg (Ok.nil _ _)
   have d_iD000057 : Ok ([g55]) [] w9.heap.size := fun x hx => .inr (Nat.le_trans hS.size ((hN56.ge1) x hx))
   have hS := hS.trans hN56.chg (Ok.nil _ _)
   have f58 : Own (rInt .u8) 5 w54 ([g55] ++ (blkL ao10 ++ (M))) (some ⟨g55, 0, none⟩) 4 ([(7 : Int), (0 : Int), t52, IntKind.u8.wrap a0.Root.Size] : List Int) := hN56.own ⟨([.int .u8 (7 : Int)] : List Value), _, rfl, rfl, ⟨([.int .u8 (0 : Int)] : List Value), _, rfl, rfl, ⟨([.int .u8 t52] : List Value), _, rfl, rfl, ⟨([.int .u8 (IntKind.u8.wrap a0.Root.Size)] : List Value), _, rfl, rfl, rfl⟩⟩⟩⟩ (Nat.le_of_ble_eq_true rfl)
   refine ae hK53 hS ?_; clear hK53 K53
   refine ac 10 (by kernel_rfl) (by rfl) fun K59 hK59 => ?_
   obtain ⟨hx60, H⟩ := ite_some H
   refine app (r := (rInt .u8)) (xs := ([(7 : Int), (0 : Int), t52, IntKind.u8.wrap a0.Root.Size] : List Int)) (ys := t9) ha (ElemT.mk' (bytes := 1) (by kernel_rfl)) rfl rfl rfl rfl rfl f58 f10.src hx60 (by decide) fun a w61 ao62 cap62 hO62 hc62 hk62 hl62 ha => ?_
   have o1 : Ok [g55] ([g55] ++ (blkL ao10 ++ (M))) w54.heap.size := (fun _ h => .inl (ml h))
   have o2 : Ok (blkL ao62 ++ (blkL ao10 ++ (M))) ([g55] ++ (blkL ao10 ++ (M))) w54.heap.size := (Ok.app (Ok.to hk62 (fun _ h => ml h)) (fun _ h => .inl (mr (h))))
   have f1 := f1.chg hc62 o1 o2
   have f10 := f10.chg hc62 o1 o2 (fun x (hx : x ∈ blkL ao10) (hy : x ∈ [g55]) => p_iD000057_i10 x hy hx) (fun _ h => mr (ml h))
   have q_hn7 : g4 ∉ blkL ao62 ++ (blkL ao10 ++ (M)) := fun h => (o2 g4 h).elim hn7 (fun h => absurd (lt_cell (hE6 0 _ rfl)) (Nat.not_lt.2 h))
   have hE6 : ∀ j v, (cS_api_Tunnel a0 ao1 cap1)[j]? = some v → w61.cell? ⟨g4, 0 + j, none⟩ = some v := fun j v hv => (cell_keep hc62 o1 hn7 (hE6 j v hv))
   have hn7 := q_hn7
   have p_iD000062_i10 : ∀ x ∈ blkL ao62, x ∉ (blkL ao10) := fun x hx hy => (hk62 x hx).elim (fun h => p_iD000057_i10 x h hy) (fun h => absurd (hM x (mr (ml hy))) (Nat.not_lt.2 h))
   have p_iD000062_M : ∀ x ∈ blkL ao62, x ∉ M := fun x hx hy => (hk62 x hx).elim (fun h => p_iD000057_M x h hy) (fun h => absurd (hM x (mr (mr (hy)))) (Nat.not_lt.2 h))
   have e_iD000062 : ∀ x ∈ blkL ao62, w.heap.size ≤ x := fun x hx => (hk62 x hx).elim (e_iD000057 x) (Nat.le_trans hC.size)
   have hM : MS (blkL ao62 ++ (blkL ao10 ++ (M))) w61 := (MS.app hl62 (fun x h => hM.chg hc62 x (mr (h))))
   have hC := hC.trans hc62 (fun x h => .inr (e_iD000057 x h))
   have d_iD000062 : Ok (blkL ao62) [] w9.heap.size := fun x hx => (hk62 x hx).elim (fun h => d_iD000057 x h) (fun h => .inr (Nat.le_trans hS.size h))
   have hS := hS.trans hc62 d_iD000057
   have f62 := hO62.chg (M' := blkL ao62 ++ (blkL ao10 ++ (M))) (Chg.refl [] _) (Ok.nil _ _) (Ok.app (fun _ h => .inl (ml h)) (Ok.to (fun _ h => .inl (mr (h))) (fun _ h => mr h))) (fun _ _ h => nomatch h) (fun _ h => ml h)
   refine ae hK59 hS ?_; clear hK59 K59
   refine tkpz 11 0 (.slice ao62 (([(7 : Int), (0 : Int), t52, IntKind.u8.wrap a0.Root.Size] : List Int) ++ t9).length cap62) ha (s := hS) (q := fun a ha => ?_)
   refine dn (by kernel_rfl) ?_
   refine hK48 _ _ ?_; try clear hK48 K48
   refine wp_seq_k fun K63 hK63 => ?_
   refine wp_region_lit ?_
   refine seg ha 2 [(1, .pointer (some ⟨g4, 0, none⟩)), (43, .slice ao62 (([(7 : Int), (0 : Int), t52, IntKind.u8.wrap a0.Root.Size] : List Int) ++ t9).length cap62), (44, .pointer (some ⟨g4, 0 + 20, none⟩))] (by kernel_rfl) fun a ha => ?_
   refine ld ha rfl (by kernel_rfl) rfl rfl rfl (hE6 20 (.slice ao1 a0.Id.length cap1) (by kernel_rfl)) fun a ha => ?_
   refine seg ha 1 [(1, .pointer (some ⟨g4, 0, none⟩)), (43, .slice ao62 (([(7 : Int), (0 : Int), t52, IntKind.u8.wrap a0.Root.Size] : List Int) ++ t9).length cap62), (46, .int .i64 (a0.Id.length : Int))] (by kernel_rfl) fun a ha => ?_
   have hML : MS (blkL ao10 ++ (M)) w61 := MS.rest hM (fun _ h => (List.mem_append.1 h).elim (fun h => mr (ml h)) (fun h => mr (mr (h))))
   have oL : Ok (blkL ao10 ++ (M)) (blkL ao62 ++ (blkL ao10 ++ (M))) w61.heap.size := (fun _ h => .inl (mr (h)))
   obtain ⟨t64, H64, H⟩ := bind_some H
   refine cl ha (by rfl) (by kernel_rfl) (by rfl) (by rfl) (by rfl) (cursor_Put.walk w61 _ hML (([(7 : Int), (0 : Int), t52, IntKind.u8.wrap a0.Root.Size] : List Int) ++ t9) ao62 cap62 (Own.toRSl (M' := blkL ao10 ++ (M)) f62 oL (fun x hx hm => (List.mem_append.1 hm).elim (fun h => p_iD000062_i10 x hx h) (fun h => p_iD000062_M x hx h))) (a0.Id.length : Int) (2 : Int) k _ H64) ?_
   rintro _ w64 ⟨ao65, cap65, rfl, f65, ne_i65, hc64, hMn⟩ a ha
   have o1 : Ok [] (blkL ao62 ++ (blkL ao10 ++ (M))) w61.heap.size := Ok.nil _ _
   have o2 : Ok (blkL ao65 ++ (blkL ao62 ++ (blkL ao10 ++ (M)))) (blkL ao62 ++ (blkL ao10 ++ (M))) w61.heap.size := (Ok.app (fun x h => .inr (ne_i65 x h)) (Ok.refl _ _))
   have f1 := f1.chg hc64 o1 o2
   have f62 := f62.chg hc64 o1 o2 (fun _ _ h => nomatch h) (fun _ h => mr (ml h))
   have q_hn7 : g4 ∉ blkL ao65 ++ (blkL ao62 ++ (blkL ao10 ++ (M))) := fun h => (o2 g4 h).elim hn7 (fun h => absurd (lt_cell (hE6 0 _ rfl)) (Nat.not_lt.2 h))
   have hE6 : ∀ j v, (cS_api_Tunnel a0 ao1 cap1)[j]? = some v → w64.cell? ⟨g4, 0 + j, none⟩ = some v := fun j v hv => (cell_keep hc64 o1 hn7 (hE6 j v hv))
   have hn7 := q_hn7
   have p_i65_iD000062 : ∀ x ∈ blkL ao65, x ∉ (blkL ao62) := fun x hx hy => absurd (hM x (ml hy)) (Nat.not_lt.2 (ne_i65 x hx))
   have p_i65_i10 : ∀ x ∈ blkL ao65, x ∉ (blkL ao10) := fun x hx hy => absurd (hM x (mr (ml hy))) (Nat.not_lt.2 (ne_i65 x hx))
   have p_i65_M : ∀ x ∈ blkL ao65, x ∉ M := fun x hx hy => absurd (hM x (mr (mr (hy)))) (Nat.not_lt.2 (ne_i65 x hx))
   have e_i65 : ∀ x ∈ blkL ao65, w.heap.size ≤ x := fun x hx => Nat.le_trans hC.size (ne_i65 x hx)
   have hM : MS (blkL ao65 ++ (blkL ao62 ++ (blkL ao10 ++ (M)))) w64 := (MS.app (fun x h => hMn x (ml h)) (hM.chg hc64))
   have hC := hC.trans hc64 (Ok.nil _ _)
   have f65 := Own.re (M' := blkL ao65 ++ (blkL ao62 ++ (blkL ao10 ++ (M)))) (fun _ _ _ _ _ h => h) f65 (fun _ h => ml h)
   refine seg ha 4 [(1, .pointer (some ⟨g4, 0, none⟩)), (6, .slice ao65 t64.1.length cap65)] (by kernel_rfl) fun a ha => ?_
   refine hK63 _ _ ?_; try clear hK63 K63
   refine wp_seq_k fun K66 hK66 => ?_
   refine wp_region_lit ?_
   refine seg ha 2 [(50, .slice ao65 t64.1.length cap65), (51, .pointer (some ⟨g4, 0 + 20, none⟩))] (by kernel_rfl) fun a ha => ?_
   refine ld ha rfl (by kernel_rfl) rfl rfl rfl (hE6 20 (.slice ao1 a0.Id.length cap1) (by kernel_rfl)) fun a ha => ?_
   obtain ⟨hx67, H⟩ := ite_some H
   refine app (r := (rInt .u8)) (xs := t64.1) (ys := a0.Id) ha (ElemT.mk' (bytes := 1) (by kernel_rfl)) rfl rfl rfl rfl rfl f65 f1.src hx67 (by decide) fun a w68 ao69 cap69 hO69 hc69 hk69 hl69 ha => ?_
   have o1 : Ok (blkL ao65) (blkL ao65 ++ (blkL ao62 ++ (blkL ao10 ++ (M)))) w64.heap.size := (fun _ h => .inl (ml h))
   have o2 : Ok (blkL ao69 ++ (blkL ao62 ++ (blkL ao10 ++ (M)))) (blkL ao65 ++ (blkL ao62 ++ (blkL ao10 ++ (M)))) w64.heap.size := (Ok.app (Ok.to hk69 (fun _ h => ml h)) (fun _ h => .inl (mr (h))))
   have f1 := f1.chg hc69 o1 o2
   have p_i69_iD000062 : ∀ x ∈ blkL ao69, x ∉ (blkL ao62) := fun x hx hy => (hk69 x hx).elim (fun h => p_i65_iD000062 x h hy) (fun h => absurd (hM x (mr (ml hy))) (Nat.not_lt.2 h))
   have p_i69_i10 : ∀ x ∈ blkL ao69, x ∉ (blkL ao10) := fun x hx hy => (hk69 x hx).elim (fun h => p_i65_i10 x h hy) (fun h => absurd (hM x (mr (mr (ml hy)))) (Nat.not_lt.2 h))
   have p_i69_M : ∀ x ∈ blkL ao69, x ∉ M := fun x hx hy => (hk69 x hx).elim (fun h => p_i65_M x h hy) (fun h => absurd (hM x (mr (mr (mr (hy))))) (Nat.not_lt.2 h))
   have e_i69 : ∀ x ∈ blkL ao69, w.heap.size ≤ x := fun x hx => (hk69 x hx).elim (e_i65 x) (Nat.le_trans hC.size)
   have hM : MS (blkL ao69 ++ (blkL ao62 ++ (blkL ao10 ++ (M)))) w68 := (MS.app hl69 (fun x h => hM.chg hc69 x (mr (h))))
   have hC := hC.trans hc69 (fun x h => .inr (e_i65 x h))
   have f69 := hO69.chg (M' := blkL ao69 ++ (blkL ao62 ++ (blkL ao10 ++ (M)))) (Chg.refl [] _) (Ok.nil _ _) (Ok.app (fun _ h => .inl (ml h)) (Ok.to (fun _ h => .inl (mr (h))) (fun _ h => mr h))) (fun _ _ h => nomatch h) (fun _ h => ml h)
   refine seg ha 1 [(2, .slice ao69 (t64.1 ++ a0.Id).length cap69)] (by kernel_rfl) fun a ha => ?_
   refine hK66 _ _ ?_; try clear hK66 K66
   refine wp_ret ?_
   try simp only [Exit.then, Exit.inBlock]
   have o1 : Ok [] (blkL ao69 ++ (blkL ao62 ++ (blkL ao10 ++ (M)))) w68.heap.size := Ok.nil _ _
   have o2 : Ok (blkL ao69 ++ (M)) (blkL ao69 ++ (blkL ao62 ++ (blkL ao10 ++ (M)))) w68.heap.size := (Ok.app (fun _ h => .inl (ml h)) (fun _ h => .inl (mr (mr (mr (h))))))
   have f69 := f69.chg (Chg.refl [] _) o1 o2 (fun _ _ h => nomatch h) (fun _ h => ml h)
   have hM : MS (blkL ao69 ++ (M)) w68 := (MS.app (fun x h => hM.chg (Chg.refl [] _) x (ml h)) (fun x h => hM.chg (Chg.refl [] _) x (mr (mr (mr (h))))))
   have hC := hC.trans (Chg.refl [] _) (Ok.nil _ _)
   obtain rfl := Option.some.inj H
   refine rt1 ha rfl rfl ?_
   exact ⟨ao69, cap69, rfl, f69, e_i69, hC, hM⟩
  ·have H := ite_f hc46 H
   refine wp_skip ?_
   refine hK44 _ _ ?_; try clear hK44 K44
   refine wp_seq_k fun K70 hK70 => ?_
   refine wp_region_lit ?_
   refine seg ha 2 [(1, .pointer (some ⟨g4, 0, none⟩)), (3, .slice ao10 t9.length cap10), (4, .int .u8 (6 : Int)), (16, .bool (a0.Kind == (2 : Int)))] (by kernel_rfl) fun a ha => ?_
   refine hK70 _ _ ?_; try clear hK70 K70
   refine cnd ha rfl (fun hc71 => ?_) (fun hc71 => ?_)
   ·have H := ite_t hc71 H
    refine wp_exit ?_
    simp only [Exit.then, Exit.inBlock, ↓reduceIte, Nat.reduceEqDiff]
    refine hK14 _ _ ?_; try clear hK14 K14
    refine wp_seq_k fun K72 hK72 => ?_
    refine wp_seq_k fun K73 hK73 => ?_
    have z_f1 := f1
    have z_f10 := (Own.toRSl (M' := []) f10 (Ok.nil _ _) (fun _ _ h => nomatch h))
    have z_hE6 := hE6
    have z_hn7 := hn7
    have okS : Ok [] (blkL ao10 ++ (M)) w9.heap.size := Ok.nil _ _
    refine drw (fun w' => Chg [] w9 w') (by kernel_rfl) fun w74 hc75 _ => ?_
    have hS : Chg [] w9 w74 := (Chg.refl [] _).trans hc75 (Ok.nil _ _)
    have o1 : Ok [] (blkL ao10 ++ (M)) w9.heap.size := Ok.nil _ _
    have o2 : Ok (blkL ao10 ++ (M)) (blkL ao10 ++ (M)) w9.heap.size := (Ok.refl _ _)
    have f1 := f1.chg hc75 o1 o2
    have f10 := f10.chg hc75 o1 o2 (fun _ _ h => nomatch h) (fun _ h => ml h)
    have q_hn7 : g4 ∉ blkL ao10 ++ (M) := fun h => (o2 g4 h).elim hn7 (fun h => absurd (lt_cell (hE6 0 _ rfl)) (Nat.not_lt.2 h))
    have hE6 : ∀ j v, (cS_api_Tunnel a0 ao1 cap1)[j]? = some v → w74.cell? ⟨g4, 0 + j, none⟩ = some v := fun j v hv => (cell_keep hc75 o1 hn7 (hE6 j v hv))
    have hn7 := q_hn7
    have hM : MS (blkL ao10 ++ (M)) w74 := (hM.chg hc75)
    have hC := hC.trans hc75 (Ok.nil _ _)
    refine tkpz 0 0 (.int .u8 (6 : Int)) ha (s := hS) (q := fun a ha => ?_)
    refine tkpz 1 0 (.pointer (some ⟨g4, 0 + 3, none⟩)) ha (s := hS) (q := fun a ha => ?_)
    refine tkz 2 ha (v := .agg (cS_api_Addr a0.Root).toArray) (y := fun w' hs => ldA_run (cs := (cS_api_Addr a0.Root)) ha rfl (by kernel_rfl) (cells_sub (fun j v hv => cell_keep hs okS z_hn7 (z_hE6 j v hv)) (all := (cS_api_Tunnel a0 ao1 cap1)) [.bool a0.Leaf, .int .i64 a0.Kind, .int .i64 a0.Label] [.slice ao1 a0.Id.length cap1] (by kernel_rfl))) (s := hS) (q := fun a ha => ?_)
    refine tkpz 4 0 (.pointer (some ⟨g4, 0 + 3, none⟩)) ha (s := hS) (q := fun a ha => ?_)
    refine tkpz 5 0 (.pointer (some ⟨g4, 0 + 3, none⟩)) ha (s := hS) (q := fun a ha => ?_)
    refine tkz 6 ha (v := .int .i64 a0.Root.Size) (y := fun w' hs => ld_run ha rfl (by kernel_rfl) (cell_keep hs okS z_hn7 (z_hE6 3 (.int .i64 a0.Root.Size) (by kernel_rfl)))) (s := hS) (q := fun a ha => ?_)
    refine tkpz 7 0 (.int .u8 (IntKind.u8.wrap a0.Root.Size)) ha (s := hS) (q := fun a ha => ?_)
    refine tkpz 9 0 (.slice ao10 t9.length cap10) ha (s := hS) (q := fun a ha => ?_)
    refine ac 3 (by kernel_rfl) (by rfl) fun K76 hK76 => ?_
    obtain ⟨t77, H77, H⟩ := bind_some H
    refine cl ha (by rfl) (by kernel_rfl) (by rfl) (by rfl) (by rfl) (pmsi_family.walk w74 _ hM a0.Root _ H77) ?_
    rintro _ w77 ⟨rfl, hc77, hMn⟩ a ha
    have o1 : Ok [] (blkL ao10 ++ (M)) w74.heap.size := Ok.nil _ _
    have o2 : Ok (blkL ao10 ++ (M)) (blkL ao10 ++ (M)) w74.heap.size := (Ok.refl _ _)
    have f1 := f1.chg hc77 o1 o2
    have f10 := f10.chg hc77 o1 o2 (fun _ _ h => nomatch h) (fun _ h => ml h)
    have q_hn7 : g4 ∉ blkL ao10 ++ (M) := fun h => (o2 g4 h).elim hn7 (fun h => absurd (lt_cell (hE6 0 _ rfl)) (Nat.not_lt.2 h))
    have hE6 : ∀ j v, (cS_api_Tunnel a0 ao1 cap1)[j]? = some v → w77.cell? ⟨g4, 0 + j, none⟩ = some v := fun j v hv => (cell_keep hc77 o1 hn7 (hE6 j v hv))
    have hn7 := q_hn7
    have hM : MS (blkL ao10 ++ (M)) w77 := (hM.chg hc77)
    have hC := hC.trans hc77 (Ok.nil _ _)
    have hS := hS.trans hc77 (Ok.nil _ _)
    refine ae hK76 hS ?_; clear hK76 K76
    refine ac 8 (by kernel_rfl) (by rfl) fun K78 hK78 => ?_
    refine bsl (vals := ([.int .u8 (6 : Int), .int .u8 (0 : Int), .int .u8 t77, .int .u8 (IntKind.u8.wrap a0.Root.Size)] : List Value)) (T := 5) ha rfl (([.int .u8 (6 : Int)] : List Value) ++ (([.int .u8 (0 : Int)] : List Value) ++ (([.int .u8 t77] : List Value) ++ (([.int .u8 (IntKind.u8.wrap a0.Root.Size)] : List Value) ++ ([] : List Value))))) (fun w => by kernel_rfl) rfl rfl rfl fun a w79 g80 hN81 ha => ?_
    have o1 : Ok [] (blkL ao10 ++ (M)) w77.heap.size := Ok.nil _ _
    have o2 : Ok ([g80] ++ (blkL ao10 ++ (M))) (blkL ao10 ++ (M)) w77.heap.size := (Ok.app (hN81.ok _) (Ok.refl _ _))
    have f1 := f1.chg hN81.chg o1 o2
    have f10 := f10.chg hN81.chg o1 o2 (fun _ _ h => nomatch h) (fun _ h => mr (ml h))
    have q_hn7 : g4 ∉ [g80] ++ (blkL ao10 ++ (M)) := fun h => (o2 g4 h).elim hn7 (fun h => absurd (lt_cell (hE6 0 _ rfl)) (Nat.not_lt.2 h))
    have hE6 : ∀ j v, (cS_api_Tunnel a0 ao1 cap1)[j]? = some v → w79.cell? ⟨g4, 0 + j, none⟩ = some v := fun j v hv => (cell_keep hN81.chg o1 hn7 (hE6 j v hv))
    have hn7 := q_hn7
    have p_iD000082_i10 : ∀ x ∈ [g80], x ∉ (blkL ao10) := fun x hx hy => absurd (hM x (ml hy)) (Nat.not_lt.2 ((hN81.ge1) x hx))
    have p_iD000082_M : ∀ x ∈ [g80], x ∉ M := fun x hx hy => absurd (hM x (mr (hy))) (Nat.not_lt.2 ((hN81.ge1) x hx))
    have e_iD000082 : ∀ x ∈ [g80], w.heap.size ≤ x := fun x hx => Nat.le_trans hC.size ((hN81.ge1) x hx)
    have hM : MS ([g80] ++ (blkL ao10 ++ (M))) w79 := (MS.app hN81.ms (hM.chg hN81.chg))
    have hC := hC.trans hN81.chg (Ok.nil _ _)
    have d_iD000082 : Ok ([g80]) [] w9.heap.size := fun x hx => .inr (Nat.le_trans hS.size ((hN81.ge1) x hx))
    have hS := hS.trans hN81.chg (Ok.nil _ _)
    have f83 : Own (rInt .u8) 5 w79 ([g80] ++ (blkL ao10 ++ (M))) (some ⟨g80, 0, none⟩) 4 ([(6 : Int), (0 : Int), t77, IntKind.u8.wrap a0.Root.Size] : List Int) := hN81.own ⟨([.int .u8 (6 : Int)] : List Value), _, rfl, rfl, ⟨([.int .u8 (0 : Int)] : List Value), _, rfl, rfl, ⟨([.int .u8 t77] : List Value), _, rfl, rfl, ⟨([.int .u8 (IntKind.u8.wrap a0.Root.Size)] : List Value), _, rfl, rfl, rfl⟩⟩⟩⟩ (Nat.le_of_ble_eq_true rfl)
    refine ae hK78 hS ?_; clear hK78 K78
    refine ac 10 (by kernel_rfl) (by rfl) fun K84 hK84 => ?_
    obtain ⟨hx85, H⟩ := ite_some H
    refine app (r := (rInt .u8)) (xs := ([(6 : Int), (0 : Int), t77, IntKind.u8.wrap a0.Root.Size] : List Int)) (ys := t9) ha (ElemT.mk' (bytes := 1) (by kernel_rfl)) rfl rfl rfl rfl rfl f83 f10.src hx85 (by decide) fun a w86 ao87 cap87 hO87 hc87 hk87 hl87 ha => ?_
    have o1 : Ok [g80] ([g80] ++ (blkL ao10 ++ (M))) w79.heap.size := (fun _ h => .inl (ml h))
    have o2 : Ok (blkL ao87 ++ (blkL ao10 ++ (M))) ([g80] ++ (blkL ao10 ++ (M))) w79.heap.size := (Ok.app (Ok.to hk87 (fun _ h => ml h)) (fun _ h => .inl (mr (h))))
    have f1 := f1.chg hc87 o1 o2
    have f10 := f10.chg hc87 o1 o2 (fun x (hx : x ∈ blkL ao10) (hy : x ∈ [g80]) => p_iD000082_i10 x hy hx) (fun _ h => mr (ml h))
    have q_hn7 : g4 ∉ blkL ao87 ++ (blkL ao10 ++ (M)) := fun h => (o2 g4 h).elim hn7 (fun h => absurd (lt_cell (hE6 0 _ rfl)) (Nat.not_lt.2 h))
    have hE6 : ∀ j v, (cS_api_Tunnel a0 ao1 cap1)[j]? = some v → w86.cell? ⟨g4, 0 + j, none⟩ = some v := fun j v hv => (cell_keep hc87 o1 hn7 (hE6 j v hv))
    have hn7 := q_hn7
    have p_iD000087_i10 : ∀ x ∈ blkL ao87, x ∉ (blkL ao10) := fun x hx hy => (hk87 x hx).elim (fun h => p_iD000082_i10 x h hy) (fun h => absurd (hM x (mr (ml hy))) (Nat.not_lt.2 h))
    have p_iD000087_M : ∀ x ∈ blkL ao87, x ∉ M := fun x hx hy => (hk87 x hx).elim (fun h => p_iD000082_M x h hy) (fun h => absurd (hM x (mr (mr (hy)))) (Nat.not_lt.2 h))
    have e_iD000087 : ∀ x ∈ blkL ao87, w.heap.size ≤ x := fun x hx => (hk87 x hx).elim (e_iD000082 x) (Nat.le_trans hC.size)
    have hM : MS (blkL ao87 ++ (blkL ao10 ++ (M))) w86 := (MS.app hl87 (fun x h => hM.chg hc87 x (mr (h))))
    have hC := hC.trans hc87 (fun x h => .inr (e_iD000082 x h))
    have d_iD000087 : Ok (blkL ao87) [] w9.heap.size := fun x hx => (hk87 x hx).elim (fun h => d_iD000082 x h) (fun h => .inr (Nat.le_trans hS.size h))
    have hS := hS.trans hc87 d_iD000082
    have f87 := hO87.chg (M' := blkL ao87 ++ (blkL ao10 ++ (M))) (Chg.refl [] _) (Ok.nil _ _) (Ok.app (fun _ h => .inl (ml h)) (Ok.to (fun _ h => .inl (mr (h))) (fun _ h => mr h))) (fun _ _ h => nomatch h) (fun _ h => ml h)
    refine ae hK84 hS ?_; clear hK84 K84
    refine tkpz 11 0 (.slice ao87 (([(6 : Int), (0 : Int), t77, IntKind.u8.wrap a0.Root.Size] : List Int) ++ t9).length cap87) ha (s := hS) (q := fun a ha => ?_)
    refine dn (by kernel_rfl) ?_
    refine hK73 _ _ ?_; try clear hK73 K73
    refine wp_seq_k fun K88 hK88 => ?_
    refine wp_region_lit ?_
    refine seg ha 2 [(1, .pointer (some ⟨g4, 0, none⟩)), (43, .slice ao87 (([(6 : Int), (0 : Int), t77, IntKind.u8.wrap a0.Root.Size] : List Int) ++ t9).length cap87), (44, .pointer (some ⟨g4, 0 + 20, none⟩))] (by kernel_rfl) fun a ha => ?_
    refine ld ha rfl (by kernel_rfl) rfl rfl rfl (hE6 20 (.slice ao1 a0.Id.length cap1) (by kernel_rfl)) fun a ha => ?_
    refine seg ha 1 [(1, .pointer (some ⟨g4, 0, none⟩)), (43, .slice ao87 (([(6 : Int), (0 : Int), t77, IntKind.u8.wrap a0.Root.Size] : List Int) ++ t9).length cap87), (46, .int .i64 (a0.Id.length : Int))] (by kernel_rfl) fun a ha => ?_
    have hML : MS (blkL ao10 ++ (M)) w86 := MS.rest hM (fun _ h => (List.mem_append.1 h).elim (fun h => mr (ml h)) (fun h => mr (mr (h))))
    have oL : Ok (blkL ao10 ++ (M)) (blkL ao87 ++ (blkL ao10 ++ (M))) w86.heap.size := (fun _ h => .inl (mr (h)))
    obtain ⟨t89, H89, H⟩ := bind_some H
    refine cl ha (by rfl) (by kernel_rfl) (by rfl) (by rfl) (by rfl) (cursor_Put.walk w86 _ hML (([(6 : Int), (0 : Int), t77, IntKind.u8.wrap a0.Root.Size] : List Int) ++ t9) ao87 cap87 (Own.toRSl (M' := blkL ao10 ++ (M)) f87 oL (fun x hx hm => (List.mem_append.1 hm).elim (fun h => p_iD000087_i10 x hx h) (fun h => p_iD000087_M x hx h))) (a0.Id.length : Int) (2 : Int) k _ H89) ?_
    rintro _ w89 ⟨ao90, cap90, rfl, f90, ne_i90, hc89, hMn⟩ a ha
    have o1 : Ok [] (blkL ao87 ++ (blkL ao10 ++ (M))) w86.heap.size := Ok.nil _ _
    have o2 : Ok (blkL ao90 ++ (blkL ao87 ++ (blkL ao10 ++ (M)))) (blkL ao87 ++ (blkL ao10 ++ (M))) w86.heap.size := (Ok.app (fun x h => .inr (ne_i90 x h)) (Ok.refl _ _))
    have f1 := f1.chg hc89 o1 o2
    have f87 := f87.chg hc89 o1 o2 (fun _ _ h => nomatch h) (fun _ h => mr (ml h))
    have q_hn7 : g4 ∉ blkL ao90 ++ (blkL ao87 ++ (blkL ao10 ++ (M))) := fun h => (o2 g4 h).elim hn7 (fun h => absurd (lt_cell (hE6 0 _ rfl)) (Nat.not_lt.2 h))
    have hE6 : ∀ j v, (cS_api_Tunnel a0 ao1 cap1)[j]? = some v → w89.cell? ⟨g4, 0 + j, none⟩ = some v := fun j v hv => (cell_keep hc89 o1 hn7 (hE6 j v hv))
    have hn7 := q_hn7
    have p_i90_iD000087 : ∀ x ∈ blkL ao90, x ∉ (blkL ao87) := fun x hx hy => absurd (hM x (ml hy)) (Nat.not_lt.2 (ne_i90 x hx))
    have p_i90_i10 : ∀ x ∈ blkL ao90, x ∉ (blkL ao10) := fun x hx hy => absurd (hM x (mr (ml hy))) (Nat.not_lt.2 (ne_i90 x hx))
    have p_i90_M : ∀ x ∈ blkL ao90, x ∉ M := fun x hx hy => absurd (hM x (mr (mr (hy)))) (Nat.not_lt.2 (ne_i90 x hx))
    have e_i90 : ∀ x ∈ blkL ao90, w.heap.size ≤ x := fun x hx => Nat.le_trans hC.size (ne_i90 x hx)
    have hM : MS (blkL ao90 ++ (blkL ao87 ++ (blkL ao10 ++ (M)))) w89 := (MS.app (fun x h => hMn x (ml h)) (hM.chg hc89))
    have hC := hC.trans hc89 (Ok.nil _ _)
    have f90 := Own.re (M' := blkL ao90 ++ (blkL ao87 ++ (blkL ao10 ++ (M)))) (fun _ _ _ _ _ h => h) f90 (fun _ h => ml h)
    refine seg ha 4 [(1, .pointer (some ⟨g4, 0, none⟩)), (6, .slice ao90 t89.1.length cap90)] (by kernel_rfl) fun a ha => ?_
    refine hK88 _ _ ?_; try clear hK88 K88
    refine wp_seq_k fun K91 hK91 => ?_
    refine wp_region_lit ?_
    refine seg ha 2 [(50, .slice ao90 t89.1.length cap90), (51, .pointer (some ⟨g4, 0 + 20, none⟩))] (by kernel_rfl) fun a ha => ?_
    refine ld ha rfl (by kernel_rfl) rfl rfl rfl (hE6 20 (.slice ao1 a0.Id.length cap1) (by kernel_rfl)) fun a ha => ?_
    obtain ⟨hx92, H⟩ := ite_some H
    refine app (r := (rInt .u8)) (xs := t89.1) (ys := a0.Id) ha (ElemT.mk' (bytes := 1) (by kernel_rfl)) rfl rfl rfl rfl rfl f90 f1.src hx92 (by decide) fun a w93 ao94 cap94 hO94 hc94 hk94 hl94 ha => ?_
    have o1 : Ok (blkL ao90) (blkL ao90 ++ (blkL ao87 ++ (blkL ao10 ++ (M)))) w89.heap.size := (fun _ h => .inl (ml h))
    have o2 : Ok (blkL ao94 ++ (blkL ao87 ++ (blkL ao10 ++ (M)))) (blkL ao90 ++ (blkL ao87 ++ (blkL ao10 ++ (M)))) w89.heap.size := (Ok.app (Ok.to hk94 (fun _ h => ml h)) (fun _ h => .inl (mr (h))))
    have f1 := f1.chg hc94 o1 o2
    have p_i94_iD000087 : ∀ x ∈ blkL ao94, x ∉ (blkL ao87) := fun x hx hy => (hk94 x hx).elim (fun h => p_i90_iD000087 x h hy) (fun h => absurd (hM x (mr (ml hy))) (Nat.not_lt.2 h))
    have p_i94_i10 : ∀ x ∈ blkL ao94, x ∉ (blkL ao10) := fun x hx hy => (hk94 x hx).elim (fun h => p_i90_i10 x h hy) (fun h => absurd (hM x (mr (mr (ml hy)))) (Nat.not_lt.2 h))
    have p_i94_M : ∀ x ∈ blkL ao94, x ∉ M := fun x hx hy => (hk94 x hx).elim (fun h => p_i90_M x h hy) (fun h => absurd (hM x (mr (mr (mr (hy))))) (Nat.not_lt.2 h))
    have e_i94 : ∀ x ∈ blkL ao94, w.heap.size ≤ x := fun x hx => (hk94 x hx).elim (e_i90 x) (Nat.le_trans hC.size)
    have hM : MS (blkL ao94 ++ (blkL ao87 ++ (blkL ao10 ++ (M)))) w93 := (MS.app hl94 (fun x h => hM.chg hc94 x (mr (h))))
    have hC := hC.trans hc94 (fun x h => .inr (e_i90 x h))
    have f94 := hO94.chg (M' := blkL ao94 ++ (blkL ao87 ++ (blkL ao10 ++ (M)))) (Chg.refl [] _) (Ok.nil _ _) (Ok.app (fun _ h => .inl (ml h)) (Ok.to (fun _ h => .inl (mr (h))) (fun _ h => mr h))) (fun _ _ h => nomatch h) (fun _ h => ml h)
    refine seg ha 1 [(2, .slice ao94 (t89.1 ++ a0.Id).length cap94)] (by kernel_rfl) fun a ha => ?_
    refine hK91 _ _ ?_; try clear hK91 K91
    refine wp_ret ?_
    try simp only [Exit.then, Exit.inBlock]
    have o1 : Ok [] (blkL ao94 ++ (blkL ao87 ++ (blkL ao10 ++ (M)))) w93.heap.size := Ok.nil _ _
    have o2 : Ok (blkL ao94 ++ (M)) (blkL ao94 ++ (blkL ao87 ++ (blkL ao10 ++ (M)))) w93.heap.size := (Ok.app (fun _ h => .inl (ml h)) (fun _ h => .inl (mr (mr (mr (h))))))
    have f94 := f94.chg (Chg.refl [] _) o1 o2 (fun _ _ h => nomatch h) (fun _ h => ml h)
    have hM : MS (blkL ao94 ++ (M)) w93 := (MS.app (fun x h => hM.chg (Chg.refl [] _) x (ml h)) (fun x h => hM.chg (Chg.refl [] _) x (mr (mr (mr (h))))))
    have hC := hC.trans (Chg.refl [] _) (Ok.nil _ _)
    obtain rfl := Option.some.inj H
    refine rt1 ha rfl rfl ?_
    exact ⟨ao94, cap94, rfl, f94, e_i94, hC, hM⟩
   ·have H := ite_f hc71 H
    refine wp_skip ?_
    refine hK17 _ _ ?_; try clear hK17 K17
    refine wp_exit ?_
    simp only [Exit.then, Exit.inBlock, ↓reduceIte, Nat.reduceEqDiff]
    refine hK12 _ _ ?_; try clear hK12 K12
    refine wp_seq_k fun K95 hK95 => ?_
    refine wp_region_lit ?_
    refine seg ha 2 [(54, .slice ao10 t9.length cap10), (55, .pointer (some ⟨g4, 0 + 20, none⟩))] (by kernel_rfl) fun a ha => ?_
    refine ld ha rfl (by kernel_rfl) rfl rfl rfl (hE6 20 (.slice ao1 a0.Id.length cap1) (by kernel_rfl)) fun a ha => ?_
    obtain ⟨hx96, H⟩ := ite_some H
    refine app (r := (rInt .u8)) (xs := t9) (ys := a0.Id) ha (ElemT.mk' (bytes := 1) (by kernel_rfl)) rfl rfl rfl rfl rfl f10 f1.src hx96 (by decide) fun a w97 ao98 cap98 hO98 hc98 hk98 hl98 ha => ?_
    have o1 : Ok (blkL ao10) (blkL ao10 ++ (M)) w9.heap.size := (fun _ h => .inl (ml h))
    have o2 : Ok (blkL ao98 ++ (M)) (blkL ao10 ++ (M)) w9.heap.size := (Ok.app (Ok.to hk98 (fun _ h => ml h)) (fun _ h => .inl (mr (h))))
    have f1 := f1.chg hc98 o1 o2
    have p_i98_M : ∀ x ∈ blkL ao98, x ∉ M := fun x hx hy => (hk98 x hx).elim (fun h => p_i10_M x h hy) (fun h => absurd (hM x (mr (hy))) (Nat.not_lt.2 h))
    have e_i98 : ∀ x ∈ blkL ao98, w.heap.size ≤ x := fun x hx => (hk98 x hx).elim (e_i10 x) (Nat.le_trans hC.size)
    have hM : MS (blkL ao98 ++ (M)) w97 := (MS.app hl98 (fun x h => hM.chg hc98 x (mr (h))))
    have hC := hC.trans hc98 (fun x h => .inr (e_i10 x h))
    have f98 := hO98.chg (M' := blkL ao98 ++ (M)) (Chg.refl [] _) (Ok.nil _ _) (Ok.app (fun _ h => .inl (ml h)) (Ok.to (fun _ h => .inl (mr (h))) (fun _ h => mr h))) (fun _ _ h => nomatch h) (fun _ h => ml h)
    refine seg ha 1 [(2, .slice ao98 (t9 ++ a0.Id).length cap98)] (by kernel_rfl) fun a ha => ?_
    refine hK95 _ _ ?_; try clear hK95 K95
    refine wp_ret ?_
    try simp only [Exit.then, Exit.inBlock]
    obtain rfl := Option.some.inj H
    refine rt1 ha rfl rfl ?_
    exact ⟨ao98, cap98, rfl, f98, e_i98, hC, hM⟩
def pmsi_Bytes.f (k : Nat) (a0 : S_api_Tunnel) : Option (List Int × Int) := (pmsi_Right.f k a0).bind fun t10 => (if (!t10) = true then some ((([] : List Int) : List Int), ((1 : Int) : Int)) else ((if a0.Leaf = true then some ((1 : Int) : Int) else some ((0 : Int) : Int))).bind fun s16 => (label_Bytes.f k a0.Label false).bind fun t18 => (if (([s16, IntKind.u8.wrap a0.Kind] : List Int).length + t18.1.length) * 1 ≤ 140737488355328 then (pmsi_identifier.f k a0).bind fun t34 => (if ((([s16, IntKind.u8.wrap a0.Kind] : List Int) ++ t18.1).length + t34.length) * 1 ≤ 140737488355328 then some ((((([s16, IntKind.u8.wrap a0.Kind] : List Int) ++ t18.1) ++ t34) : List Int), ((0 : Int) : Int)) else none) else none))
set_option maxRecDepth 100000 in
theorem pmsi_Bytes.walk (w : World) (M : List Nat) (hM : MS M w) (a0 : S_api_Tunnel) (ao1 : Option Addr) (cap1 : Nat) (f1 : RSl (rInt .u8) 5 w M ao1 cap1 a0.Id) (k : Nat) (r : List Int × Int) (H : pmsi_Bytes.f k a0 = some r) :
    To Tryd.prog 14 [.agg (cS_api_Tunnel a0 ao1 cap1).toArray] w fun v w' => ∃ (ao42 : Option Addr) (cap42 : Nat), v = .tuple #[.slice ao42 r.1.length cap42, .int .i64 r.2] ∧ (Own (rInt .u8) 5 w' (blkL ao42 ++ (M)) ao42 cap42 r.1) ∧ (∀ x ∈ blkL ao42, w.heap.size ≤ x) ∧ Chg [] w w' ∧ MS (blkL ao42 ++ (M)) w' := by
 unfold pmsi_Bytes.f at H
 refine ent Tryd.func14 rfl [(0, .agg (cS_api_Tunnel a0 ao1 cap1).toArray)] rfl (by rfl) fun a ha => ?_
 have hC : Chg [] w w := Chg.refl _ _
 refine wp_seq_k fun K2 hK2 => ?_
 refine wp_region_lit ?_
 refine bx (cs := (cS_api_Tunnel a0 ao1 cap1)) ha rfl rfl rfl rfl rfl fun a w3 g4 hN5 ha => ?_
 have hn7 := hN5.notin hM
 have o1 : Ok [] (M) w.heap.size := Ok.nil _ _
 have o2 : Ok (M) (M) w.heap.size := (Ok.refl _ _)
 have f1 := f1.chg hN5.chg o1 o2
 have hM : MS (M) w3 := (hM.chg hN5.chg)
 have hC := hC.trans hN5.chg (Ok.nil _ _)
 have hE6 : ∀ j v, (cS_api_Tunnel a0 ao1 cap1)[j]? = some v → w3.cell? ⟨g4, 0 + j, none⟩ = some v := Box.cells (New.box hN5)
 refine seg ha 2 [(1, .pointer (some ⟨g4, 0, none⟩))] (by kernel_rfl) fun a ha => ?_
 refine hK2 _ _ ?_; try clear hK2 K2
 refine wp_seq_k fun K8 hK8 => ?_
 refine wp_seq_k fun K9 hK9 => ?_
 refine wp_region_lit ?_
 refine ldA (cs := (cS_api_Tunnel a0 ao1 cap1)) ha rfl (by kernel_rfl) rfl rfl rfl (cells_sub hE6 (all := (cS_api_Tunnel a0 ao1 cap1)) [] [] (by kernel_rfl)) fun a ha => ?_
 obtain ⟨t10, H10, H⟩ := bind_some H
 refine cl ha (by rfl) (by kernel_rfl) (by rfl) (by rfl) (by rfl) (pmsi_Right.walk w3 _ hM a0 ao1 cap1 f1 k _ H10) ?_
 rintro _ w10 ⟨rfl, hc10, hMn⟩ a ha
 have o1 : Ok [] (M) w3.heap.size := Ok.nil _ _
 have o2 : Ok (M) (M) w3.heap.size := (Ok.refl _ _)
 have f1 := f1.chg hc10 o1 o2
 have q_hn7 : g4 ∉ M := fun h => (o2 g4 h).elim hn7 (fun h => absurd (lt_cell (hE6 0 _ rfl)) (Nat.not_lt.2 h))
 have hE6 : ∀ j v, (cS_api_Tunnel a0 ao1 cap1)[j]? = some v → w10.cell? ⟨g4, 0 + j, none⟩ = some v := fun j v hv => (cell_keep hc10 o1 hn7 (hE6 j v hv))
 have hn7 := q_hn7
 have hM : MS (M) w10 := (hM.chg hc10)
 have hC := hC.trans hc10 (Ok.nil _ _)
 refine seg ha 1 [(1, .pointer (some ⟨g4, 0, none⟩)), (9, .bool (!t10))] (by kernel_rfl) fun a ha => ?_
 refine hK9 _ _ ?_; try clear hK9 K9
 refine cnd ha rfl (fun hc11 => ?_) (fun hc11 => ?_)
 ·have H := ite_t hc11 H
  refine wp_seq_k fun K12 hK12 => ?_
  refine wp_region_lit ?_
  refine seg ha 2 [(2, .slice none 0 0), (3, .int .i64 (1 : Int))] (by kernel_rfl) fun a ha => ?_
  refine hK12 _ _ ?_; try clear hK12 K12
  refine wp_ret ?_
  try simp only [Exit.then, Exit.inBlock]
  have p_z13_M : ∀ x ∈ blkL none, x ∉ M := fun x hx hy => absurd (hM x (hy)) (Nat.not_lt.2 ((fun _ h => nomatch h) x hx))
  have e_z13 : ∀ x ∈ blkL none, w.heap.size ≤ x := fun x hx => Nat.le_trans hC.size ((fun _ h => nomatch h) x hx)
  have hM : MS (blkL none ++ (M)) w10 := (MS.app (fun _ h => nomatch h) (hM.chg (Chg.refl [] _)))
  have hC := hC.trans (Chg.refl [] _) (Ok.nil _ _)
  obtain rfl := Option.some.inj H
  refine rt2 ha rfl rfl rfl ?_
  exact ⟨none, 0, rfl, Own.nil, e_z13, hC, hM⟩
 ·have H := ite_f hc11 H
  refine wp_skip ?_
  refine hK8 _ _ ?_; try clear hK8 K8
  refine wp_seq_k fun K14 hK14 => ?_
  refine wp_region_lit ?_
  refine seg ha 1 [(1, .pointer (some ⟨g4, 0, none⟩)), (4, .int .u8 (0 : Int))] (by kernel_rfl) fun a ha => ?_
  refine hK14 _ _ ?_; try clear hK14 K14
  refine wp_seq_k fun K15 hK15 => ?_
  obtain ⟨s16, H16, H⟩ := bind_some H
  have J16 : ∀ (a : Act) (w16 : World), Has a Tryd.f14.ntmps [(1, .pointer (some ⟨g4, 0, none⟩)), (4, .int .u8 s16)] → (RSl (rInt .u8) 5 w16 (M) ao1 cap1 a0.Id) → (∀ j v, (cS_api_Tunnel a0 ao1 cap1)[j]? = some v → w16.cell? ⟨g4, 0 + j, none⟩ = some v) → (g4 ∉ (M)) → (Chg [] w w16) → (MS (M) w16) → K15 a w16 := by
   intro a w16 ha f1 hE6 hn7 hC hM
   refine hK15 _ _ ?_; try clear hK15 K15
   refine wp_seq_k fun K17 hK17 => ?_
   refine wp_region_lit ?_
   refine seg ha 1 [(1, .pointer (some ⟨g4, 0, none⟩)), (4, .int .u8 s16), (13, .pointer (some ⟨g4, 0 + 2, none⟩))] (by kernel_rfl) fun a ha => ?_
   refine ld ha rfl (by kernel_rfl) rfl rfl rfl (hE6 2 (.int .i64 a0.Label) (by kernel_rfl)) fun a ha => ?_
   obtain ⟨t18, H18, H⟩ := bind_some H
   refine cl ha (by rfl) (by kernel_rfl) (by rfl) (by rfl) (by rfl) (label_Bytes.walk w16 _ hM a0.Label false k _ H18) ?_
   rintro _ w18 ⟨ao19, cap19, rfl, f19, ne_i19, hc18, hMn⟩ a ha
   have o1 : Ok [] (M) w16.heap.size := Ok.nil _ _
   have o2 : Ok (blkL ao19 ++ (M)) (M) w16.heap.size := (Ok.app (fun x h => .inr (ne_i19 x h)) (Ok.refl _ _))
   have f1 := f1.chg hc18 o1 o2
   have q_hn7 : g4 ∉ blkL ao19 ++ (M) := fun h => (o2 g4 h).elim hn7 (fun h => absurd (lt_cell (hE6 0 _ rfl)) (Nat.not_lt.2 h))
   have hE6 : ∀ j v, (cS_api_Tunnel a0 ao1 cap1)[j]? = some v → w18.cell? ⟨g4, 0 + j, none⟩ = some v := fun j v hv => (cell_keep hc18 o1 hn7 (hE6 j v hv))
   have hn7 := q_hn7
   have p_i19_M : ∀ x ∈ blkL ao19, x ∉ M := fun x hx hy => absurd (hM x (hy)) (Nat.not_lt.2 (ne_i19 x hx))
   have e_i19 : ∀ x ∈ blkL ao19, w.heap.size ≤ x := fun x hx => Nat.le_trans hC.size (ne_i19 x hx)
   have hM : MS (blkL ao19 ++ (M)) w18 := (MS.app (fun x h => hMn x (ml h)) (hM.chg hc18))
   have hC := hC.trans hc18 (Ok.nil _ _)
   refine seg ha 5 [(1, .pointer (some ⟨g4, 0, none⟩)), (4, .int .u8 s16), (5, .slice ao19 t18.1.length cap19)] (by kernel_rfl) fun a ha => ?_
   refine hK17 _ _ ?_; try clear hK17 K17
   refine wp_seq_k fun K20 hK20 => ?_
   have z_f1 := f1
   have z_f19 := (Own.toRSl (M' := []) f19 (Ok.nil _ _) (fun _ _ h => nomatch h))
   have z_hE6 := hE6
   have z_hn7 := hn7
   have okS : Ok [] (blkL ao19 ++ (M)) w18.heap.size := Ok.nil _ _
   refine drw (fun w' => Chg [] w18 w') (by kernel_rfl) fun w21 hc22 _ => ?_
   have hS : Chg [] w18 w21 := (Chg.refl [] _).trans hc22 (Ok.nil _ _)
   have o1 : Ok [] (blkL ao19 ++ (M)) w18.heap.size := Ok.nil _ _
   have o2 : Ok (blkL ao19 ++ (M)) (blkL ao19 ++ (M)) w18.heap.size := (Ok.refl _ _)
   have f1 := f1.chg hc22 o1 o2
   have f19 := f19.chg hc22 o1 o2 (fun _ _ h => nomatch h) (fun _ h => ml h)
   have q_hn7 : g4 ∉ blkL ao19 ++ (M) := fun h => (o2 g4 h).elim hn7 (fun h => absurd (lt_cell (hE6 0 _ rfl)) (Nat.not_lt.2 h))
   have hE6 : ∀ j v, (cS_api_Tunnel a0 ao1 cap1)[j]? = some v → w21.cell? ⟨g4, 0 + j, none⟩ = some v := fun j v hv => (cell_keep hc22 o1 hn7 (hE6 j v hv))
   have hn7 := q_hn7
   have hM : MS (blkL ao19 ++ (M)) w21 := (hM.chg hc22)
   have hC := hC.trans hc22 (Ok.nil _ _)
   refine tkpz 0 0 (.int .u8 s16) ha (s := hS) (q := fun a ha => ?_)
   refine tkpz 1 0 (.pointer (some ⟨g4, 0 + 1, none⟩)) ha (s := hS) (q := fun a ha => ?_)
   refine tkz 2 ha (v := .int .i64 a0.Kind) (y := fun w' hs => ld_run ha rfl (by kernel_rfl) (cell_keep hs okS z_hn7 (z_hE6 1 (.int .i64 a0.Kind) (by kernel_rfl)))) (s := hS) (q := fun a ha => ?_)
   refine tkpz 3 0 (.int .u8 (IntKind.u8.wrap a0.Kind)) ha (s := hS) (q := fun a ha => ?_)
   refine tkpz 5 0 (.slice ao19 t18.1.length cap19) ha (s := hS) (q := fun a ha => ?_)
   refine tkz 7 ha (v := .agg (cS_api_Tunnel a0 ao1 cap1).toArray) (y := fun w' hs => ldA_run (cs := (cS_api_Tunnel a0 ao1 cap1)) ha rfl (by kernel_rfl) (cells_sub (fun j v hv => cell_keep hs okS z_hn7 (z_hE6 j v hv)) (all := (cS_api_Tunnel a0 ao1 cap1)) [] [] (by kernel_rfl))) (s := hS) (q := fun a ha => ?_)
   refine ac 4 (by kernel_rfl) (by rfl) fun K23 hK23 => ?_
   refine bsl (vals := ([.int .u8 s16, .int .u8 (IntKind.u8.wrap a0.Kind)] : List Value)) (T := 5) ha rfl (([.int .u8 s16] : List Value) ++ (([.int .u8 (IntKind.u8.wrap a0.Kind)] : List Value) ++ ([] : List Value))) (fun w => by kernel_rfl) rfl rfl rfl fun a w24 g25 hN26 ha => ?_
   have o1 : Ok [] (blkL ao19 ++ (M)) w21.heap.size := Ok.nil _ _
   have o2 : Ok ([g25] ++ (blkL ao19 ++ (M))) (blkL ao19 ++ (M)) w21.heap.size := (Ok.app (hN26.ok _) (Ok.refl _ _))
   have f1 := f1.chg hN26.chg o1 o2
   have f19 := f19.chg hN26.chg o1 o2 (fun _ _ h => nomatch h) (fun _ h => mr (ml h))
   have q_hn7 : g4 ∉ [g25] ++ (blkL ao19 ++ (M)) := fun h => (o2 g4 h).elim hn7 (fun h => absurd (lt_cell (hE6 0 _ rfl)) (Nat.not_lt.2 h))
   have hE6 : ∀ j v, (cS_api_Tunnel a0 ao1 cap1)[j]? = some v → w24.cell? ⟨g4, 0 + j, none⟩ = some v := fun j v hv => (cell_keep hN26.chg o1 hn7 (hE6 j v hv))
   have hn7 := q_hn7
   have p_iD000027_i19 : ∀ x ∈ [g25], x ∉ (blkL ao19) := fun x hx hy => absurd (hM x (ml hy)) (Nat.not_lt.2 ((hN26.ge1) x hx))
   have p_iD000027_M : ∀ x ∈ [g25], x ∉ M := fun x hx hy => absurd (hM x (mr (hy))) (Nat.not_lt.2 ((hN26.ge1) x hx))
   have e_iD000027 : ∀ x ∈ [g25], w.heap.size ≤ x := fun x hx => Nat.le_trans hC.size ((hN26.ge1) x hx)
   have hM : MS ([g25] ++ (blkL ao19 ++ (M))) w24 := (MS.app hN26.ms (hM.chg hN26.chg))
   have hC := hC.trans hN26.chg (Ok.nil _ _)
   have d_iD000027 : Ok ([g25]) [] w18.heap.size := fun x hx => .inr (Nat.le_trans hS.size ((hN26.ge1) x hx))
   have hS := hS.trans hN26.chg (Ok.nil _ _)
   have f28 : Own (rInt .u8) 5 w24 ([g25] ++ (blkL ao19 ++ (M))) (some ⟨g25, 0, none⟩) 2 ([s16, IntKind.u8.wrap a0.Kind] : List Int) := hN26.own ⟨([.int .u8 s16] : List Value), _, rfl, rfl, ⟨([.int .u8 (IntKind.u8.wrap a0.Kind)] : List Value), _, rfl, rfl, rfl⟩⟩ (Nat.le_of_ble_eq_true rfl)
   refine ae hK23 hS ?_; clear hK23 K23
   refine ac 6 (by kernel_rfl) (by rfl) fun K29 hK29 => ?_
   obtain ⟨hx30, H⟩ := ite_some H
   refine app (r := (rInt .u8)) (xs := ([s16, IntKind.u8.wrap a0.Kind] : List Int)) (ys := t18.1) ha (ElemT.mk' (bytes := 1) (by kernel_rfl)) rfl rfl rfl rfl rfl f28 f19.src hx30 (by decide) fun a w31 ao32 cap32 hO32 hc32 hk32 hl32 ha => ?_
   have o1 : Ok [g25] ([g25] ++ (blkL ao19 ++ (M))) w24.heap.size := (fun _ h => .inl (ml h))
   have o2 : Ok (blkL ao32 ++ (blkL ao19 ++ (M))) ([g25] ++ (blkL ao19 ++ (M))) w24.heap.size := (Ok.app (Ok.to hk32 (fun _ h => ml h)) (fun _ h => .inl (mr (h))))
   have f1 := f1.chg hc32 o1 o2
   have f19 := f19.chg hc32 o1 o2 (fun x (hx : x ∈ blkL ao19) (hy : x ∈ [g25]) => p_iD000027_i19 x hy hx) (fun _ h => mr (ml h))
   have q_hn7 : g4 ∉ blkL ao32 ++ (blkL ao19 ++ (M)) := fun h => (o2 g4 h).elim hn7 (fun h => absurd (lt_cell (hE6 0 _ rfl)) (Nat.not_lt.2 h))
   have hE6 : ∀ j v, (cS_api_Tunnel a0 ao1 cap1)[j]? = some v → w31.cell? ⟨g4, 0 + j, none⟩ = some v := fun j v hv => (cell_keep hc32 o1 hn7 (hE6 j v hv))
   have hn7 := q_hn7
   have p_iD000032_i19 : ∀ x ∈ blkL ao32, x ∉ (blkL ao19) := fun x hx hy => (hk32 x hx).elim (fun h => p_iD000027_i19 x h hy) (fun h => absurd (hM x (mr (ml hy))) (Nat.not_lt.2 h))
   have p_iD000032_M : ∀ x ∈ blkL ao32, x ∉ M := fun x hx hy => (hk32 x hx).elim (fun h => p_iD000027_M x h hy) (fun h => absurd (hM x (mr (mr (hy)))) (Nat.not_lt.2 h))
   have e_iD000032 : ∀ x ∈ blkL ao32, w.heap.size ≤ x := fun x hx => (hk32 x hx).elim (e_iD000027 x) (Nat.le_trans hC.size)
   have hM : MS (blkL ao32 ++ (blkL ao19 ++ (M))) w31 := (MS.app hl32 (fun x h => hM.chg hc32 x (mr (h))))
   have hC := hC.trans hc32 (fun x h => .inr (e_iD000027 x h))
   have d_iD000032 : Ok (blkL ao32) [] w18.heap.size := fun x hx => (hk32 x hx).elim (fun h => d_iD000027 x h) (fun h => .inr (Nat.le_trans hS.size h))
   have hS := hS.trans hc32 d_iD000027
   have f32 := hO32.chg (M' := blkL ao32 ++ (blkL ao19 ++ (M))) (Chg.refl [] _) (Ok.nil _ _) (Ok.app (fun _ h => .inl (ml h)) (Ok.to (fun _ h => .inl (mr (h))) (fun _ h => mr h))) (fun _ _ h => nomatch h) (fun _ h => ml h)
   refine ae hK29 hS ?_; clear hK29 K29
   refine ac 8 (by kernel_rfl) (by rfl) fun K33 hK33 => ?_
   obtain ⟨t34, H34, H⟩ := bind_some H
   refine cl ha (by rfl) (by kernel_rfl) (by rfl) (by rfl) (by rfl) (pmsi_identifier.walk w31 _ hM a0 ao1 cap1 f1 k _ H34) ?_
   rintro _ w34 ⟨ao35, cap35, rfl, f35, ne_iD000035, hc34, hMn⟩ a ha
   have o1 : Ok [] (blkL ao32 ++ (blkL ao19 ++ (M))) w31.heap.size := Ok.nil _ _
   have o2 : Ok (blkL ao35 ++ (blkL ao32 ++ (blkL ao19 ++ (M)))) (blkL ao32 ++ (blkL ao19 ++ (M))) w31.heap.size := (Ok.app (fun x h => .inr (ne_iD000035 x h)) (Ok.refl _ _))
   have f1 := f1.chg hc34 o1 o2
   have f19 := f19.chg hc34 o1 o2 (fun _ _ h => nomatch h) (fun _ h => mr (mr (ml h)))
   have f32 := f32.chg hc34 o1 o2 (fun _ _ h => nomatch h) (fun _ h => mr (ml h))
   have q_hn7 : g4 ∉ blkL ao35 ++ (blkL ao32 ++ (blkL ao19 ++ (M))) := fun h => (o2 g4 h).elim hn7 (fun h => absurd (lt_cell (hE6 0 _ rfl)) (Nat.not_lt.2 h))
   have hE6 : ∀ j v, (cS_api_Tunnel a0 ao1 cap1)[j]? = some v → w34.cell? ⟨g4, 0 + j, none⟩ = some v := fun j v hv => (cell_keep hc34 o1 hn7 (hE6 j v hv))
   have hn7 := q_hn7
   have p_iD000035_iD000032 : ∀ x ∈ blkL ao35, x ∉ (blkL ao32) := fun x hx hy => absurd (hM x (ml hy)) (Nat.not_lt.2 (ne_iD000035 x hx))
   have p_iD000035_i19 : ∀ x ∈ blkL ao35, x ∉ (blkL ao19) := fun x hx hy => absurd (hM x (mr (ml hy))) (Nat.not_lt.2 (ne_iD000035 x hx))
   have p_iD000035_M : ∀ x ∈ blkL ao35, x ∉ M := fun x hx hy => absurd (hM x (mr (mr (hy)))) (Nat.not_lt.2 (ne_iD000035 x hx))
   have e_iD000035 : ∀ x ∈ blkL ao35, w.heap.size ≤ x := fun x hx => Nat.le_trans hC.size (ne_iD000035 x hx)
   have hM : MS (blkL ao35 ++ (blkL ao32 ++ (blkL ao19 ++ (M)))) w34 := (MS.app (fun x h => hMn x (ml h)) (hM.chg hc34))
   have hC := hC.trans hc34 (Ok.nil _ _)
   have d_iD000035 : Ok (blkL ao35) [] w18.heap.size := fun x hx => .inr (Nat.le_trans hS.size (ne_iD000035 x hx))
   have hS := hS.trans hc34 (Ok.nil _ _)
   refine ae hK33 hS ?_; clear hK33 K33
   refine ac 9 (by kernel_rfl) (by rfl) fun K36 hK36 => ?_
   obtain ⟨hx37, H⟩ := ite_some H
   refine app (r := (rInt .u8)) (xs := (([s16, IntKind.u8.wrap a0.Kind] : List Int) ++ t18.1)) (ys := t34) ha (ElemT.mk' (bytes := 1) (by kernel_rfl)) rfl rfl rfl rfl rfl f32 f35.src hx37 (by decide) fun a w38 ao39 cap39 hO39 hc39 hk39 hl39 ha => ?_
   have o1 : Ok (blkL ao32) (blkL ao35 ++ (blkL ao32 ++ (blkL ao19 ++ (M)))) w34.heap.size := (fun _ h => .inl (mr (ml h)))
   have o2 : Ok (blkL ao39 ++ (blkL ao35 ++ (blkL ao19 ++ (M)))) (blkL ao35 ++ (blkL ao32 ++ (blkL ao19 ++ (M)))) w34.heap.size := (Ok.app (Ok.to hk39 (fun _ h => mr (ml h))) (Ok.app (fun _ h => .inl (ml h)) (fun _ h => .inl (mr (mr (h))))))
   have f1 := f1.chg hc39 o1 o2
   have f19 := f19.chg hc39 o1 o2 (fun x (hx : x ∈ blkL ao19) (hy : x ∈ blkL ao32) => p_iD000032_i19 x hy hx) (fun _ h => mr (mr (ml h)))
   have f35 := f35.chg hc39 o1 o2 p_iD000035_iD000032 (fun _ h => mr (ml h))
   have q_hn7 : g4 ∉ blkL ao39 ++ (blkL ao35 ++ (blkL ao19 ++ (M))) := fun h => (o2 g4 h).elim hn7 (fun h => absurd (lt_cell (hE6 0 _ rfl)) (Nat.not_lt.2 h))
   have hE6 : ∀ j v, (cS_api_Tunnel a0 ao1 cap1)[j]? = some v → w38.cell? ⟨g4, 0 + j, none⟩ = some v := fun j v hv => (cell_keep hc39 o1 hn7 (hE6 j v hv))
   have hn7 := q_hn7
   have p_iD000039_iD000035 : ∀ x ∈ blkL ao39, x ∉ (blkL ao35) := fun x hx hy => (hk39 x hx).elim (fun h => (fun x hx hy => p_iD000035_iD000032 x hy hx) x h hy) (fun h => absurd (hM x (ml hy)) (Nat.not_lt.2 h))
   have p_iD000039_i19 : ∀ x ∈ blkL ao39, x ∉ (blkL ao19) := fun x hx hy => (hk39 x hx).elim (fun h => p_iD000032_i19 x h hy) (fun h => absurd (hM x (mr (mr (ml hy)))) (Nat.not_lt.2 h))
   have p_iD000039_M : ∀ x ∈ blkL ao39, x ∉ M := fun x hx hy => (hk39 x hx).elim (fun h => p_iD000032_M x h hy) (fun h => absurd (hM x (mr (mr (mr (hy))))) (Nat.not_lt.2 h))
   have e_iD000039 : ∀ x ∈ blkL ao39, w.heap.size ≤ x := fun x hx => (hk39 x hx).elim (e_iD000032 x) (Nat.le_trans hC.size)
   have hM : MS (blkL ao39 ++ (blkL ao35 ++ (blkL ao19 ++ (M)))) w38 := (MS.app hl39 (MS.app (fun x h => hM.chg hc39 x (ml h)) (fun x h => hM.chg hc39 x (mr (mr (h))))))
   have hC := hC.trans hc39 (fun x h => .inr (e_iD000032 x h))
   have d_iD000039 : Ok (blkL ao39) [] w18.heap.size := fun x hx => (hk39 x hx).elim (fun h => d_iD000032 x h) (fun h => .inr (Nat.le_trans hS.size h))
   have hS := hS.trans hc39 d_iD000032
   have f39 := hO39.chg (M' := blkL ao39 ++ (blkL ao35 ++ (blkL ao19 ++ (M)))) (Chg.refl [] _) (Ok.nil _ _) (Ok.app (fun _ h => .inl (ml h)) (Ok.to (Ok.app (fun _ h => .inl (ml h)) (fun _ h => .inl (mr (mr (h))))) (fun _ h => mr h))) (fun _ _ h => nomatch h) (fun _ h => ml h)
   refine ae hK36 hS ?_; clear hK36 K36
   refine tkpz 10 0 (.slice ao39 ((([s16, IntKind.u8.wrap a0.Kind] : List Int) ++ t18.1) ++ t34).length cap39) ha (s := hS) (q := fun a ha => ?_)
   refine tkpz 11 0 (.int .i64 (0 : Int)) ha (s := hS) (q := fun a ha => ?_)
   refine dn (by kernel_rfl) ?_
   refine hK20 _ _ ?_; try clear hK20 K20
   refine wp_ret ?_
   try simp only [Exit.then, Exit.inBlock]
   have o1 : Ok [] (blkL ao39 ++ (blkL ao35 ++ (blkL ao19 ++ (M)))) w38.heap.size := Ok.nil _ _
   have o2 : Ok (blkL ao39 ++ (M)) (blkL ao39 ++ (blkL ao35 ++ (blkL ao19 ++ (M)))) w38.heap.size := (Ok.app (fun _ h => .inl (ml h)) (fun _ h => .inl (mr (mr (mr (h))))))
   have f39 := f39.chg (Chg.refl [] _) o1 o2 (fun _ _ h => nomatch h) (fun _ h => ml h)
   have hM : MS (blkL ao39 ++ (M)) w38 := (MS.app (fun x h => hM.chg (Chg.refl [] _) x (ml h)) (fun x h => hM.chg (Chg.refl [] _) x (mr (mr (mr (h))))))
   have hC := hC.trans (Chg.refl [] _) (Ok.nil _ _)
   obtain rfl := Option.some.inj H
   refine rt2 ha rfl rfl rfl ?_
   exact ⟨ao39, cap39, rfl, f39, e_iD000039, hC, hM⟩
  have H := H16
  refine wp_seq_k fun K40 hK40 => ?_
  refine wp_region_lit ?_
  refine seg ha 1 [(1, .pointer (some ⟨g4, 0, none⟩)), (4, .int .u8 (0 : Int)), (10, .pointer (some ⟨g4, 0, none⟩))] (by kernel_rfl) fun a ha => ?_
  refine ld ha rfl (by kernel_rfl) rfl rfl rfl (hE6 0 (.bool a0.Leaf) (by kernel_rfl)) fun a ha => ?_
  refine hK40 _ _ ?_; try clear hK40 K40
  refine cnd ha rfl (fun hc41 => ?_) (fun hc41 => ?_)
  ·have H := ite_t hc41 H
   refine wp_region_lit ?_
   refine seg ha 1 [(1, .pointer (some ⟨g4, 0, none⟩)), (4, .int .u8 (1 : Int))] (by kernel_rfl) fun a ha => ?_
   obtain rfl := Option.some.inj H
   exact J16 _ _ (ha.sel (by kernel_rfl)) f1 hE6 hn7 hC hM
  ·have H := ite_f hc41 H
   refine wp_skip ?_
   obtain rfl := Option.some.inj H
   exact J16 _ _ (ha.sel (by kernel_rfl)) f1 hE6 hn7 hC hM
def cursor_Open.f (a0 : List Int) : Option (S_cursor_Reader) := (bytes_Clone.f a0).bind fun t4 => some (((⟨(⟨t4, false⟩ : S_cursor_rest)⟩ : S_cursor_Reader) : S_cursor_Reader))
set_option maxRecDepth 100000 in
theorem cursor_Open.walk (w : World) (M : List Nat) (hM : MS M w) (a0 : List Int) (ao1 : Option Addr) (cap1 : Nat) (f1 : RSl (rInt .u8) 5 w M ao1 cap1 a0) (r : S_cursor_Reader) (H : cursor_Open.f a0 = some r) :
    To Tryd.prog 41 [.slice ao1 a0.length cap1] w fun v w' => ∃ (g10 : Nat) (ao12 : Option Addr) (cap12 : Nat), v = .pointer (some ⟨g10, 0, none⟩) ∧ (RSl (rInt .u8) 5 w' ([g10] ++ (M)) ao12 cap12 r.rest.left) ∧ (Box w' g10 (cS_cursor_Reader r ao12 cap12)) ∧ (∀ x ∈ [g10], w.heap.size ≤ x) ∧ Chg [] w w' ∧ MS ([g10] ++ (M)) w' := by
 unfold cursor_Open.f at H
 refine ent Tryd.func41 rfl [(0, .slice ao1 a0.length cap1)] rfl (by rfl) fun a ha => ?_
 have hC : Chg [] w w := Chg.refl _ _
 refine wp_seq_k fun K2 hK2 => ?_
 refine wp_region_lit ?_
 refine seg ha 1 [(0, .slice ao1 a0.length cap1)] (by kernel_rfl) fun a ha => ?_
 refine hK2 _ _ ?_; try clear hK2 K2
 refine wp_seq_k fun K3 hK3 => ?_
 refine wp_region_lit ?_
 refine seg ha 1 [(3, .slice ao1 a0.length cap1)] (by kernel_rfl) fun a ha => ?_
 obtain ⟨t4, H4, H⟩ := bind_some H
 refine cl ha (by rfl) (by kernel_rfl) (by rfl) (by rfl) (by rfl) (bytes_Clone.walk w _ hM a0 ao1 cap1 f1 _ H4) ?_
 rintro _ w4 ⟨ao5, cap5, rfl, f5, ne_i5, hc4, hMn⟩ a ha
 have o1 : Ok [] (M) w.heap.size := Ok.nil _ _
 have o2 : Ok (blkL ao5 ++ (M)) (M) w.heap.size := (Ok.app (fun x h => .inr (ne_i5 x h)) (Ok.refl _ _))
 have f1 := f1.chg hc4 o1 o2
 have p_i5_M : ∀ x ∈ blkL ao5, x ∉ M := fun x hx hy => absurd (hM x (hy)) (Nat.not_lt.2 (ne_i5 x hx))
 have e_i5 : ∀ x ∈ blkL ao5, w.heap.size ≤ x := fun x hx => Nat.le_trans hC.size (ne_i5 x hx)
 have hM : MS (blkL ao5 ++ (M)) w4 := (MS.app (fun x h => hMn x (ml h)) (hM.chg hc4))
 have hC := hC.trans hc4 (Ok.nil _ _)
 refine opk (v := .agg (cS_cursor_rest (⟨t4, false⟩ : S_cursor_rest) ao5 cap5).toArray) ha rfl rfl rfl rfl rfl (fun w => by kernel_rfl) fun a ha => ?_
 refine opk (v := .agg (cS_cursor_Reader (⟨(⟨t4, false⟩ : S_cursor_rest)⟩ : S_cursor_Reader) ao5 cap5).toArray) ha rfl rfl rfl rfl rfl (fun w => by kernel_rfl) fun a ha => ?_
 have fz := f5.toRSl (M' := M) (fun _ h => .inl (mr (h))) (fun x hx hm => p_i5_M x hx hm)
 have hM : MS (M) w4 := (fun x h => hM.chg (Chg.refl [] _) x (mr (h)))
 have hC := hC.trans (Chg.refl [] _) (Ok.nil _ _)
 have f5 := fz
 refine bx (cs := (cS_cursor_Reader (⟨(⟨t4, false⟩ : S_cursor_rest)⟩ : S_cursor_Reader) ao5 cap5)) ha rfl rfl rfl rfl rfl fun a w6 g7 hN8 ha => ?_
 have o1 : Ok [] (M) w4.heap.size := Ok.nil _ _
 have o2 : Ok ([g7] ++ (M)) (M) w4.heap.size := (Ok.app (hN8.ok _) (Ok.refl _ _))
 have f5 := f5.chg hN8.chg o1 o2
 have p_i9_M : ∀ x ∈ [g7], x ∉ M := fun x hx hy => absurd (hM x (hy)) (Nat.not_lt.2 ((hN8.ge1) x hx))
 have e_i9 : ∀ x ∈ [g7], w.heap.size ≤ x := fun x hx => Nat.le_trans hC.size ((hN8.ge1) x hx)
 have hM : MS ([g7] ++ (M)) w6 := (MS.app hN8.ms (hM.chg hN8.chg))
 have hC := hC.trans hN8.chg (Ok.nil _ _)
 have hBg7 : Box w6 g7 (cS_cursor_Reader (⟨(⟨t4, false⟩ : S_cursor_rest)⟩ : S_cursor_Reader) ao5 cap5) := hN8.box
 refine seg ha 1 [(2, .pointer (some ⟨g7, 0, none⟩))] (by kernel_rfl) fun a ha => ?_
 refine hK3 _ _ ?_; try clear hK3 K3
 refine wp_ret ?_
 try simp only [Exit.then, Exit.inBlock]
 obtain rfl := Option.some.inj H
 refine rt1 ha rfl rfl ?_
 exact ⟨g7, ao5, cap5, rfl, f5, hBg7, e_i9, hC, hM⟩
def cursor_rest_next.f (a0 : S_cursor_rest) (a1 : Int) : Option (List Int × S_cursor_rest) := ((if a0.bad = true then some (true : Bool) else (if (decide (a1 < (0 : Int))) = true then some (true : Bool) else some (decide (a1 > (a0.left.length : Int)) : Bool)))).bind fun s5 => (if s5 = true then some ((([] : List Int) : List Int), ((⟨a0.left, true⟩ : S_cursor_rest) : S_cursor_rest)) else (if 0 ≤ (0 : Int) ∧ (0 : Int) ≤ a1 ∧ a1 ≤ (a0.left.length : Int) then (if 0 ≤ a1 ∧ a1 ≤ (a0.left.length : Int) ∧ (a0.left.length : Int) ≤ (a0.left.length : Int) then some ((((a0.left.take (Int.toNat a1)).drop (Int.toNat (0 : Int))) : List Int), ((⟨((a0.left.take (Int.toNat (a0.left.length : Int))).drop (Int.toNat a1)), a0.bad⟩ : S_cursor_rest) : S_cursor_rest)) else none) else none))
set_option maxRecDepth 100000 in
theorem cursor_rest_next.walk (w : World) (M : List Nat) (hM : MS M w) (gp0 : Nat) (a0 : S_cursor_rest) (ao1 : Option Addr) (cap1 : Nat) (f1 : RSl (rInt .u8) 5 w M ao1 cap1 a0.left) (hBgp0 : Box w gp0 (cS_cursor_rest a0 ao1 cap1)) (hg_gp0 : gp0 ∈ M) (a1 : Int) (r : List Int × S_cursor_rest) (H : cursor_rest_next.f a0 a1 = some r) :
    To Tryd.prog 87 [.pointer (some ⟨gp0, 0, none⟩), .int .i64 a1] w fun v w' => ∃ (ao22 : Option Addr) (cap22 : Nat) (ao23 : Option Addr) (cap23 : Nat), v = .slice ao22 r.1.length cap22 ∧ (RSl (rInt .u8) 5 w' (M) ao22 cap22 r.1) ∧ (RSl (rInt .u8) 5 w' (M) ao23 cap23 r.2.left) ∧ (Box w' gp0 (cS_cursor_rest r.2 ao23 cap23)) ∧ Chg [gp0] w w' ∧ MS (M) w' := by
 unfold cursor_rest_next.f at H
 refine ent Tryd.func87 rfl [(0, .pointer (some ⟨gp0, 0, none⟩)), (1, .int .i64 a1)] rfl (by rfl) fun a ha => ?_
 have hC : Chg [gp0] w w := Chg.refl _ _
 refine wp_seq_k fun K2 hK2 => ?_
 refine wp_region_lit ?_
 refine seg ha 1 [(0, .pointer (some ⟨gp0, 0, none⟩)), (1, .int .i64 a1)] (by kernel_rfl) fun a ha => ?_
 refine hK2 _ _ ?_; try clear hK2 K2
 refine wp_seq_k fun K3 hK3 => ?_
 refine wp_seq_k fun K4 hK4 => ?_
 refine wp_region_lit ?_
 obtain ⟨s5, H5, H⟩ := bind_some H
 have J5 : ∀ (a : Act) (w5 : World), Has a Tryd.f87.ntmps [(0, .pointer (some ⟨gp0, 0, none⟩)), (1, .int .i64 a1), (22, .bool s5)] → (RSl (rInt .u8) 5 w5 (M) ao1 cap1 a0.left) → (Box w5 gp0 (cS_cursor_rest a0 ao1 cap1)) → (Chg [gp0] w w5) → (MS (M) w5) → K4 a w5 := by
  intro a w5 ha f1 hBgp0 hC hM
  refine hK4 _ _ ?_; try clear hK4 K4
  refine cnd ha rfl (fun hc6 => ?_) (fun hc6 => ?_)
  ·have H := ite_t hc6 H
   refine wp_seq_k fun K7 hK7 => ?_
   refine wp_region_lit ?_
   refine seg ha 3 [(25, .pointer (some ⟨gp0, 1, none⟩))] (by kernel_rfl) fun a ha => ?_
   refine st ha rfl rfl rfl (by kernel_rfl) rfl rfl hBgp0 (Nat.le_of_ble_eq_true (by kernel_rfl)) fun a w8 ha hb2 hc9 _ => ?_
   have o1 : Ok [gp0] (M) w5.heap.size := Ok.one (.inl (hg_gp0))
   have o2 : Ok (M) (M) w5.heap.size := (Ok.refl _ _)
   have f1 := f1.chg hc9 o1 o2
   have hM : MS (M) w8 := (hM.chg hc9)
   have hC := hC.trans hc9 (Ok.one (.inl (by simp)))
   have hBgp0 : Box w8 gp0 (cS_cursor_rest (⟨a0.left, true⟩ : S_cursor_rest) ao1 cap1) := hb2
   refine hK7 _ _ ?_; try clear hK7 K7
   refine wp_seq_k fun K10 hK10 => ?_
   refine wp_region_lit ?_
   refine seg ha 1 [(4, .slice none 0 0)] (by kernel_rfl) fun a ha => ?_
   refine hK10 _ _ ?_; try clear hK10 K10
   refine wp_ret ?_
   try simp only [Exit.then, Exit.inBlock]
   obtain rfl := Option.some.inj H
   refine rt1 ha rfl rfl ?_
   exact ⟨none, 0, ao1, cap1, rfl, (RSl.nil (Nat.zero_le _)), f1, hBgp0, hC, hM⟩
  ·have H := ite_f hc6 H
   refine wp_skip ?_
   refine hK3 _ _ ?_; try clear hK3 K3
   refine wp_seq_k fun K11 hK11 => ?_
   refine wp_region_lit ?_
   refine seg ha 3 [(0, .pointer (some ⟨gp0, 0, none⟩)), (1, .int .i64 a1), (28, .pointer (some ⟨gp0, 0, none⟩))] (by kernel_rfl) fun a ha => ?_
   refine ld (v := .slice ao1 a0.left.length cap1) ha rfl (by kernel_rfl) rfl rfl rfl (hBgp0.cell' (o := 0) rfl (by kernel_rfl)) fun a ha => ?_
   refine seg ha 1 [(0, .pointer (some ⟨gp0, 0, none⟩)), (1, .int .i64 a1), (29, .slice ao1 a0.left.length cap1), (30, .int .i64 a1)] (by kernel_rfl) fun a ha => ?_
   obtain ⟨⟨hx12, hx12', hx12''⟩, H⟩ := ite_some H
   refine slc (r := (rInt .u8)) (l := (0 : Int)) (h := a1) ha (by kernel_rfl) (by kernel_rfl) rfl rfl rfl rfl rfl rfl f1 hx12 hx12' hx12'' fun a ao13 cap13 f13 ha => ?_
   refine seg ha 1 [(0, .pointer (some ⟨gp0, 0, none⟩)), (1, .int .i64 a1), (5, .slice ao13 ((a0.left.take (Int.toNat a1)).drop (Int.toNat (0 : Int))).length cap13)] (by kernel_rfl) fun a ha => ?_
   refine hK11 _ _ ?_; try clear hK11 K11
   refine wp_seq_k fun K14 hK14 => ?_
   refine wp_region_lit ?_
   refine seg ha 4 [(1, .int .i64 a1), (5, .slice ao13 ((a0.left.take (Int.toNat a1)).drop (Int.toNat (0 : Int))).length cap13), (32, .pointer (some ⟨gp0, 0, none⟩)), (35, .pointer (some ⟨gp0, 0, none⟩))] (by kernel_rfl) fun a ha => ?_
   refine ld (v := .slice ao1 a0.left.length cap1) ha rfl (by kernel_rfl) rfl rfl rfl (hBgp0.cell' (o := 0) rfl (by kernel_rfl)) fun a ha => ?_
   refine seg ha 1 [(5, .slice ao13 ((a0.left.take (Int.toNat a1)).drop (Int.toNat (0 : Int))).length cap13), (32, .pointer (some ⟨gp0, 0, none⟩)), (36, .slice ao1 a0.left.length cap1), (37, .int .i64 a1)] (by kernel_rfl) fun a ha => ?_
   obtain ⟨⟨hx15, hx15', hx15''⟩, H⟩ := ite_some H
   refine slc (r := (rInt .u8)) (l := a1) (h := (a0.left.length : Int)) ha (by kernel_rfl) (by kernel_rfl) rfl rfl rfl rfl rfl rfl f1 hx15 hx15' hx15'' fun a ao16 cap16 f16 ha => ?_
   refine seg ha 2 [(5, .slice ao13 ((a0.left.take (Int.toNat a1)).drop (Int.toNat (0 : Int))).length cap13), (38, .slice ao16 ((a0.left.take (Int.toNat (a0.left.length : Int))).drop (Int.toNat a1)).length cap16), (40, .pointer (some ⟨gp0, 0, none⟩))] (by kernel_rfl) fun a ha => ?_
   refine st ha rfl rfl rfl (by kernel_rfl) rfl rfl hBgp0 (Nat.le_of_ble_eq_true (by kernel_rfl)) fun a w17 ha hb2 hc18 _ => ?_
   have o1 : Ok [gp0] (M) w5.heap.size := Ok.one (.inl (hg_gp0))
   have o2 : Ok (M) (M) w5.heap.size := (Ok.refl _ _)
   have f13 := f13.chg hc18 o1 o2
   have f16 := f16.chg hc18 o1 o2
   have f1 := f1.chg hc18 o1 o2
   have hM : MS (M) w17 := (hM.chg hc18)
   have hC := hC.trans hc18 (Ok.one (.inl (by simp)))
   have hBgp0 : Box w17 gp0 (cS_cursor_rest (⟨((a0.left.take (Int.toNat (a0.left.length : Int))).drop (Int.toNat a1)), a0.bad⟩ : S_cursor_rest) ao16 cap16) := hb2
   refine hK14 _ _ ?_; try clear hK14 K14
   refine wp_seq_k fun K19 hK19 => ?_
   refine wp_region_lit ?_
   refine seg ha 2 [(4, .slice ao13 ((a0.left.take (Int.toNat a1)).drop (Int.toNat (0 : Int))).length cap13)] (by kernel_rfl) fun a ha => ?_
   refine hK19 _ _ ?_; try clear hK19 K19
   refine wp_ret ?_
   try simp only [Exit.then, Exit.inBlock]
   obtain rfl := Option.some.inj H
   refine rt1 ha rfl rfl ?_
   exact ⟨ao13, cap13, ao16, cap16, rfl, f13, f16, hBgp0, hC, hM⟩
 have H := H5
 refine seg ha 3 [(0, .pointer (some ⟨gp0, 0, none⟩)), (1, .int .i64 a1), (8, .pointer (some ⟨gp0, 1, none⟩))] (by kernel_rfl) fun a ha => ?_
 refine ld (v := .bool a0.bad) ha rfl (by kernel_rfl) rfl rfl rfl (hBgp0.cell' (o := 1) rfl (by kernel_rfl)) fun a ha => ?_
 refine seg ha 1 [(10, .bool a0.bad), (0, .pointer (some ⟨gp0, 0, none⟩)), (1, .int .i64 a1)] (by kernel_rfl) fun a ha => ?_
 rcases Bool.eq_false_or_eq_true (a0.bad) with hb20 | hb20
 ·have ha := ha.lit hb20
  have H := ite_t hb20 H
  refine sgh ha 12 [1, 1, 3, 0, 1, 1, 1, 1, 1, 1, 1, 3] [(0, .pointer (some ⟨gp0, 0, none⟩)), (1, .int .i64 a1), (22, .bool true)] (by kernel_rfl) fun a ha => ?_
  obtain rfl := Option.some.inj H
  exact J5 _ _ (ha.sel (by kernel_rfl)) f1 hBgp0 hC hM
 ·have ha := ha.lit hb20
  have H := ite_f hb20 H
  refine sgh ha 4 [2, 2, 4, 0] [(14, .bool (decide (a1 < (0 : Int)))), (0, .pointer (some ⟨gp0, 0, none⟩)), (1, .int .i64 a1)] (by kernel_rfl) fun a ha => ?_
  rcases Bool.eq_false_or_eq_true (decide (a1 < (0 : Int))) with hb21 | hb21
  ·have ha := ha.lit hb21
   have H := ite_t hb21 H
   refine sgh ha 8 [1, 1, 1, 1, 1, 1, 1, 3] [(0, .pointer (some ⟨gp0, 0, none⟩)), (1, .int .i64 a1), (22, .bool true)] (by kernel_rfl) fun a ha => ?_
   obtain rfl := Option.some.inj H
   exact J5 _ _ (ha.sel (by kernel_rfl)) f1 hBgp0 hC hM
  ·have ha := ha.lit hb21
   have H := ite_f hb21 H
   refine sgh ha 4 [2, 2, 2, 2] [(0, .pointer (some ⟨gp0, 0, none⟩)), (1, .int .i64 a1), (14, .bool false), (15, .int .i64 a1), (18, .pointer (some ⟨gp0, 0, none⟩))] (by kernel_rfl) fun a ha => ?_
   refine ld (v := .slice ao1 a0.left.length cap1) ha rfl (by kernel_rfl) rfl rfl rfl (hBgp0.cell' (o := 0) rfl (by kernel_rfl)) fun a ha => ?_
   refine sgh ha 3 [2, 2, 4] [(0, .pointer (some ⟨gp0, 0, none⟩)), (1, .int .i64 a1), (22, .bool (decide (a1 > (a0.left.length : Int))))] (by kernel_rfl) fun a ha => ?_
   obtain rfl := Option.some.inj H
   exact J5 _ _ (ha.sel (by kernel_rfl)) f1 hBgp0 hC hM
def cursor_Reader_Num.l0 (t8 : List Int × S_cursor_rest) : Nat → Int → Int → Option (Int)
  | 0, _, _ => none
  | kk + 1, x12, x13 => (if (decide (x13 < (t8.1.length : Int))) = true then (if 0 ≤ x13 ∧ x13 < (t8.1.length : Int) then cursor_Reader_Num.l0 t8 kk (IntKind.i64.wrap (BitVec.ofInt IntKind.i64.bits (IntKind.i64.wrap (x12 * 2 ^ (min (8 : Int).toNat IntKind.i64.bits))) ||| BitVec.ofInt IntKind.i64.bits (IntKind.i64.wrap (rd t8.1 x13))).toNat) (IntKind.i64.wrap (x13 + (1 : Int))) else none) else some (x12 : Int))
def cursor_Reader_Num.f (k : Nat) (a0 : S_cursor_Reader) (a1 : Int) : Option (Int × S_cursor_Reader) := ((if (if (decide (a1 < (1 : Int))) = true then true else (decide (a1 > (4 : Int)))) = true then some ((-1 : Int) : Int) else some (a1 : Int))).bind fun s4 => (cursor_rest_next.f a0.rest s4).bind fun t8 => (cursor_Reader_Num.l0 t8 k (0 : Int) (0 : Int)).bind fun s11 => some ((s11 : Int), ((⟨t8.2⟩ : S_cursor_Reader) : S_cursor_Reader))
set_option maxRecDepth 100000 in
theorem cursor_Reader_Num.walk (w : World) (M : List Nat) (hM : MS M w) (gp0 : Nat) (a0 : S_cursor_Reader) (ao1 : Option Addr) (cap1 : Nat) (f1 : RSl (rInt .u8) 5 w M ao1 cap1 a0.rest.left) (hBgp0 : Box w gp0 (cS_cursor_Reader a0 ao1 cap1)) (hg_gp0 : gp0 ∈ M) (a1 : Int) (k : Nat) (r : Int × S_cursor_Reader) (H : cursor_Reader_Num.f k a0 a1 = some r) :
    To Tryd.prog 42 [.pointer (some ⟨gp0, 0, none⟩), .int .i64 a1] w fun v w' => ∃ (ao29 : Option Addr) (cap29 : Nat), v = .int .i64 r.1 ∧ (RSl (rInt .u8) 5 w' (M) ao29 cap29 r.2.rest.left) ∧ (Box w' gp0 (cS_cursor_Reader r.2 ao29 cap29)) ∧ Chg [gp0] w w' ∧ MS (M) w' := by
 unfold cursor_Reader_Num.f at H
 refine ent Tryd.func42 rfl [(0, .pointer (some ⟨gp0, 0, none⟩)), (1, .int .i64 a1)] rfl (by rfl) fun a ha => ?_
 have hC : Chg [gp0] w w := Chg.refl _ _
 refine wp_seq_k fun K2 hK2 => ?_
 refine wp_region_lit ?_
 refine seg ha 1 [(0, .pointer (some ⟨gp0, 0, none⟩)), (1, .int .i64 a1)] (by kernel_rfl) fun a ha => ?_
 refine hK2 _ _ ?_; try clear hK2 K2
 refine wp_seq_k fun K3 hK3 => ?_
 obtain ⟨s4, H4, H⟩ := bind_some H
 have J4 : ∀ (a : Act) (w4 : World), Has a Tryd.f42.ntmps [(0, .pointer (some ⟨gp0, 0, none⟩)), (1, .int .i64 s4)] → (RSl (rInt .u8) 5 w4 (M) ao1 cap1 a0.rest.left) → (Box w4 gp0 (cS_cursor_Reader a0 ao1 cap1)) → (Chg [gp0] w w4) → (MS (M) w4) → K3 a w4 := by
  intro a w4 ha f1 hBgp0 hC hM
  refine hK3 _ _ ?_; try clear hK3 K3
  refine wp_seq_k fun K5 hK5 => ?_
  refine wp_region_lit ?_
  refine seg ha 1 [(0, .pointer (some ⟨gp0, 0, none⟩)), (1, .int .i64 s4), (5, .int .i64 (0 : Int))] (by kernel_rfl) fun a ha => ?_
  refine hK5 _ _ ?_; try clear hK5 K5
  refine wp_seq_k fun K6 hK6 => ?_
  refine wp_seq_k fun K7 hK7 => ?_
  refine wp_region_lit ?_
  refine seg ha 4 [(5, .int .i64 (0 : Int)), (16, .pointer (some ⟨gp0, 0, none⟩)), (17, .int .i64 s4)] (by kernel_rfl) fun a ha => ?_
  obtain ⟨t8, H8, H⟩ := bind_some H
  refine cl ha (by rfl) (by kernel_rfl) (by rfl) (by rfl) (by rfl) (cursor_rest_next.walk w4 _ hM gp0 a0.rest ao1 cap1 f1 hBgp0 (hg_gp0) s4 _ H8) ?_
  rintro _ w8 ⟨ao9, cap9, ao10, cap10, rfl, f9, f10, qhBgp0, hc8, hMn⟩ a ha
  have o1 : Ok [gp0] (M) w4.heap.size := Ok.one (.inl (hg_gp0))
  have o2 : Ok (M) (M) w4.heap.size := (Ok.refl _ _)
  have f1 := f1.chg hc8 o1 o2
  have hM : MS (M) w8 := (hM.chg hc8)
  have hC := hC.trans hc8 (Ok.one (.inl (by simp)))
  have hBgp0 := qhBgp0
  refine seg ha 2 [(5, .int .i64 (0 : Int)), (18, .slice ao9 t8.1.length cap9), (19, .int .i64 (t8.1.length : Int)), (20, .int .i64 (0 : Int))] (by kernel_rfl) fun a ha => ?_
  refine hK7 _ _ ?_; try clear hK7 K7
  refine wp_block ?_
  obtain ⟨s11, H11, H⟩ := bind_some H
  have J11 : ∀ (a : Act) (wx11 : World), Has a Tryd.f42.ntmps [(5, .int .i64 s11)] → (RSl (rInt .u8) 5 wx11 (M) ao10 cap10 t8.2.left) → (Box wx11 gp0 (cS_cursor_Reader (⟨t8.2⟩ : S_cursor_Reader) ao10 cap10)) → (Chg [gp0] w wx11) → (MS (M) wx11) → K6 a wx11 := by
   intro a wx11 ha f10 hBgp0 hC hM
   refine hK6 _ _ ?_; try clear hK6 K6
   refine wp_seq_k fun K14 hK14 => ?_
   refine wp_region_lit ?_
   refine seg ha 2 [(4, .int .i64 s11)] (by kernel_rfl) fun a ha => ?_
   refine hK14 _ _ ?_; try clear hK14 K14
   refine wp_ret ?_
   try simp only [Exit.then, Exit.inBlock]
   obtain rfl := Option.some.inj H
   refine rt1 ha rfl rfl ?_
   exact ⟨ao10, cap10, rfl, f10, hBgp0, hC, hM⟩
  have Hc11 := H
  have H := H11
  refine wp_loop_ghost (fun kk a w11 => ∃ (x12 : Int) (x13 : Int), cursor_Reader_Num.l0 t8 kk x12 x13 = some s11 ∧ Has a Tryd.f42.ntmps [(5, .int .i64 x12), (18, .slice ao9 t8.1.length cap9), (19, .int .i64 (t8.1.length : Int)), (20, .int .i64 x13)] ∧ (RSl (rInt .u8) 5 w11 (M) ao9 cap9 t8.1) ∧ (RSl (rInt .u8) 5 w11 (M) ao10 cap10 t8.2.left) ∧ (Box w11 gp0 (cS_cursor_Reader (⟨t8.2⟩ : S_cursor_Reader) ao10 cap10)) ∧ (Chg [gp0] w w11) ∧ (MS (M) w11)) k ?_ ?_
  ·skip
   exact ⟨(0 : Int), (0 : Int), H, (ha.sel (by kernel_rfl)), f9, f10, hBgp0, hC, hM⟩
  ·rintro kk a w11 ⟨x12, x13, H, ha, f9, f10, hBgp0, hC, hM⟩
   obtain _ | kk := kk
   ·exact nomatch (show none = some _ from H)
   rw [cursor_Reader_Num.l0] at H
   refine wp_seq_k fun K15 hK15 => ?_
   refine wp_region_lit ?_
   refine seg ha 1 [(5, .int .i64 x12), (18, .slice ao9 t8.1.length cap9), (19, .int .i64 (t8.1.length : Int)), (20, .int .i64 x13), (21, .bool (decide (x13 < (t8.1.length : Int))))] (by kernel_rfl) fun a ha => ?_
   refine hK15 _ _ ?_; try clear hK15 K15
   refine wp_seq_k fun K16 hK16 => ?_
   refine cnd ha rfl (fun hc17 => ?_) (fun hc17 => ?_)
   ·have H := ite_t hc17 H
    refine wp_skip ?_
    refine hK16 _ _ ?_; try clear hK16 K16
    refine wp_seq_k fun K18 hK18 => ?_
    refine wp_block ?_
    refine wp_seq_k fun K19 hK19 => ?_
    refine wp_region_lit ?_
    obtain ⟨⟨hx20, hx20'⟩, H⟩ := ite_some H
    refine ix (r := (rInt .u8)) ha (by kernel_rfl) (by kernel_rfl) rfl rfl rfl rfl rfl f9 hx20 hx20' fun a ge21 oe22 cs23 hn26 hR24 hE25 ha => ?_
    rw [rd_get] at hR24
    obtain rfl := hR24
    have hE25 : ∀ j v, ([.int .u8 (rd t8.1 x13)] : List Value)[j]? = some v → w11.cell? ⟨ge21, oe22 + j, none⟩ = some v := hE25
    refine ld ha rfl (by kernel_rfl) rfl rfl rfl (hE25 0 (.int .u8 (rd t8.1 x13)) (by kernel_rfl)) fun a ha => ?_
    refine seg ha 1 [(5, .int .i64 x12), (7, .int .u8 (rd t8.1 x13)), (18, .slice ao9 t8.1.length cap9), (19, .int .i64 (t8.1.length : Int)), (20, .int .i64 x13)] (by kernel_rfl) fun a ha => ?_
    refine hK19 _ _ ?_; try clear hK19 K19
    refine wp_region_lit ?_
    refine seg ha 6 [(5, .int .i64 (IntKind.i64.wrap (BitVec.ofInt IntKind.i64.bits (IntKind.i64.wrap (x12 * 2 ^ (min (8 : Int).toNat IntKind.i64.bits))) ||| BitVec.ofInt IntKind.i64.bits (IntKind.i64.wrap (rd t8.1 x13))).toNat)), (18, .slice ao9 t8.1.length cap9), (19, .int .i64 (t8.1.length : Int)), (20, .int .i64 x13)] (by kernel_rfl) fun a ha => ?_
    refine hK18 _ _ ?_; try clear hK18 K18
    refine wp_region_lit ?_
    refine seg ha 2 [(5, .int .i64 (IntKind.i64.wrap (BitVec.ofInt IntKind.i64.bits (IntKind.i64.wrap (x12 * 2 ^ (min (8 : Int).toNat IntKind.i64.bits))) ||| BitVec.ofInt IntKind.i64.bits (IntKind.i64.wrap (rd t8.1 x13))).toNat)), (18, .slice ao9 t8.1.length cap9), (19, .int .i64 (t8.1.length : Int)), (20, .int .i64 (IntKind.i64.wrap (x13 + (1 : Int))))] (by kernel_rfl) fun a ha => ?_
    exact ⟨kk, Nat.lt_succ_self _, ⟨IntKind.i64.wrap (BitVec.ofInt IntKind.i64.bits (IntKind.i64.wrap (x12 * 2 ^ (min (8 : Int).toNat IntKind.i64.bits))) ||| BitVec.ofInt IntKind.i64.bits (IntKind.i64.wrap (rd t8.1 x13))).toNat, IntKind.i64.wrap (x13 + (1 : Int)), H, (ha.sel (by kernel_rfl)), f9, f10, hBgp0, hC, hM⟩⟩
   ·have H := ite_f hc17 H
    refine wp_exit ?_
    simp only [Exit.then, Exit.inBlock, ↓reduceIte, Nat.reduceEqDiff]
    obtain rfl := Option.some.inj H
    exact J11 _ _ (ha.sel (by kernel_rfl)) f10 hBgp0 hC hM
 have H := H4
 refine wp_seq_k fun K27 hK27 => ?_
 refine wp_region_lit ?_
 refine seg ha 6 [(0, .pointer (some ⟨gp0, 0, none⟩)), (1, .int .i64 a1), (13, .bool (if (decide (a1 < (1 : Int))) = true then true else (decide (a1 > (4 : Int)))))] (by kernel_rfl) fun a ha => ?_
 refine hK27 _ _ ?_; try clear hK27 K27
 refine cnd ha rfl (fun hc28 => ?_) (fun hc28 => ?_)
 ·have H := ite_t hc28 H
  refine wp_region_lit ?_
  refine seg ha 1 [(0, .pointer (some ⟨gp0, 0, none⟩)), (1, .int .i64 (-1 : Int))] (by kernel_rfl) fun a ha => ?_
  obtain rfl := Option.some.inj H
  exact J4 _ _ (ha.sel (by kernel_rfl)) f1 hBgp0 hC hM
 ·have H := ite_f hc28 H
  refine wp_skip ?_
  obtain rfl := Option.some.inj H
  exact J4 _ _ (ha.sel (by kernel_rfl)) f1 hBgp0 hC hM
def cursor_Reader_Take.f (a0 : S_cursor_Reader) (a1 : Int) : Option (List Int × S_cursor_Reader) := (cursor_rest_next.f a0.rest a1).bind fun t4 => (bytes_Clone.f t4.1).bind fun t7 => some ((t7 : List Int), ((⟨t4.2⟩ : S_cursor_Reader) : S_cursor_Reader))
set_option maxRecDepth 100000 in
theorem cursor_Reader_Take.walk (w : World) (M : List Nat) (hM : MS M w) (gp0 : Nat) (a0 : S_cursor_Reader) (ao1 : Option Addr) (cap1 : Nat) (f1 : RSl (rInt .u8) 5 w M ao1 cap1 a0.rest.left) (hBgp0 : Box w gp0 (cS_cursor_Reader a0 ao1 cap1)) (hg_gp0 : gp0 ∈ M) (a1 : Int) (r : List Int × S_cursor_Reader) (H : cursor_Reader_Take.f a0 a1 = some r) :
    To Tryd.prog 44 [.pointer (some ⟨gp0, 0, none⟩), .int .i64 a1] w fun v w' => ∃ (ao9 : Option Addr) (cap9 : Nat) (ao10 : Option Addr) (cap10 : Nat), v = .slice ao9 r.1.length cap9 ∧ (Own (rInt .u8) 5 w' (blkL ao9 ++ (M)) ao9 cap9 r.1) ∧ (RSl (rInt .u8) 5 w' (blkL ao9 ++ (M)) ao10 cap10 r.2.rest.left) ∧ (Box w' gp0 (cS_cursor_Reader r.2 ao10 cap10)) ∧ (∀ x ∈ blkL ao9, w.heap.size ≤ x) ∧ Chg [gp0] w w' ∧ MS (blkL ao9 ++ (M)) w' := by
 unfold cursor_Reader_Take.f at H
 refine ent Tryd.func44 rfl [(0, .pointer (some ⟨gp0, 0, none⟩)), (1, .int .i64 a1)] rfl (by rfl) fun a ha => ?_
 have hC : Chg [gp0] w w := Chg.refl _ _
 refine wp_seq_k fun K2 hK2 => ?_
 refine wp_region_lit ?_
 refine seg ha 1 [(0, .pointer (some ⟨gp0, 0, none⟩)), (1, .int .i64 a1)] (by kernel_rfl) fun a ha => ?_
 refine hK2 _ _ ?_; try clear hK2 K2
 refine wp_seq_k fun K3 hK3 => ?_
 refine wp_region_lit ?_
 refine seg ha 4 [(7, .pointer (some ⟨gp0, 0, none⟩)), (8, .int .i64 a1)] (by kernel_rfl) fun a ha => ?_
 obtain ⟨t4, H4, H⟩ := bind_some H
 refine cl ha (by rfl) (by kernel_rfl) (by rfl) (by rfl) (by rfl) (cursor_rest_next.walk w _ hM gp0 a0.rest ao1 cap1 f1 hBgp0 (hg_gp0) a1 _ H4) ?_
 rintro _ w4 ⟨ao5, cap5, ao6, cap6, rfl, f5, f6, qhBgp0, hc4, hMn⟩ a ha
 have o1 : Ok [gp0] (M) w.heap.size := Ok.one (.inl (hg_gp0))
 have o2 : Ok (M) (M) w.heap.size := (Ok.refl _ _)
 have f1 := f1.chg hc4 o1 o2
 have hM : MS (M) w4 := (hM.chg hc4)
 have hC := hC.trans hc4 (Ok.one (.inl (by simp)))
 have hBgp0 := qhBgp0
 obtain ⟨t7, H7, H⟩ := bind_some H
 refine cl ha (by rfl) (by kernel_rfl) (by rfl) (by rfl) (by rfl) (bytes_Clone.walk w4 _ hM t4.1 ao5 cap5 f5 _ H7) ?_
 rintro _ w7 ⟨ao8, cap8, rfl, f8, ne_i8, hc7, hMn⟩ a ha
 have o1 : Ok [] (M) w4.heap.size := Ok.nil _ _
 have o2 : Ok (blkL ao8 ++ (M)) (M) w4.heap.size := (Ok.app (fun x h => .inr (ne_i8 x h)) (Ok.refl _ _))
 have f5 := f5.chg hc7 o1 o2
 have f6 := f6.chg hc7 o1 o2
 have hBgp0 := hBgp0.chg hc7 (fun h => nomatch h)
 have p_i8_M : ∀ x ∈ blkL ao8, x ∉ M := fun x hx hy => absurd (hM x (hy)) (Nat.not_lt.2 (ne_i8 x hx))
 have e_i8 : ∀ x ∈ blkL ao8, w.heap.size ≤ x := fun x hx => Nat.le_trans hC.size (ne_i8 x hx)
 have hM : MS (blkL ao8 ++ (M)) w7 := (MS.app (fun x h => hMn x (ml h)) (hM.chg hc7))
 have hC := hC.trans hc7 (Ok.nil _ _)
 refine seg ha 1 [(4, .slice ao8 t7.length cap8)] (by kernel_rfl) fun a ha => ?_
 refine hK3 _ _ ?_; try clear hK3 K3
 refine wp_ret ?_
 try simp only [Exit.then, Exit.inBlock]
 obtain rfl := Option.some.inj H
 refine rt1 ha rfl rfl ?_
 exact ⟨ao8, cap8, ao6, cap6, rfl, f8, f6, hBgp0, e_i8, hC, hM⟩
def label_Read.f (k : Nat) (a0 : List Int) : Option (Int × Bool × Int) := (cursor_Open.f a0).bind fun t4 => (cursor_Reader_Num.f k t4 (3 : Int)).bind fun t8 => (if (if ((a0.length : Int) != (3 : Int)) = true then true else (decide ((IntKind.i64.wrap (BitVec.ofInt IntKind.i64.bits t8.1 &&& BitVec.ofInt IntKind.i64.bits (15 : Int)).toNat) > (1 : Int)))) = true then some (((0 : Int) : Int), (false : Bool), ((4 : Int) : Int)) else some ((Int.fdiv t8.1 (2 ^ (min (4 : Int).toNat IntKind.i64.bits)) : Int), ((IntKind.i64.wrap (BitVec.ofInt IntKind.i64.bits t8.1 &&& BitVec.ofInt IntKind.i64.bits (1 : Int)).toNat) == (1 : Int) : Bool), ((0 : Int) : Int)))
set_option maxRecDepth 100000 in
theorem label_Read.walk (w : World) (M : List Nat) (hM : MS M w) (a0 : List Int) (ao1 : Option Addr) (cap1 : Nat) (f1 : RSl (rInt .u8) 5 w M ao1 cap1 a0) (k : Nat) (r : Int × Bool × Int) (H : label_Read.f k a0 = some r) :
    To Tryd.prog 43 [.slice ao1 a0.length cap1] w fun v w' => v = .tuple #[.int .i64 r.1, .bool r.2.1, .int .i64 r.2.2] ∧ Chg [] w w' ∧ MS (M) w' := by
 unfold label_Read.f at H
 refine ent Tryd.func43 rfl [(0, .slice ao1 a0.length cap1)] rfl (by rfl) fun a ha => ?_
 have hC : Chg [] w w := Chg.refl _ _
 refine wp_seq_k fun K2 hK2 => ?_
 refine wp_region_lit ?_
 refine seg ha 3 [(0, .slice ao1 a0.length cap1)] (by kernel_rfl) fun a ha => ?_
 refine hK2 _ _ ?_; try clear hK2 K2
 refine wp_seq_k fun K3 hK3 => ?_
 refine wp_region_lit ?_
 refine seg ha 1 [(0, .slice ao1 a0.length cap1), (6, .slice ao1 a0.length cap1)] (by kernel_rfl) fun a ha => ?_
 obtain ⟨t4, H4, H⟩ := bind_some H
 refine cl ha (by rfl) (by kernel_rfl) (by rfl) (by rfl) (by rfl) (cursor_Open.walk w _ hM a0 ao1 cap1 f1 _ H4) ?_
 rintro _ w4 ⟨g5, ao7, cap7, rfl, f7, hBg5, ne_i6, hc4, hMn⟩ a ha
 have o1 : Ok [] (M) w.heap.size := Ok.nil _ _
 have o2 : Ok ([g5] ++ (M)) (M) w.heap.size := (Ok.app (fun x h => .inr (ne_i6 x h)) (Ok.refl _ _))
 have f1 := f1.chg hc4 o1 o2
 have p_i6_M : ∀ x ∈ [g5], x ∉ M := fun x hx hy => absurd (hM x (hy)) (Nat.not_lt.2 (ne_i6 x hx))
 have e_i6 : ∀ x ∈ [g5], w.heap.size ≤ x := fun x hx => Nat.le_trans hC.size (ne_i6 x hx)
 have hM : MS ([g5] ++ (M)) w4 := (MS.app (fun x h => hMn x (ml h)) (hM.chg hc4))
 have hC := hC.trans hc4 (Ok.nil _ _)
 obtain ⟨t8, H8, H⟩ := bind_some H
 refine cl ha (by rfl) (by kernel_rfl) (by rfl) (by rfl) (by rfl) (cursor_Reader_Num.walk w4 _ hM g5 t4 ao7 cap7 f7 hBg5 (ml (List.mem_singleton.2 rfl)) (3 : Int) k _ H8) ?_
 rintro _ w8 ⟨ao9, cap9, rfl, f9, qhBg5, hc8, hMn⟩ a ha
 have o1 : Ok [g5] ([g5] ++ (M)) w4.heap.size := (fun _ h => .inl (ml h))
 have o2 : Ok ([g5] ++ (M)) ([g5] ++ (M)) w4.heap.size := (Ok.refl _ _)
 have f1 := f1.chg hc8 o1 o2
 have f7 := f7.chg hc8 o1 o2
 have hM : MS ([g5] ++ (M)) w8 := (hM.chg hc8)
 have hC := hC.trans hc8 (fun x h => .inr (e_i6 x h))
 have hBg5 := qhBg5
 refine seg ha 1 [(0, .slice ao1 a0.length cap1), (5, .int .i64 t8.1)] (by kernel_rfl) fun a ha => ?_
 refine hK3 _ _ ?_; try clear hK3 K3
 refine wp_seq_k fun K10 hK10 => ?_
 refine wp_seq_k fun K11 hK11 => ?_
 refine wp_region_lit ?_
 refine seg ha 8 [(5, .int .i64 t8.1), (16, .bool (if ((a0.length : Int) != (3 : Int)) = true then true else (decide ((IntKind.i64.wrap (BitVec.ofInt IntKind.i64.bits t8.1 &&& BitVec.ofInt IntKind.i64.bits (15 : Int)).toNat) > (1 : Int)))))] (by kernel_rfl) fun a ha => ?_
 refine hK11 _ _ ?_; try clear hK11 K11
 refine cnd ha rfl (fun hc12 => ?_) (fun hc12 => ?_)
 ·have H := ite_t hc12 H
  refine wp_seq_k fun K13 hK13 => ?_
  refine wp_region_lit ?_
  refine seg ha 3 [(2, .int .i64 (0 : Int)), (3, .bool false), (4, .int .i64 (4 : Int))] (by kernel_rfl) fun a ha => ?_
  refine hK13 _ _ ?_; try clear hK13 K13
  refine wp_ret ?_
  try simp only [Exit.then, Exit.inBlock]
  have o1 : Ok [] ([g5] ++ (M)) w8.heap.size := Ok.nil _ _
  have o2 : Ok (M) ([g5] ++ (M)) w8.heap.size := (fun _ h => .inl (mr (h)))
  have f9 := f9.chg (Chg.refl [] _) o1 o2
  have hBg5 := hBg5.chg (Chg.refl [] _) (fun h => nomatch h)
  have hM : MS (M) w8 := (fun x h => hM.chg (Chg.refl [] _) x (mr (h)))
  have hC := hC.trans (Chg.refl [] _) (Ok.nil _ _)
  obtain rfl := Option.some.inj H
  refine rt3 ha rfl rfl rfl rfl ?_
  exact ⟨rfl, hC, hM⟩
 ·have H := ite_f hc12 H
  refine wp_skip ?_
  refine hK10 _ _ ?_; try clear hK10 K10
  refine wp_seq_k fun K14 hK14 => ?_
  refine wp_region_lit ?_
  refine seg ha 8 [(2, .int .i64 (Int.fdiv t8.1 (2 ^ (min (4 : Int).toNat IntKind.i64.bits)))), (3, .bool ((IntKind.i64.wrap (BitVec.ofInt IntKind.i64.bits t8.1 &&& BitVec.ofInt IntKind.i64.bits (1 : Int)).toNat) == (1 : Int))), (4, .int .i64 (0 : Int))] (by kernel_rfl) fun a ha => ?_
  refine hK14 _ _ ?_; try clear hK14 K14
  refine wp_ret ?_
  try simp only [Exit.then, Exit.inBlock]
  have o1 : Ok [] ([g5] ++ (M)) w8.heap.size := Ok.nil _ _
  have o2 : Ok (M) ([g5] ++ (M)) w8.heap.size := (fun _ h => .inl (mr (h)))
  have f9 := f9.chg (Chg.refl [] _) o1 o2
  have hBg5 := hBg5.chg (Chg.refl [] _) (fun h => nomatch h)
  have hM : MS (M) w8 := (fun x h => hM.chg (Chg.refl [] _) x (mr (h)))
  have hC := hC.trans (Chg.refl [] _) (Ok.nil _ _)
  obtain rfl := Option.some.inj H
  refine rt3 ha rfl rfl rfl rfl ?_
  exact ⟨rfl, hC, hM⟩
def pmsi_root.f (a0 : S_cursor_Reader) (a1 : Int) : Option (S_api_Addr × S_cursor_Reader) := (cursor_Reader_Take.f a0 a1).bind fun t8 => (addr_Of.f t8.1).bind fun t11 => some ((t11.1 : S_api_Addr), (t8.2 : S_cursor_Reader))
set_option maxRecDepth 100000 in
theorem pmsi_root.walk (w : World) (M : List Nat) (hM : MS M w) (gp0 : Nat) (a0 : S_cursor_Reader) (ao1 : Option Addr) (cap1 : Nat) (f1 : RSl (rInt .u8) 5 w M ao1 cap1 a0.rest.left) (hBgp0 : Box w gp0 (cS_cursor_Reader a0 ao1 cap1)) (hg_gp0 : gp0 ∈ M) (a1 : Int) (r : S_api_Addr × S_cursor_Reader) (H : pmsi_root.f a0 a1 = some r) :
    To Tryd.prog 45 [.pointer (some ⟨gp0, 0, none⟩), .int .i64 a1] w fun v w' => ∃ (ao21 : Option Addr) (cap21 : Nat), v = .agg (cS_api_Addr r.1).toArray ∧ (RSl (rInt .u8) 5 w' (M) ao21 cap21 r.2.rest.left) ∧ (Box w' gp0 (cS_cursor_Reader r.2 ao21 cap21)) ∧ Chg [gp0] w w' ∧ MS (M) w' := by
 unfold pmsi_root.f at H
 refine ent Tryd.func45 rfl [(0, .pointer (some ⟨gp0, 0, none⟩)), (1, .int .i64 a1)] rfl (by rfl) fun a ha => ?_
 have hC : Chg [gp0] w w := Chg.refl _ _
 refine wp_seq_k fun K2 hK2 => ?_
 refine wp_region_lit ?_
 refine al (cs := (cS_api_Addr (⟨(0 : Int), (List.replicate 16 (0 : Int))⟩ : S_api_Addr))) (z := .agg (cS_api_Addr (⟨(0 : Int), (List.replicate 16 (0 : Int))⟩ : S_api_Addr)).toArray) ha (fun w => by kernel_rfl) rfl rfl rfl rfl fun a w3 g4 hN5 ha => ?_
 have o1 : Ok [] (M) w.heap.size := Ok.nil _ _
 have o2 : Ok ([g4] ++ (M)) (M) w.heap.size := (Ok.app (hN5.ok _) (Ok.refl _ _))
 have f1 := f1.chg hN5.chg o1 o2
 have hBgp0 := hBgp0.chg hN5.chg (fun h => nomatch h)
 have p_i6_M : ∀ x ∈ [g4], x ∉ M := fun x hx hy => absurd (hM x (hy)) (Nat.not_lt.2 ((hN5.ge1) x hx))
 have e_i6 : ∀ x ∈ [g4], w.heap.size ≤ x := fun x hx => Nat.le_trans hC.size ((hN5.ge1) x hx)
 have hM : MS ([g4] ++ (M)) w3 := (MS.app hN5.ms (hM.chg hN5.chg))
 have hC := hC.trans hN5.chg (Ok.nil _ _)
 have hBg4 : Box w3 g4 (cS_api_Addr (⟨(0 : Int), (List.replicate 16 (0 : Int))⟩ : S_api_Addr)) := hN5.box
 refine hK2 _ _ ?_; try clear hK2 K2
 refine wp_seq_k fun K7 hK7 => ?_
 refine wp_region_lit ?_
 refine seg ha 2 [(4, .pointer (some ⟨g4, 0, none⟩)), (8, .pointer (some ⟨gp0, 0, none⟩)), (9, .int .i64 a1)] (by kernel_rfl) fun a ha => ?_
 obtain ⟨t8, H8, H⟩ := bind_some H
 refine cl ha (by rfl) (by kernel_rfl) (by rfl) (by rfl) (by rfl) (cursor_Reader_Take.walk w3 _ hM gp0 a0 ao1 cap1 f1 hBgp0 (mr (hg_gp0)) a1 _ H8) ?_
 rintro _ w8 ⟨ao9, cap9, ao10, cap10, rfl, f9, f10, qhBgp0, ne_i9, hc8, hMn⟩ a ha
 have o1 : Ok [gp0] ([g4] ++ (M)) w3.heap.size := Ok.one (.inl (mr (hg_gp0)))
 have o2 : Ok (blkL ao9 ++ ([g4] ++ (M))) ([g4] ++ (M)) w3.heap.size := (Ok.app (fun x h => .inr (ne_i9 x h)) (Ok.refl _ _))
 have f1 := f1.chg hc8 o1 o2
 have hBg4 := hBg4.chg hc8 ((fun x (hx : x ∈ [g4]) (hy : x ∈ [gp0]) => p_i6_M x hx (by rw [List.mem_singleton.1 hy]; exact hg_gp0)) g4 (by simp))
 have p_i9_i6 : ∀ x ∈ blkL ao9, x ∉ ([g4]) := fun x hx hy => absurd (hM x (ml hy)) (Nat.not_lt.2 (ne_i9 x hx))
 have p_i9_M : ∀ x ∈ blkL ao9, x ∉ M := fun x hx hy => absurd (hM x (mr (hy))) (Nat.not_lt.2 (ne_i9 x hx))
 have e_i9 : ∀ x ∈ blkL ao9, w.heap.size ≤ x := fun x hx => Nat.le_trans hC.size (ne_i9 x hx)
 have hM : MS (blkL ao9 ++ ([g4] ++ (M))) w8 := (MS.app (fun x h => hMn x (ml h)) (hM.chg hc8))
 have hC := hC.trans hc8 (Ok.one (.inl (by simp)))
 have hBgp0 := qhBgp0
 have hML : MS ([g4] ++ (M)) w8 := MS.rest hM (fun _ h => (List.mem_append.1 h).elim (fun h => mr (ml h)) (fun h => mr (mr (h))))
 have oL : Ok ([g4] ++ (M)) (blkL ao9 ++ ([g4] ++ (M))) w8.heap.size := (fun _ h => .inl (mr (h)))
 obtain ⟨t11, H11, H⟩ := bind_some H
 refine cl ha (by rfl) (by kernel_rfl) (by rfl) (by rfl) (by rfl) (addr_Of.walk w8 _ hML t8.1 ao9 cap9 (Own.toRSl (M' := [g4] ++ (M)) f9 oL (fun x hx hm => (List.mem_append.1 hm).elim (fun h => p_i9_i6 x hx h) (fun h => p_i9_M x hx h))) _ H11) ?_
 rintro _ w11 ⟨rfl, hc11, hMn⟩ a ha
 have o1 : Ok [] (blkL ao9 ++ ([g4] ++ (M))) w8.heap.size := Ok.nil _ _
 have o2 : Ok (blkL ao9 ++ ([g4] ++ (M))) (blkL ao9 ++ ([g4] ++ (M))) w8.heap.size := (Ok.refl _ _)
 have f9 := f9.chg hc11 o1 o2 (fun _ _ h => nomatch h) (fun _ h => ml h)
 have f10 := f10.chg hc11 o1 o2
 have hBgp0 := hBgp0.chg hc11 (fun h => nomatch h)
 have hBg4 := hBg4.chg hc11 (fun h => nomatch h)
 have hM : MS (blkL ao9 ++ ([g4] ++ (M))) w11 := (hM.chg hc11)
 have hC := hC.trans hc11 (Ok.nil _ _)
 refine seg ha 3 [(4, .pointer (some ⟨g4, 0, none⟩)), (12, .agg (cS_api_Addr t11.1).toArray), (13, .int .i64 t11.2)] (by kernel_rfl) fun a ha => ?_
 refine al (cs := (cS_api_Addr (⟨(0 : Int), (List.replicate 16 (0 : Int))⟩ : S_api_Addr))) (z := .agg (cS_api_Addr (⟨(0 : Int), (List.replicate 16 (0 : Int))⟩ : S_api_Addr)).toArray) ha (fun w => by kernel_rfl) rfl rfl rfl rfl fun a w12 g13 hN14 ha => ?_
 have o1 : Ok [] (blkL ao9 ++ ([g4] ++ (M))) w11.heap.size := Ok.nil _ _
 have o2 : Ok ([g13] ++ (blkL ao9 ++ ([g4] ++ (M)))) (blkL ao9 ++ ([g4] ++ (M))) w11.heap.size := (Ok.app (hN14.ok _) (Ok.refl _ _))
 have f10 := f10.chg hN14.chg o1 o2
 have hBgp0 := hBgp0.chg hN14.chg (fun h => nomatch h)
 have hBg4 := hBg4.chg hN14.chg (fun h => nomatch h)
 have p_i15_i9 : ∀ x ∈ [g13], x ∉ (blkL ao9) := fun x hx hy => absurd (hM x (ml hy)) (Nat.not_lt.2 ((hN14.ge1) x hx))
 have p_i15_i6 : ∀ x ∈ [g13], x ∉ ([g4]) := fun x hx hy => absurd (hM x (mr (ml hy))) (Nat.not_lt.2 ((hN14.ge1) x hx))
 have p_i15_M : ∀ x ∈ [g13], x ∉ M := fun x hx hy => absurd (hM x (mr (mr (hy)))) (Nat.not_lt.2 ((hN14.ge1) x hx))
 have e_i15 : ∀ x ∈ [g13], w.heap.size ≤ x := fun x hx => Nat.le_trans hC.size ((hN14.ge1) x hx)
 have hM : MS ([g13] ++ (blkL ao9 ++ ([g4] ++ (M)))) w12 := (MS.app hN14.ms (hM.chg hN14.chg))
 have hC := hC.trans hN14.chg (Ok.nil _ _)
 have hBg13 : Box w12 g13 (cS_api_Addr (⟨(0 : Int), (List.replicate 16 (0 : Int))⟩ : S_api_Addr)) := hN14.box
 refine stA (l := (cS_api_Addr t11.1)) ha rfl rfl rfl (by kernel_rfl) rfl rfl hBg13 rfl fun a w16 ha hb2 hc17 _ => ?_
 have o1 : Ok [g13] ([g13] ++ (blkL ao9 ++ ([g4] ++ (M)))) w12.heap.size := (fun _ h => .inl (ml h))
 have o2 : Ok ([g13] ++ (blkL ao9 ++ ([g4] ++ (M)))) ([g13] ++ (blkL ao9 ++ ([g4] ++ (M)))) w12.heap.size := (Ok.refl _ _)
 have f10 := f10.chg hc17 o1 o2
 have hBgp0 := hBgp0.chg hc17 ((fun x (hx : x ∈ [gp0]) (hy : x ∈ [g13]) => p_i15_M x hy (by rw [List.mem_singleton.1 hx]; exact hg_gp0)) gp0 (by simp))
 have hBg4 := hBg4.chg hc17 ((fun x (hx : x ∈ [g4]) (hy : x ∈ [g13]) => p_i15_i6 x hy hx) g4 (by simp))
 have hM : MS ([g13] ++ (blkL ao9 ++ ([g4] ++ (M)))) w16 := (hM.chg hc17)
 have hC := hC.trans hc17 (fun x h => .inr (e_i15 x h))
 have hBg13 : Box w16 g13 (cS_api_Addr t11.1) := hb2
 refine seg ha 1 [(4, .pointer (some ⟨g4, 0, none⟩)), (5, .pointer (some ⟨g13, 0, none⟩))] (by kernel_rfl) fun a ha => ?_
 refine hK7 _ _ ?_; try clear hK7 K7
 refine wp_seq_k fun K18 hK18 => ?_
 refine wp_region_lit ?_
 refine ldA (cs := (cS_api_Addr t11.1)) ha rfl (by kernel_rfl) rfl rfl rfl (cells_sub (Box.cells hBg13) (all := (cS_api_Addr t11.1)) [] [] (by kernel_rfl)) fun a ha => ?_
 refine stA (l := (cS_api_Addr t11.1)) ha rfl rfl rfl (by kernel_rfl) rfl rfl hBg4 rfl fun a w19 ha hb2 hc20 _ => ?_
 have o1 : Ok [g4] ([g13] ++ (blkL ao9 ++ ([g4] ++ (M)))) w16.heap.size := (fun _ h => .inl (mr (mr (ml h))))
 have o2 : Ok ([g13] ++ (blkL ao9 ++ ([g4] ++ (M)))) ([g13] ++ (blkL ao9 ++ ([g4] ++ (M)))) w16.heap.size := (Ok.refl _ _)
 have f10 := f10.chg hc20 o1 o2
 have hBgp0 := hBgp0.chg hc20 ((fun x (hx : x ∈ [gp0]) (hy : x ∈ [g4]) => p_i6_M x hy (by rw [List.mem_singleton.1 hx]; exact hg_gp0)) gp0 (by simp))
 have hBg13 := hBg13.chg hc20 (p_i15_i6 g13 (by simp))
 have hM : MS ([g13] ++ (blkL ao9 ++ ([g4] ++ (M)))) w19 := (hM.chg hc20)
 have hC := hC.trans hc20 (fun x h => .inr (e_i6 x h))
 have hBg4 : Box w19 g4 (cS_api_Addr t11.1) := hb2
 refine hK18 _ _ ?_; try clear hK18 K18
 refine wp_ret ?_
 try simp only [Exit.then, Exit.inBlock]
 have o1 : Ok [] ([g13] ++ (blkL ao9 ++ ([g4] ++ (M)))) w19.heap.size := Ok.nil _ _
 have o2 : Ok (M) ([g13] ++ (blkL ao9 ++ ([g4] ++ (M)))) w19.heap.size := (fun _ h => .inl (mr (mr (mr (h)))))
 have f10 := f10.chg (Chg.refl [] _) o1 o2
 have hBgp0 := hBgp0.chg (Chg.refl [] _) (fun h => nomatch h)
 have hBg4 := hBg4.chg (Chg.refl [] _) (fun h => nomatch h)
 have hBg13 := hBg13.chg (Chg.refl [] _) (fun h => nomatch h)
 have hM : MS (M) w19 := (fun x h => hM.chg (Chg.refl [] _) x (mr (mr (mr (h)))))
 have hC := hC.trans (Chg.refl [] _) (Ok.nil _ _)
 obtain rfl := Option.some.inj H
 refine rtr ha (res1 rfl (roA ha rfl hBg4 (by kernel_rfl))) ?_
 exact ⟨ao10, cap10, rfl, f10, hBgp0, hC, hM⟩
def cursor_rest_Bad.f (a0 : S_cursor_rest) : Option (Bool) := some ((a0.bad : Bool))
set_option maxRecDepth 100000 in
theorem cursor_rest_Bad.walk (w : World) (M : List Nat) (hM : MS M w) (gp0 : Nat) (a0 : S_cursor_rest) (ao1 : Option Addr) (cap1 : Nat) (f1 : RSl (rInt .u8) 5 w M ao1 cap1 a0.left) (hBgp0 : Box w gp0 (cS_cursor_rest a0 ao1 cap1)) (hg_gp0 : gp0 ∈ M) (r : Bool) (H : cursor_rest_Bad.f a0 = some r) :
    To Tryd.prog 47 [.pointer (some ⟨gp0, 0, none⟩)] w fun v w' => v = .bool r ∧ Chg [] w w' ∧ MS (M) w' := by
 unfold cursor_rest_Bad.f at H
 refine ent Tryd.func47 rfl [(0, .pointer (some ⟨gp0, 0, none⟩))] rfl (by rfl) fun a ha => ?_
 have hC : Chg [] w w := Chg.refl _ _
 refine wp_seq_k fun K2 hK2 => ?_
 refine wp_region_lit ?_
 refine seg ha 1 [(0, .pointer (some ⟨gp0, 0, none⟩))] (by kernel_rfl) fun a ha => ?_
 refine hK2 _ _ ?_; try clear hK2 K2
 refine wp_seq_k fun K3 hK3 => ?_
 refine wp_region_lit ?_
 refine seg ha 3 [(5, .pointer (some ⟨gp0, 1, none⟩))] (by kernel_rfl) fun a ha => ?_
 refine ld (v := .bool a0.bad) ha rfl (by kernel_rfl) rfl rfl rfl (hBgp0.cell' (o := 1) rfl (by kernel_rfl)) fun a ha => ?_
 refine seg ha 1 [(2, .bool a0.bad)] (by kernel_rfl) fun a ha => ?_
 refine hK3 _ _ ?_; try clear hK3 K3
 refine wp_ret ?_
 try simp only [Exit.then, Exit.inBlock]
 obtain rfl := Option.some.inj H
 refine rt1 ha rfl rfl ?_
 exact ⟨rfl, hC, hM⟩
def bytes_Equal.f (a0 : List Int) (a1 : List Int) : Option (Bool) := some (((bstr (b2s a0)).toList == (bstr (b2s a1)).toList : Bool))
set_option maxRecDepth 100000 in
theorem bytes_Equal.walk (w : World) (M : List Nat) (hM : MS M w) (a0 : List Int) (ao1 : Option Addr) (cap1 : Nat) (f1 : RSl (rInt .u8) 5 w M ao1 cap1 a0) (a1 : List Int) (ao2 : Option Addr) (cap2 : Nat) (f2 : RSl (rInt .u8) 5 w M ao2 cap2 a1) (r : Bool) (H : bytes_Equal.f a0 a1 = some r) :
    To Tryd.prog 48 [.slice ao1 a0.length cap1, .slice ao2 a1.length cap2] w fun v w' => v = .bool r ∧ Chg [] w w' ∧ MS (M) w' := by
 unfold bytes_Equal.f at H
 refine ent Tryd.func48 rfl [(0, .slice ao1 a0.length cap1), (1, .slice ao2 a1.length cap2)] rfl (by rfl) fun a ha => ?_
 have hC : Chg [] w w := Chg.refl _ _
 refine wp_seq_k fun K3 hK3 => ?_
 refine wp_region_lit ?_
 refine seg ha 1 [(0, .slice ao1 a0.length cap1), (1, .slice ao2 a1.length cap2)] (by kernel_rfl) fun a ha => ?_
 refine hK3 _ _ ?_; try clear hK3 K3
 refine wp_seq_k fun K4 hK4 => ?_
 refine wp_region_lit ?_
 refine seg ha 1 [(1, .slice ao2 a1.length cap2), (5, .slice ao1 a0.length cap1)] (by kernel_rfl) fun a ha => ?_
 refine cvs ha rfl (by kernel_rfl) (by kernel_rfl) (by kernel_rfl) rfl rfl rfl f1 fun a ha => ?_
 refine seg ha 1 [(6, .string (bstr (b2s a0))), (7, .slice ao2 a1.length cap2)] (by kernel_rfl) fun a ha => ?_
 refine cvs ha rfl (by kernel_rfl) (by kernel_rfl) (by kernel_rfl) rfl rfl rfl f2 fun a ha => ?_
 refine seg ha 2 [(4, .bool ((bstr (b2s a0)).toList == (bstr (b2s a1)).toList))] (by kernel_rfl) fun a ha => ?_
 refine hK4 _ _ ?_; try clear hK4 K4
 refine wp_ret ?_
 try simp only [Exit.then, Exit.inBlock]
 obtain rfl := Option.some.inj H
 refine rt1 ha rfl rfl ?_
 exact ⟨rfl, hC, hM⟩
def cursor_rest_Left.f (a0 : S_cursor_rest) : Option (Int) := (if a0.bad = true then some (((0 : Int) : Int)) else some (((a0.left.length : Int) : Int)))
set_option maxRecDepth 100000 in
theorem cursor_rest_Left.walk (w : World) (M : List Nat) (hM : MS M w) (gp0 : Nat) (a0 : S_cursor_rest) (ao1 : Option Addr) (cap1 : Nat) (f1 : RSl (rInt .u8) 5 w M ao1 cap1 a0.left) (hBgp0 : Box w gp0 (cS_cursor_rest a0 ao1 cap1)) (hg_gp0 : gp0 ∈ M) (r : Int) (H : cursor_rest_Left.f a0 = some r) :
    To Tryd.prog 46 [.pointer (some ⟨gp0, 0, none⟩)] w fun v w' => v = .int .i64 r ∧ Chg [] w w' ∧ MS (M) w' := by
 unfold cursor_rest_Left.f at H
 refine ent Tryd.func46 rfl [(0, .pointer (some ⟨gp0, 0, none⟩))] rfl (by rfl) fun a ha => ?_
 have hC : Chg [] w w := Chg.refl _ _
 refine wp_seq_k fun K2 hK2 => ?_
 refine wp_region_lit ?_
 refine seg ha 1 [(0, .pointer (some ⟨gp0, 0, none⟩))] (by kernel_rfl) fun a ha => ?_
 refine hK2 _ _ ?_; try clear hK2 K2
 refine wp_seq_k fun K3 hK3 => ?_
 refine wp_seq_k fun K4 hK4 => ?_
 refine wp_region_lit ?_
 refine seg ha 3 [(0, .pointer (some ⟨gp0, 0, none⟩)), (5, .pointer (some ⟨gp0, 1, none⟩))] (by kernel_rfl) fun a ha => ?_
 refine ld (v := .bool a0.bad) ha rfl (by kernel_rfl) rfl rfl rfl (hBgp0.cell' (o := 1) rfl (by kernel_rfl)) fun a ha => ?_
 refine hK4 _ _ ?_; try clear hK4 K4
 refine cnd ha rfl (fun hc5 => ?_) (fun hc5 => ?_)
 ·have H := ite_t hc5 H
  refine wp_seq_k fun K6 hK6 => ?_
  refine wp_region_lit ?_
  refine seg ha 1 [(2, .int .i64 (0 : Int))] (by kernel_rfl) fun a ha => ?_
  refine hK6 _ _ ?_; try clear hK6 K6
  refine wp_ret ?_
  try simp only [Exit.then, Exit.inBlock]
  obtain rfl := Option.some.inj H
  refine rt1 ha rfl rfl ?_
  exact ⟨rfl, hC, hM⟩
 ·have H := ite_f hc5 H
  refine wp_skip ?_
  refine hK3 _ _ ?_; try clear hK3 K3
  refine wp_seq_k fun K7 hK7 => ?_
  refine wp_region_lit ?_
  refine seg ha 3 [(9, .pointer (some ⟨gp0, 0, none⟩))] (by kernel_rfl) fun a ha => ?_
  refine ld (v := .slice ao1 a0.left.length cap1) ha rfl (by kernel_rfl) rfl rfl rfl (hBgp0.cell' (o := 0) rfl (by kernel_rfl)) fun a ha => ?_
  refine seg ha 2 [(2, .int .i64 (a0.left.length : Int))] (by kernel_rfl) fun a ha => ?_
  refine hK7 _ _ ?_; try clear hK7 K7
  refine wp_ret ?_
  try simp only [Exit.then, Exit.inBlock]
  obtain rfl := Option.some.inj H
  refine rt1 ha rfl rfl ?_
  exact ⟨rfl, hC, hM⟩
end Go.E
