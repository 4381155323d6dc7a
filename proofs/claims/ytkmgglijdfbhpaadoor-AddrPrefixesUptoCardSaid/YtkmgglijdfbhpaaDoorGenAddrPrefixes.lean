/- What the functions that the law reaches compute, and the walks that show it. -/
import Derived.Test.YtkmgglijdfbhpaaDoorEngU
import Derived.Test.YtkmgglijdfbhpaaDoorShelf
import Derived.Test.YtkmgglijdfbhpaaDoorProg
import Derived.Test.YtkmgglijdfbhpaaDoorGenAddrPrefixesP1
set_option linter.unusedVariables false
set_option linter.unusedSimpArgs false
namespace Go.E
open Go.RowKit Go.Proofs
def vineryref02_Digits.l0 (a0 : List UInt8) (a1 : Int) : Nat → Int → Int → Option ((Int) ⊕ (Int))
  | 0, _, _ => none
  | kk + 1, x10, x11 => (if (decide (x11 < ((bstr a0).size : Int))) = true then (((if 0 ≤ x11 ∧ x11 < (a0.length : Int) then (if (decide (((a0.getD (Int.toNat x11) 0).toNat : Int) ≥ (48 : Int))) = true then (if 0 ≤ x11 ∧ x11 < (a0.length : Int) then some (decide (((a0.getD (Int.toNat x11) 0).toNat : Int) ≤ (57 : Int)) : Bool) else none) else some (false : Bool)) else none)).bind fun s34 => (if s34 = true then (if 0 ≤ x11 ∧ x11 < (a0.length : Int) then some (IntKind.i64.wrap (IntKind.u8.wrap (((a0.getD (Int.toNat x11) 0).toNat : Int) - (48 : Int))) : Int) else none) else some ((-1 : Int) : Int))).bind fun s19 => (((if 0 ≤ x11 ∧ x11 < (a0.length : Int) then (if (decide (((a0.getD (Int.toNat x11) 0).toNat : Int) ≥ (97 : Int))) = true then (if 0 ≤ x11 ∧ x11 < (a0.length : Int) then some (decide (((a0.getD (Int.toNat x11) 0).toNat : Int) ≤ (102 : Int)) : Bool) else none) else some (false : Bool)) else none)).bind fun s27 => (if s27 = true then (if 0 ≤ x11 ∧ x11 < (a0.length : Int) then some (IntKind.i64.wrap ((IntKind.i64.wrap (IntKind.u8.wrap (((a0.getD (Int.toNat x11) 0).toNat : Int) - (97 : Int)))) + (10 : Int)) : Int) else none) else some (s19 : Int))).bind fun s21 => (if (if (decide (s21 < (0 : Int))) = true then true else (decide (s21 ≥ a1))) = true then some (.inl (((-1 : Int) : Int))) else vineryref02_Digits.l0 a0 a1 kk (IntKind.i64.wrap ((IntKind.i64.wrap (x10 * a1)) + s21)) (IntKind.i64.wrap (x11 + (1 : Int)))) else some (.inr (x10 : Int)))
def vineryref02_Digits.f (k : Nat) (a0 : List UInt8) (a1 : Int) (a2 : Int) : Option (Int) := (if (if (((bstr a0).size : Int) == (0 : Int)) = true then true else (decide (((bstr a0).size : Int) > a2))) = true then some (((-1 : Int) : Int)) else (vineryref02_Digits.l0 a0 a1 k (0 : Int) (0 : Int)).bind fun s9 => match s9 with | .inl r => some r | .inr s9' => some ((s9' : Int)))
set_option maxRecDepth 100000 in
theorem vineryref02_Digits.walk (w : World) (M : List Nat) (hM : MS M w) (a0 : List UInt8) (a1 : Int) (a2 : Int) (k : Nat) (r : Int) (H : vineryref02_Digits.f k a0 a1 a2 = some r) :
    To Tryd.prog 51 [.string (bstr a0), .int .i64 a1, .int .i64 a2] w fun v w' => v = .int .i64 r ∧ Chg [] w w' ∧ MS (M) w' := by
 unfold vineryref02_Digits.f at H
 refine ent Tryd.func51 rfl [(0, .string (bstr a0)), (1, .int .i64 a1), (2, .int .i64 a2)] rfl (by rfl) fun a ha => ?_
 have hC : Chg [] w w := Chg.refl _ _
 refine wp_seq_k fun K1 hK1 => ?_
 refine wp_region_lit ?_
 refine seg ha 1 [(0, .string (bstr a0)), (1, .int .i64 a1), (2, .int .i64 a2)] (by kernel_rfl) fun a ha => ?_
 refine hK1 _ _ ?_; try clear hK1 K1
 refine wp_seq_k fun K2 hK2 => ?_
 refine wp_seq_k fun K3 hK3 => ?_
 refine wp_region_lit ?_
 refine seg ha 9 [(0, .string (bstr a0)), (1, .int .i64 a1), (18, .bool (if (((bstr a0).size : Int) == (0 : Int)) = true then true else (decide (((bstr a0).size : Int) > a2))))] (by kernel_rfl) fun a ha => ?_
 refine hK3 _ _ ?_; try clear hK3 K3
 refine cnd ha rfl (fun hc4 => ?_) (fun hc4 => ?_)
 ·have H := ite_t hc4 H
  refine wp_seq_k fun K5 hK5 => ?_
  refine wp_region_lit ?_
  refine seg ha 1 [(6, .int .i64 (-1 : Int))] (by kernel_rfl) fun a ha => ?_
  refine hK5 _ _ ?_; try clear hK5 K5
  refine wp_ret ?_
  try simp only [Exit.then, Exit.inBlock]
  obtain rfl := Option.some.inj H
  refine rt1 ha rfl rfl ?_
  exact ⟨rfl, hC, hM⟩
 ·have H := ite_f hc4 H
  refine wp_skip ?_
  refine hK2 _ _ ?_; try clear hK2 K2
  refine wp_seq_k fun K6 hK6 => ?_
  refine wp_region_lit ?_
  refine seg ha 1 [(0, .string (bstr a0)), (1, .int .i64 a1), (7, .int .i64 (0 : Int))] (by kernel_rfl) fun a ha => ?_
  refine hK6 _ _ ?_; try clear hK6 K6
  refine wp_seq_k fun K7 hK7 => ?_
  refine wp_seq_k fun K8 hK8 => ?_
  refine wp_region_lit ?_
  refine seg ha 1 [(0, .string (bstr a0)), (1, .int .i64 a1), (7, .int .i64 (0 : Int)), (8, .int .i64 (0 : Int))] (by kernel_rfl) fun a ha => ?_
  refine hK8 _ _ ?_; try clear hK8 K8
  refine wp_block ?_
  obtain ⟨s9, H9, H⟩ := bind_some H
  have J9 : ∀ s9' (a : Act) (wx9 : World), s9 = .inr s9' → Has a Tryd.f51.ntmps [(7, .int .i64 s9')] → (Chg [] w wx9) → (MS (M) wx9) → K7 a wx9 := by
   intro s9' a wx9 hs ha hC hM
   subst hs
   refine hK7 _ _ ?_; try clear hK7 K7
   refine wp_seq_k fun K12 hK12 => ?_
   refine wp_region_lit ?_
   refine seg ha 2 [(6, .int .i64 s9')] (by kernel_rfl) fun a ha => ?_
   refine hK12 _ _ ?_; try clear hK12 K12
   refine wp_ret ?_
   try simp only [Exit.then, Exit.inBlock]
   obtain rfl := Option.some.inj H
   refine rt1 ha rfl rfl ?_
   exact ⟨rfl, hC, hM⟩
  have Hc9 := H
  have H := H9
  refine wp_loop_ghost (fun kk a w9 => ∃ (x10 : Int) (x11 : Int), vineryref02_Digits.l0 a0 a1 kk x10 x11 = some s9 ∧ Has a Tryd.f51.ntmps [(0, .string (bstr a0)), (1, .int .i64 a1), (7, .int .i64 x10), (8, .int .i64 x11)] ∧ (Chg [] w w9) ∧ (MS (M) w9)) k ?_ ?_
  ·skip
   exact ⟨(0 : Int), (0 : Int), H, (ha.sel (by kernel_rfl)), hC, hM⟩
  ·rintro kk a w9 ⟨x10, x11, H, ha, hC, hM⟩
   obtain _ | kk := kk
   ·exact nomatch (show none = some _ from H)
   rw [vineryref02_Digits.l0] at H
   refine wp_seq_k fun K13 hK13 => ?_
   refine wp_seq_k fun K14 hK14 => ?_
   refine wp_region_lit ?_
   refine seg ha 4 [(0, .string (bstr a0)), (1, .int .i64 a1), (7, .int .i64 x10), (8, .int .i64 x11), (22, .bool (decide (x11 < ((bstr a0).size : Int))))] (by kernel_rfl) fun a ha => ?_
   refine hK14 _ _ ?_; try clear hK14 K14
   refine cnd ha rfl (fun hc15 => ?_) (fun hc15 => ?_)
   ·have H := ite_t hc15 H
    refine wp_skip ?_
    refine hK13 _ _ ?_; try clear hK13 K13
    refine wp_seq_k fun K16 hK16 => ?_
    refine wp_block ?_
    refine wp_seq_k fun K17 hK17 => ?_
    refine wp_region_lit ?_
    refine seg ha 1 [(0, .string (bstr a0)), (1, .int .i64 a1), (7, .int .i64 x10), (8, .int .i64 x11), (9, .int .i64 (-1 : Int))] (by kernel_rfl) fun a ha => ?_
    refine hK17 _ _ ?_; try clear hK17 K17
    refine wp_seq_k fun K18 hK18 => ?_
    obtain ⟨s19, H19, H⟩ := bind_some H
    have J19 : ∀ (a : Act) (w19 : World), Has a Tryd.f51.ntmps [(0, .string (bstr a0)), (1, .int .i64 a1), (7, .int .i64 x10), (8, .int .i64 x11), (9, .int .i64 s19)] → (Chg [] w w19) → (MS (M) w19) → K18 a w19 := by
     intro a w19 ha hC hM
     refine hK18 _ _ ?_; try clear hK18 K18
     refine wp_seq_k fun K20 hK20 => ?_
     obtain ⟨s21, H21, H⟩ := bind_some H
     have J21 : ∀ (a : Act) (w21 : World), Has a Tryd.f51.ntmps [(0, .string (bstr a0)), (1, .int .i64 a1), (7, .int .i64 x10), (8, .int .i64 x11), (9, .int .i64 s21)] → (Chg [] w w21) → (MS (M) w21) → K20 a w21 := by
      intro a w21 ha hC hM
      refine hK20 _ _ ?_; try clear hK20 K20
      refine wp_seq_k fun K22 hK22 => ?_
      refine wp_seq_k fun K23 hK23 => ?_
      refine wp_region_lit ?_
      refine seg ha 7 [(0, .string (bstr a0)), (1, .int .i64 a1), (7, .int .i64 x10), (8, .int .i64 x11), (9, .int .i64 s21), (62, .bool (if (decide (s21 < (0 : Int))) = true then true else (decide (s21 ≥ a1))))] (by kernel_rfl) fun a ha => ?_
      refine hK23 _ _ ?_; try clear hK23 K23
      refine cnd ha rfl (fun hc24 => ?_) (fun hc24 => ?_)
      ·have H := ite_t hc24 H
       refine wp_seq_k fun K25 hK25 => ?_
       refine wp_region_lit ?_
       refine seg ha 1 [(6, .int .i64 (-1 : Int))] (by kernel_rfl) fun a ha => ?_
       refine hK25 _ _ ?_; try clear hK25 K25
       refine wp_ret ?_
       try simp only [Exit.then, Exit.inBlock]
       obtain rfl := Option.some.inj H
       have H := (show some _ = some _ from Hc9)
       obtain rfl := Option.some.inj H
       refine rt1 ha rfl rfl ?_
       exact ⟨rfl, hC, hM⟩
      ·have H := ite_f hc24 H
       refine wp_skip ?_
       refine hK22 _ _ ?_; try clear hK22 K22
       refine wp_region_lit ?_
       refine seg ha 6 [(0, .string (bstr a0)), (1, .int .i64 a1), (7, .int .i64 (IntKind.i64.wrap ((IntKind.i64.wrap (x10 * a1)) + s21))), (8, .int .i64 x11)] (by kernel_rfl) fun a ha => ?_
       refine hK16 _ _ ?_; try clear hK16 K16
       refine wp_region_lit ?_
       refine seg ha 3 [(0, .string (bstr a0)), (1, .int .i64 a1), (7, .int .i64 (IntKind.i64.wrap ((IntKind.i64.wrap (x10 * a1)) + s21))), (8, .int .i64 (IntKind.i64.wrap (x11 + (1 : Int))))] (by kernel_rfl) fun a ha => ?_
       exact ⟨kk, Nat.lt_succ_self _, ⟨IntKind.i64.wrap ((IntKind.i64.wrap (x10 * a1)) + s21), IntKind.i64.wrap (x11 + (1 : Int)), H, (ha.sel (by kernel_rfl)), hC, hM⟩⟩
     have H := H21
     refine wp_seq_k fun K26 hK26 => ?_
     refine wp_region_lit ?_
     obtain ⟨s27, H27, H⟩ := bind_some H
     have J27 : ∀ (a : Act) (w27 : World), Has a Tryd.f51.ntmps [(0, .string (bstr a0)), (1, .int .i64 a1), (7, .int .i64 x10), (8, .int .i64 x11), (9, .int .i64 s19), (49, .bool s27)] → (Chg [] w w27) → (MS (M) w27) → K26 a w27 := by
      intro a w27 ha hC hM
      refine hK26 _ _ ?_; try clear hK26 K26
      refine cnd ha rfl (fun hc28 => ?_) (fun hc28 => ?_)
      ·have H := ite_t hc28 H
       refine wp_region_lit ?_
       refine seg ha 2 [(0, .string (bstr a0)), (1, .int .i64 a1), (7, .int .i64 x10), (8, .int .i64 x11), (50, .string (bstr a0)), (51, .int .i64 x11)] (by kernel_rfl) fun a ha => ?_
       obtain ⟨⟨hx29, hx29'⟩, H⟩ := ite_some H
       refine hop (v := .int .u8 ((a0.getD (Int.toNat x11) 0).toNat : Int)) (w' := w27) ha rfl rfl rfl (sidx_run (l := a0) (k := .i64) (i := x11) ha (by kernel_rfl) (by rfl) (by rfl) hx29 hx29' _) fun a ha => ?_
       refine seg ha 4 [(0, .string (bstr a0)), (1, .int .i64 a1), (7, .int .i64 x10), (8, .int .i64 x11), (9, .int .i64 (IntKind.i64.wrap ((IntKind.i64.wrap (IntKind.u8.wrap (((a0.getD (Int.toNat x11) 0).toNat : Int) - (97 : Int)))) + (10 : Int))))] (by kernel_rfl) fun a ha => ?_
       obtain rfl := Option.some.inj H
       exact J21 _ _ (ha.sel (by kernel_rfl)) hC hM
      ·have H := ite_f hc28 H
       refine wp_skip ?_
       obtain rfl := Option.some.inj H
       exact J21 _ _ (ha.sel (by kernel_rfl)) hC hM
     have H := H27
     refine seg ha 2 [(0, .string (bstr a0)), (1, .int .i64 a1), (7, .int .i64 x10), (8, .int .i64 x11), (9, .int .i64 s19), (40, .string (bstr a0)), (41, .int .i64 x11)] (by kernel_rfl) fun a ha => ?_
     obtain ⟨⟨hx30, hx30'⟩, H⟩ := ite_some H
     refine hop (v := .int .u8 ((a0.getD (Int.toNat x11) 0).toNat : Int)) (w' := w19) ha rfl rfl rfl (sidx_run (l := a0) (k := .i64) (i := x11) ha (by kernel_rfl) (by rfl) (by rfl) hx30 hx30' _) fun a ha => ?_
     refine seg ha 2 [(44, .bool (decide (((a0.getD (Int.toNat x11) 0).toNat : Int) ≥ (97 : Int)))), (0, .string (bstr a0)), (1, .int .i64 a1), (7, .int .i64 x10), (8, .int .i64 x11), (9, .int .i64 s19)] (by kernel_rfl) fun a ha => ?_
     rcases Bool.eq_false_or_eq_true (decide (((a0.getD (Int.toNat x11) 0).toNat : Int) ≥ (97 : Int))) with hb31 | hb31
     ·have ha := ha.lit hb31
      have H := ite_t hb31 H
      refine sgh ha 2 [2, 2] [(0, .string (bstr a0)), (1, .int .i64 a1), (7, .int .i64 x10), (8, .int .i64 x11), (9, .int .i64 s19), (44, .bool true), (45, .string (bstr a0)), (46, .int .i64 x11)] (by kernel_rfl) fun a ha => ?_
      obtain ⟨⟨hx32, hx32'⟩, H⟩ := ite_some H
      refine hop (v := .int .u8 ((a0.getD (Int.toNat x11) 0).toNat : Int)) (w' := w19) ha rfl rfl rfl (sidx_run (l := a0) (k := .i64) (i := x11) ha (by kernel_rfl) (by rfl) (by rfl) hx32 hx32' _) fun a ha => ?_
      refine sgh ha 2 [2, 3] [(0, .string (bstr a0)), (1, .int .i64 a1), (7, .int .i64 x10), (8, .int .i64 x11), (9, .int .i64 s19), (49, .bool (decide (((a0.getD (Int.toNat x11) 0).toNat : Int) ≤ (102 : Int))))] (by kernel_rfl) fun a ha => ?_
      obtain rfl := Option.some.inj H
      exact J27 _ _ (ha.sel (by kernel_rfl)) hC hM
     ·have ha := ha.lit hb31
      have H := ite_f hb31 H
      refine sgh ha 5 [1, 1, 1, 1, 4] [(0, .string (bstr a0)), (1, .int .i64 a1), (7, .int .i64 x10), (8, .int .i64 x11), (9, .int .i64 s19), (49, .bool false)] (by kernel_rfl) fun a ha => ?_
      obtain rfl := Option.some.inj H
      exact J27 _ _ (ha.sel (by kernel_rfl)) hC hM
    have H := H19
    refine wp_seq_k fun K33 hK33 => ?_
    refine wp_region_lit ?_
    obtain ⟨s34, H34, H⟩ := bind_some H
    have J34 : ∀ (a : Act) (w34 : World), Has a Tryd.f51.ntmps [(0, .string (bstr a0)), (1, .int .i64 a1), (7, .int .i64 x10), (8, .int .i64 x11), (9, .int .i64 (-1 : Int)), (34, .bool s34)] → (Chg [] w w34) → (MS (M) w34) → K33 a w34 := by
     intro a w34 ha hC hM
     refine hK33 _ _ ?_; try clear hK33 K33
     refine cnd ha rfl (fun hc35 => ?_) (fun hc35 => ?_)
     ·have H := ite_t hc35 H
      refine wp_region_lit ?_
      refine seg ha 2 [(0, .string (bstr a0)), (1, .int .i64 a1), (7, .int .i64 x10), (8, .int .i64 x11), (35, .string (bstr a0)), (36, .int .i64 x11)] (by kernel_rfl) fun a ha => ?_
      obtain ⟨⟨hx36, hx36'⟩, H⟩ := ite_some H
      refine hop (v := .int .u8 ((a0.getD (Int.toNat x11) 0).toNat : Int)) (w' := w34) ha rfl rfl rfl (sidx_run (l := a0) (k := .i64) (i := x11) ha (by kernel_rfl) (by rfl) (by rfl) hx36 hx36' _) fun a ha => ?_
      refine seg ha 3 [(0, .string (bstr a0)), (1, .int .i64 a1), (7, .int .i64 x10), (8, .int .i64 x11), (9, .int .i64 (IntKind.i64.wrap (IntKind.u8.wrap (((a0.getD (Int.toNat x11) 0).toNat : Int) - (48 : Int)))))] (by kernel_rfl) fun a ha => ?_
      obtain rfl := Option.some.inj H
      exact J19 _ _ (ha.sel (by kernel_rfl)) hC hM
     ·have H := ite_f hc35 H
      refine wp_skip ?_
      obtain rfl := Option.some.inj H
      exact J19 _ _ (ha.sel (by kernel_rfl)) hC hM
    have H := H34
    refine seg ha 2 [(0, .string (bstr a0)), (1, .int .i64 a1), (7, .int .i64 x10), (8, .int .i64 x11), (9, .int .i64 (-1 : Int)), (25, .string (bstr a0)), (26, .int .i64 x11)] (by kernel_rfl) fun a ha => ?_
    obtain ⟨⟨hx37, hx37'⟩, H⟩ := ite_some H
    refine hop (v := .int .u8 ((a0.getD (Int.toNat x11) 0).toNat : Int)) (w' := w9) ha rfl rfl rfl (sidx_run (l := a0) (k := .i64) (i := x11) ha (by kernel_rfl) (by rfl) (by rfl) hx37 hx37' _) fun a ha => ?_
    refine seg ha 2 [(29, .bool (decide (((a0.getD (Int.toNat x11) 0).toNat : Int) ≥ (48 : Int)))), (0, .string (bstr a0)), (1, .int .i64 a1), (7, .int .i64 x10), (8, .int .i64 x11), (9, .int .i64 (-1 : Int))] (by kernel_rfl) fun a ha => ?_
    rcases Bool.eq_false_or_eq_true (decide (((a0.getD (Int.toNat x11) 0).toNat : Int) ≥ (48 : Int))) with hb38 | hb38
    ·have ha := ha.lit hb38
     have H := ite_t hb38 H
     refine sgh ha 2 [2, 2] [(0, .string (bstr a0)), (1, .int .i64 a1), (7, .int .i64 x10), (8, .int .i64 x11), (9, .int .i64 (-1 : Int)), (29, .bool true), (30, .string (bstr a0)), (31, .int .i64 x11)] (by kernel_rfl) fun a ha => ?_
     obtain ⟨⟨hx39, hx39'⟩, H⟩ := ite_some H
     refine hop (v := .int .u8 ((a0.getD (Int.toNat x11) 0).toNat : Int)) (w' := w9) ha rfl rfl rfl (sidx_run (l := a0) (k := .i64) (i := x11) ha (by kernel_rfl) (by rfl) (by rfl) hx39 hx39' _) fun a ha => ?_
     refine sgh ha 2 [2, 3] [(0, .string (bstr a0)), (1, .int .i64 a1), (7, .int .i64 x10), (8, .int .i64 x11), (9, .int .i64 (-1 : Int)), (34, .bool (decide (((a0.getD (Int.toNat x11) 0).toNat : Int) ≤ (57 : Int))))] (by kernel_rfl) fun a ha => ?_
     obtain rfl := Option.some.inj H
     exact J34 _ _ (ha.sel (by kernel_rfl)) hC hM
    ·have ha := ha.lit hb38
     have H := ite_f hb38 H
     refine sgh ha 5 [1, 1, 1, 1, 4] [(0, .string (bstr a0)), (1, .int .i64 a1), (7, .int .i64 x10), (8, .int .i64 x11), (9, .int .i64 (-1 : Int)), (34, .bool false)] (by kernel_rfl) fun a ha => ?_
     obtain rfl := Option.some.inj H
     exact J34 _ _ (ha.sel (by kernel_rfl)) hC hM
   ·have H := ite_f hc15 H
    refine wp_exit ?_
    simp only [Exit.then, Exit.inBlock, ↓reduceIte, Nat.reduceEqDiff]
    obtain rfl := Option.some.inj H
    exact J9 _ _ _ rfl (ha.sel (by kernel_rfl)) hC hM
def vineryref02_rough.l0 (k : Nat) (t12 : List (List UInt8)) : Nat → Int → (List Int) → Option (List Int)
  | 0, _, _ => none
  | kk + 1, x23, x24 => (if (decide (x23 < (4 : Int))) = true then (if 0 ≤ x23 ∧ x23 < (t12.length : Int) then (vineryref02_Digits.f k (rd t12 x23) (10 : Int) (3 : Int)).bind fun t39 => (if 0 ≤ x23 ∧ x23 < (16 : Int) then vineryref02_rough.l0 k t12 kk (IntKind.i64.wrap (x23 + (1 : Int))) ((arL 16 x24).set (Int.toNat x23) (IntKind.u8.wrap (if t39 > (0 : Int) then t39 else (0 : Int)))) else none) else none) else some (x24 : List Int))
def vineryref02_rough.l2 (k : Nat) (t44 : List (List UInt8)) (s52 : Int) : Nat → Int → (List Int) → Option (List Int)
  | 0, _, _ => none
  | kk + 1, x58, x59 => (if (decide (x58 < (8 : Int))) = true then ((if (if (decide (s52 < (0 : Int))) = true then true else (decide (x58 < s52))) = true then (if (decide (x58 < (t44.length : Int))) = true then (if 0 ≤ x58 ∧ x58 < (t44.length : Int) then (vineryref02_Digits.f k (rd t44 x58) (16 : Int) (4 : Int)).bind fun t88 => some (if t88 > (0 : Int) then t88 else (0 : Int) : Int) else none) else some ((0 : Int) : Int)) else (if (if (decide ((IntKind.i64.wrap ((IntKind.i64.wrap ((t44.length : Int) - (8 : Int))) + x58)) > s52)) = true then (decide ((IntKind.i64.wrap ((IntKind.i64.wrap ((t44.length : Int) - (8 : Int))) + x58)) < (t44.length : Int))) else false) = true then (if 0 ≤ (IntKind.i64.wrap ((IntKind.i64.wrap ((t44.length : Int) - (8 : Int))) + x58)) ∧ (IntKind.i64.wrap ((IntKind.i64.wrap ((t44.length : Int) - (8 : Int))) + x58)) < (t44.length : Int) then (vineryref02_Digits.f k (rd t44 (IntKind.i64.wrap ((IntKind.i64.wrap ((t44.length : Int) - (8 : Int))) + x58))) (16 : Int) (4 : Int)).bind fun t99 => some (if t99 > (0 : Int) then t99 else (0 : Int) : Int) else none) else some ((0 : Int) : Int)))).bind fun s69 => (if 0 ≤ (IntKind.i64.wrap ((2 : Int) * x58)) ∧ (IntKind.i64.wrap ((2 : Int) * x58)) < (16 : Int) then (if 0 ≤ (IntKind.i64.wrap ((IntKind.i64.wrap ((2 : Int) * x58)) + (1 : Int))) ∧ (IntKind.i64.wrap ((IntKind.i64.wrap ((2 : Int) * x58)) + (1 : Int))) < (16 : Int) then vineryref02_rough.l2 k t44 s52 kk (IntKind.i64.wrap (x58 + (1 : Int))) ((arL 16 ((arL 16 x59).set (Int.toNat (IntKind.i64.wrap ((2 : Int) * x58))) (IntKind.u8.wrap (IntKind.i64.wrap (Int.tdiv s69 (256 : Int)))))).set (Int.toNat (IntKind.i64.wrap ((IntKind.i64.wrap ((2 : Int) * x58)) + (1 : Int)))) (IntKind.u8.wrap s69)) else none) else none) else some (x59 : List Int))
def vineryref02_rough.l1 (t44 : List (List UInt8)) : Nat → Int → Int → Option (Int)
  | 0, _, _ => none
  | kk + 1, x53, x54 => (if (if (decide (x54 < (IntKind.i64.wrap ((t44.length : Int) - (1 : Int))))) = true then (decide (x53 < (0 : Int))) else false) = true then (if 0 ≤ x54 ∧ x54 < (t44.length : Int) then (if ((bstr (rd t44 x54)).toList == (bstr ([] : List UInt8)).toList) = true then vineryref02_rough.l1 t44 kk x54 (IntKind.i64.wrap (x54 + (1 : Int))) else vineryref02_rough.l1 t44 kk x53 (IntKind.i64.wrap (x54 + (1 : Int)))) else none) else some (x53 : Int))
def vineryref02_rough.f (k : Nat) (a0 : List UInt8) : Option (S_api_Addr) := (vineryref02_split.f k a0 (46 : Int)).bind fun t12 => (if ((t12.length : Int) == (4 : Int)) = true then (vineryref02_rough.l0 k t12 k (0 : Int) (List.replicate 16 (0 : Int))).bind fun s22 => some (((⟨(4 : Int), s22⟩ : S_api_Addr) : S_api_Addr)) else (vineryref02_split.f k a0 (58 : Int)).bind fun t44 => (vineryref02_rough.l1 t44 k (-1 : Int) (1 : Int)).bind fun s52 => (vineryref02_rough.l2 k t44 s52 k (0 : Int) (List.replicate 16 (0 : Int))).bind fun s57 => some (((⟨(16 : Int), s57⟩ : S_api_Addr) : S_api_Addr)))
set_option maxRecDepth 100000 in
theorem vineryref02_rough.walk (w : World) (M : List Nat) (hM : MS M w) (a0 : List UInt8) (k : Nat) (r : S_api_Addr) (H : vineryref02_rough.f k a0 = some r) :
    To Tryd.prog 39 [.string (bstr a0)] w fun v w' => v = .agg (cS_api_Addr r).toArray ∧ Chg [] w w' ∧ MS (M) w' := by
 unfold vineryref02_rough.f at H
 refine ent Tryd.func39 rfl [(0, .string (bstr a0))] rfl (by rfl) fun a ha => ?_
 have hC : Chg [] w w := Chg.refl _ _
 refine wp_seq_k fun K1 hK1 => ?_
 refine wp_region_lit ?_
 refine al (cs := (cS_api_Addr (⟨(0 : Int), (List.replicate 16 (0 : Int))⟩ : S_api_Addr))) (z := .agg (cS_api_Addr (⟨(0 : Int), (List.replicate 16 (0 : Int))⟩ : S_api_Addr)).toArray) ha (fun w => by kernel_rfl) rfl rfl rfl rfl fun a w2 g3 hN4 ha => ?_
 have p_i5_M : ∀ x ∈ [g3], x ∉ M := fun x hx hy => absurd (hM x (hy)) (Nat.not_lt.2 ((hN4.ge1) x hx))
 have e_i5 : ∀ x ∈ [g3], w.heap.size ≤ x := fun x hx => Nat.le_trans hC.size ((hN4.ge1) x hx)
 have hM : MS ([g3] ++ (M)) w2 := (MS.app hN4.ms (hM.chg hN4.chg))
 have hC := hC.trans hN4.chg (Ok.nil _ _)
 have hBg3 : Box w2 g3 (cS_api_Addr (⟨(0 : Int), (List.replicate 16 (0 : Int))⟩ : S_api_Addr)) := hN4.box
 refine hK1 _ _ ?_; try clear hK1 K1
 refine wp_seq_k fun K6 hK6 => ?_
 refine wp_region_lit ?_
 refine al (cs := (cS_api_Addr (⟨(0 : Int), (List.replicate 16 (0 : Int))⟩ : S_api_Addr))) (z := .agg (cS_api_Addr (⟨(0 : Int), (List.replicate 16 (0 : Int))⟩ : S_api_Addr)).toArray) ha (fun w => by kernel_rfl) rfl rfl rfl rfl fun a w7 g8 hN9 ha => ?_
 have hBg3 := hBg3.chg hN9.chg (fun h => nomatch h)
 have p_i10_i5 : ∀ x ∈ [g8], x ∉ ([g3]) := fun x hx hy => absurd (hM x (ml hy)) (Nat.not_lt.2 ((hN9.ge1) x hx))
 have p_i10_M : ∀ x ∈ [g8], x ∉ M := fun x hx hy => absurd (hM x (mr (hy))) (Nat.not_lt.2 ((hN9.ge1) x hx))
 have e_i10 : ∀ x ∈ [g8], w.heap.size ≤ x := fun x hx => Nat.le_trans hC.size ((hN9.ge1) x hx)
 have hM : MS ([g8] ++ ([g3] ++ (M))) w7 := (MS.app hN9.ms (hM.chg hN9.chg))
 have hC := hC.trans hN9.chg (Ok.nil _ _)
 have hBg8 : Box w7 g8 (cS_api_Addr (⟨(0 : Int), (List.replicate 16 (0 : Int))⟩ : S_api_Addr)) := hN9.box
 refine hK6 _ _ ?_; try clear hK6 K6
 refine wp_seq_k fun K11 hK11 => ?_
 refine wp_region_lit ?_
 refine seg ha 1 [(0, .string (bstr a0)), (2, .pointer (some ⟨g3, 0, none⟩)), (3, .pointer (some ⟨g8, 0, none⟩)), (11, .string (bstr a0))] (by kernel_rfl) fun a ha => ?_
 obtain ⟨t12, H12, H⟩ := bind_some H
 refine cl ha (by rfl) (by kernel_rfl) (by rfl) (by rfl) (by rfl) (vineryref02_split.walk w7 _ hM a0 (46 : Int) k _ H12) ?_
 rintro _ w12 ⟨ao13, cap13, rfl, f13, ne_i13, hc12, hMn⟩ a ha
 have hBg3 := hBg3.chg hc12 (fun h => nomatch h)
 have hBg8 := hBg8.chg hc12 (fun h => nomatch h)
 have p_i13_i10 : ∀ x ∈ blkL ao13, x ∉ ([g8]) := fun x hx hy => absurd (hM x (ml hy)) (Nat.not_lt.2 (ne_i13 x hx))
 have p_i13_i5 : ∀ x ∈ blkL ao13, x ∉ ([g3]) := fun x hx hy => absurd (hM x (mr (ml hy))) (Nat.not_lt.2 (ne_i13 x hx))
 have p_i13_M : ∀ x ∈ blkL ao13, x ∉ M := fun x hx hy => absurd (hM x (mr (mr (hy)))) (Nat.not_lt.2 (ne_i13 x hx))
 have e_i13 : ∀ x ∈ blkL ao13, w.heap.size ≤ x := fun x hx => Nat.le_trans hC.size (ne_i13 x hx)
 have hM : MS (blkL ao13 ++ ([g8] ++ ([g3] ++ (M)))) w12 := (MS.app (fun x h => hMn x (ml h)) (hM.chg hc12))
 have hC := hC.trans hc12 (Ok.nil _ _)
 refine seg ha 1 [(0, .string (bstr a0)), (2, .pointer (some ⟨g3, 0, none⟩)), (3, .pointer (some ⟨g8, 0, none⟩)), (4, .slice ao13 t12.length cap13)] (by kernel_rfl) fun a ha => ?_
 refine hK11 _ _ ?_; try clear hK11 K11
 refine wp_seq_k fun K14 hK14 => ?_
 refine wp_seq_k fun K15 hK15 => ?_
 refine wp_region_lit ?_
 refine seg ha 3 [(0, .string (bstr a0)), (2, .pointer (some ⟨g3, 0, none⟩)), (3, .pointer (some ⟨g8, 0, none⟩)), (4, .slice ao13 t12.length cap13), (15, .bool ((t12.length : Int) == (4 : Int)))] (by kernel_rfl) fun a ha => ?_
 refine hK15 _ _ ?_; try clear hK15 K15
 refine cnd ha rfl (fun hc16 => ?_) (fun hc16 => ?_)
 ·have H := ite_t hc16 H
  refine wp_seq_k fun K17 hK17 => ?_
  refine wp_region_lit ?_
  refine seg ha 1 [(2, .pointer (some ⟨g3, 0, none⟩)), (3, .pointer (some ⟨g8, 0, none⟩)), (4, .slice ao13 t12.length cap13), (16, .pointer (some ⟨g8, 0, none⟩))] (by kernel_rfl) fun a ha => ?_
  refine st ha rfl rfl rfl (by kernel_rfl) rfl rfl hBg8 (Nat.le_of_ble_eq_true (by kernel_rfl)) fun a w18 ha hb2 hc19 _ => ?_
  have o1 : Ok [g8] (blkL ao13 ++ ([g8] ++ ([g3] ++ (M)))) w12.heap.size := (fun _ h => .inl (mr (ml h)))
  have o2 : Ok (blkL ao13 ++ ([g8] ++ ([g3] ++ (M)))) (blkL ao13 ++ ([g8] ++ ([g3] ++ (M)))) w12.heap.size := (Ok.refl _ _)
  have f13 := f13.chg hc19 o1 o2 p_i13_i10 (fun _ h => ml h)
  have hBg3 := hBg3.chg hc19 ((fun x (hx : x ∈ [g3]) (hy : x ∈ [g8]) => p_i10_i5 x hy hx) g3 (by simp))
  have hM : MS (blkL ao13 ++ ([g8] ++ ([g3] ++ (M)))) w18 := (hM.chg hc19)
  have hC := hC.trans hc19 (fun x h => .inr (e_i10 x h))
  have hBg8 : Box w18 g8 (cS_api_Addr (⟨(4 : Int), (List.replicate 16 (0 : Int))⟩ : S_api_Addr)) := hb2
  refine hK17 _ _ ?_; try clear hK17 K17
  refine wp_seq_k fun K20 hK20 => ?_
  refine wp_seq_k fun K21 hK21 => ?_
  refine wp_region_lit ?_
  refine seg ha 1 [(2, .pointer (some ⟨g3, 0, none⟩)), (3, .pointer (some ⟨g8, 0, none⟩)), (4, .slice ao13 t12.length cap13), (5, .int .i64 (0 : Int))] (by kernel_rfl) fun a ha => ?_
  refine hK21 _ _ ?_; try clear hK21 K21
  refine wp_block ?_
  obtain ⟨s22, H22, H⟩ := bind_some H
  have J22 : ∀ (a : Act) (wx22 : World), Has a Tryd.f39.ntmps [(2, .pointer (some ⟨g3, 0, none⟩)), (3, .pointer (some ⟨g8, 0, none⟩))] → (Box wx22 g3 (cS_api_Addr (⟨(0 : Int), (List.replicate 16 (0 : Int))⟩ : S_api_Addr))) → (Box wx22 g8 (cS_api_Addr (⟨(4 : Int), s22⟩ : S_api_Addr))) → (Chg [] w wx22) → (MS ([g8] ++ ([g3] ++ (M))) wx22) → K20 a wx22 := by
   intro a wx22 ha hBg3 hBg8 hC hM
   refine hK20 _ _ ?_; try clear hK20 K20
   refine wp_seq_k fun K25 hK25 => ?_
   refine wp_region_lit ?_
   refine ldA (cs := (cS_api_Addr (⟨(4 : Int), s22⟩ : S_api_Addr))) ha rfl (by kernel_rfl) rfl rfl rfl (cells_sub (Box.cells hBg8) (all := (cS_api_Addr (⟨(4 : Int), s22⟩ : S_api_Addr))) [] [] (by kernel_rfl)) fun a ha => ?_
   refine stA (l := (cS_api_Addr (⟨(4 : Int), s22⟩ : S_api_Addr))) ha rfl rfl rfl (by kernel_rfl) rfl rfl hBg3 rfl fun a w26 ha hb2 hc27 _ => ?_
   have hBg8 := hBg8.chg hc27 (p_i10_i5 g8 (by simp))
   have hM : MS ([g8] ++ ([g3] ++ (M))) w26 := (hM.chg hc27)
   have hC := hC.trans hc27 (fun x h => .inr (e_i5 x h))
   have hBg3 : Box w26 g3 (cS_api_Addr (⟨(4 : Int), s22⟩ : S_api_Addr)) := hb2
   refine hK25 _ _ ?_; try clear hK25 K25
   refine wp_ret ?_
   try simp only [Exit.then, Exit.inBlock]
   have hBg3 := hBg3.chg (Chg.refl [] _) (fun h => nomatch h)
   have hBg8 := hBg8.chg (Chg.refl [] _) (fun h => nomatch h)
   have hM : MS (M) w26 := (fun x h => hM.chg (Chg.refl [] _) x (mr (mr (h))))
   have hC := hC.trans (Chg.refl [] _) (Ok.nil _ _)
   obtain rfl := Option.some.inj H
   refine rtr ha (res1 rfl (roA ha rfl hBg3 (by kernel_rfl))) ?_
   exact ⟨rfl, hC, hM⟩
  have Hc22 := H
  have H := H22
  refine wp_loop_ghost (fun kk a w22 => ∃ (x23 : Int) (x24 : List Int), vineryref02_rough.l0 k t12 kk x23 x24 = some s22 ∧ Has a Tryd.f39.ntmps [(2, .pointer (some ⟨g3, 0, none⟩)), (3, .pointer (some ⟨g8, 0, none⟩)), (4, .slice ao13 t12.length cap13), (5, .int .i64 x23)] ∧ (Own rStr 9 w22 (blkL ao13 ++ ([g8] ++ ([g3] ++ (M)))) ao13 cap13 t12) ∧ (Box w22 g3 (cS_api_Addr (⟨(0 : Int), (List.replicate 16 (0 : Int))⟩ : S_api_Addr))) ∧ (Box w22 g8 (cS_api_Addr (⟨(4 : Int), x24⟩ : S_api_Addr))) ∧ (Chg [] w w22) ∧ (MS (blkL ao13 ++ ([g8] ++ ([g3] ++ (M)))) w22)) k ?_ ?_
  ·skip
   exact ⟨(0 : Int), (List.replicate 16 (0 : Int)), H, (ha.sel (by kernel_rfl)), f13, hBg3, hBg8, hC, hM⟩
  ·rintro kk a w22 ⟨x23, x24, H, ha, f13, hBg3, hBg8, hC, hM⟩
   obtain _ | kk := kk
   ·exact nomatch (show none = some _ from H)
   rw [vineryref02_rough.l0] at H
   refine wp_seq_k fun K28 hK28 => ?_
   refine wp_seq_k fun K29 hK29 => ?_
   refine wp_region_lit ?_
   refine seg ha 2 [(2, .pointer (some ⟨g3, 0, none⟩)), (3, .pointer (some ⟨g8, 0, none⟩)), (4, .slice ao13 t12.length cap13), (5, .int .i64 x23), (18, .bool (decide (x23 < (4 : Int))))] (by kernel_rfl) fun a ha => ?_
   refine hK29 _ _ ?_; try clear hK29 K29
   refine cnd ha rfl (fun hc30 => ?_) (fun hc30 => ?_)
   ·have H := ite_t hc30 H
    refine wp_skip ?_
    refine hK28 _ _ ?_; try clear hK28 K28
    refine wp_seq_k fun K31 hK31 => ?_
    refine wp_block ?_
    refine wp_region_lit ?_
    refine seg ha 3 [(2, .pointer (some ⟨g3, 0, none⟩)), (3, .pointer (some ⟨g8, 0, none⟩)), (4, .slice ao13 t12.length cap13), (5, .int .i64 x23), (21, .int .i64 x23), (22, .slice ao13 t12.length cap13), (23, .int .i64 x23)] (by kernel_rfl) fun a ha => ?_
    obtain ⟨⟨hx32, hx32'⟩, H⟩ := ite_some H
    refine ix (r := rStr) ha (by kernel_rfl) (by kernel_rfl) rfl rfl rfl rfl rfl (Own.toRSl (M' := []) f13 (Ok.nil _ _) (fun _ _ h => nomatch h)) hx32 hx32' fun a ge33 oe34 cs35 hn38 hR36 hE37 ha => ?_
    rw [rd_get] at hR36
    obtain rfl := hR36
    have hE37 : ∀ j v, ([.string (bstr (rd t12 x23))] : List Value)[j]? = some v → w22.cell? ⟨ge33, oe34 + j, none⟩ = some v := hE37
    refine ld ha rfl (by kernel_rfl) rfl rfl rfl (hE37 0 (.string (bstr (rd t12 x23))) (by kernel_rfl)) fun a ha => ?_
    obtain ⟨t39, H39, H⟩ := bind_some H
    refine cl ha (by rfl) (by kernel_rfl) (by rfl) (by rfl) (by rfl) (vineryref02_Digits.walk w22 _ hM (rd t12 x23) (10 : Int) (3 : Int) k _ H39) ?_
    rintro _ w39 ⟨rfl, hc39, hMn⟩ a ha
    have o1 : Ok [] (blkL ao13 ++ ([g8] ++ ([g3] ++ (M)))) w22.heap.size := Ok.nil _ _
    have o2 : Ok (blkL ao13 ++ ([g8] ++ ([g3] ++ (M)))) (blkL ao13 ++ ([g8] ++ ([g3] ++ (M)))) w22.heap.size := (Ok.refl _ _)
    have f13 := f13.chg hc39 o1 o2 (fun _ _ h => nomatch h) (fun _ h => ml h)
    have hBg3 := hBg3.chg hc39 (fun h => nomatch h)
    have hBg8 := hBg8.chg hc39 (fun h => nomatch h)
    have hM : MS (blkL ao13 ++ ([g8] ++ ([g3] ++ (M)))) w39 := (hM.chg hc39)
    have hC := hC.trans hc39 (Ok.nil _ _)
    refine opk (v := .int .i64 (if t39 > (0 : Int) then t39 else (0 : Int))) ha rfl rfl rfl rfl rfl (fun w => by kernel_rfl) fun a ha => ?_
    refine seg ha 2 [(2, .pointer (some ⟨g3, 0, none⟩)), (3, .pointer (some ⟨g8, 0, none⟩)), (4, .slice ao13 t12.length cap13), (5, .int .i64 x23), (21, .int .i64 x23), (28, .int .u8 (IntKind.u8.wrap (if t39 > (0 : Int) then t39 else (0 : Int)))), (29, .pointer (some ⟨g8, 1, none⟩))] (by kernel_rfl) fun a ha => ?_
    obtain ⟨⟨hx40, hx40'⟩, H⟩ := ite_some H
    have hi40 : (Int.toNat x23) < 16 := by omega
    refine hop (v := .pointer (some ⟨g8, 1 + (Int.toNat x23), none⟩)) (w' := w39) ha rfl rfl rfl (ixA_run (T := 5) (N := 16) (g := g8) (o' := 1) (k := .i64) (i := x23) ha (by kernel_rfl) (by kernel_rfl) (by rfl) (by rfl) hx40 hx40' _) fun a ha => ?_
    refine st (o' := 1 + (Int.toNat x23)) ha rfl rfl rfl (by kernel_rfl) rfl rfl hBg8 (arr_lt (k := .u8) (m := 16) (x := x24) ([.int .i64 (4 : Int)] : List Value) ([] : List Value) (by kernel_rfl) hi40) fun a w41 ha hb2 hc42 _ => ?_
    have o1 : Ok [g8] (blkL ao13 ++ ([g8] ++ ([g3] ++ (M)))) w39.heap.size := (fun _ h => .inl (mr (ml h)))
    have o2 : Ok (blkL ao13 ++ ([g8] ++ ([g3] ++ (M)))) (blkL ao13 ++ ([g8] ++ ([g3] ++ (M)))) w39.heap.size := (Ok.refl _ _)
    have f13 := f13.chg hc42 o1 o2 p_i13_i10 (fun _ h => ml h)
    have hBg3 := hBg3.chg hc42 ((fun x (hx : x ∈ [g3]) (hy : x ∈ [g8]) => p_i10_i5 x hy hx) g3 (by simp))
    have hM : MS (blkL ao13 ++ ([g8] ++ ([g3] ++ (M)))) w41 := (hM.chg hc42)
    have hC := hC.trans hc42 (fun x h => .inr (e_i10 x h))
    have hBg8 : Box w41 g8 (cS_api_Addr (⟨(4 : Int), ((arL 16 x24).set (Int.toNat x23) (IntKind.u8.wrap (if t39 > (0 : Int) then t39 else (0 : Int))))⟩ : S_api_Addr)) := Box.setA (k := .u8) (m := 16) (x := x24) ([.int .i64 (4 : Int)] : List Value) ([] : List Value) hb2 (by kernel_rfl) hi40 (by kernel_rfl)
    refine hK31 _ _ ?_; try clear hK31 K31
    refine wp_region_lit ?_
    refine seg ha 3 [(2, .pointer (some ⟨g3, 0, none⟩)), (3, .pointer (some ⟨g8, 0, none⟩)), (4, .slice ao13 t12.length cap13), (5, .int .i64 (IntKind.i64.wrap (x23 + (1 : Int))))] (by kernel_rfl) fun a ha => ?_
    exact ⟨kk, Nat.lt_succ_self _, ⟨IntKind.i64.wrap (x23 + (1 : Int)), ((arL 16 x24).set (Int.toNat x23) (IntKind.u8.wrap (if t39 > (0 : Int) then t39 else (0 : Int)))), H, (ha.sel (by kernel_rfl)), f13, hBg3, hBg8, hC, hM⟩⟩
   ·have H := ite_f hc30 H
    refine wp_exit ?_
    simp only [Exit.then, Exit.inBlock, ↓reduceIte, Nat.reduceEqDiff]
    obtain rfl := Option.some.inj H
    have hBg3 := hBg3.chg (Chg.refl [] _) (fun h => nomatch h)
    have hBg8 := hBg8.chg (Chg.refl [] _) (fun h => nomatch h)
    have hM : MS ([g8] ++ ([g3] ++ (M))) w22 := (fun x h => hM.chg (Chg.refl [] _) x (mr (h)))
    have hC := hC.trans (Chg.refl [] _) (Ok.nil _ _)
    exact J22 _ _ (ha.sel (by kernel_rfl)) hBg3 hBg8 hC hM
 ·have H := ite_f hc16 H
  refine wp_skip ?_
  refine hK14 _ _ ?_; try clear hK14 K14
  refine wp_seq_k fun K43 hK43 => ?_
  refine wp_region_lit ?_
  refine seg ha 1 [(2, .pointer (some ⟨g3, 0, none⟩)), (3, .pointer (some ⟨g8, 0, none⟩)), (32, .string (bstr a0))] (by kernel_rfl) fun a ha => ?_
  obtain ⟨t44, H44, H⟩ := bind_some H
  refine cl ha (by rfl) (by kernel_rfl) (by rfl) (by rfl) (by rfl) (vineryref02_split.walk w12 _ hM a0 (58 : Int) k _ H44) ?_
  rintro _ w44 ⟨ao45, cap45, rfl, f45, ne_i45, hc44, hMn⟩ a ha
  have hBg3 := hBg3.chg hc44 (fun h => nomatch h)
  have hBg8 := hBg8.chg hc44 (fun h => nomatch h)
  have p_i45_i13 : ∀ x ∈ blkL ao45, x ∉ (blkL ao13) := fun x hx hy => absurd (hM x (ml hy)) (Nat.not_lt.2 (ne_i45 x hx))
  have p_i45_i10 : ∀ x ∈ blkL ao45, x ∉ ([g8]) := fun x hx hy => absurd (hM x (mr (ml hy))) (Nat.not_lt.2 (ne_i45 x hx))
  have p_i45_i5 : ∀ x ∈ blkL ao45, x ∉ ([g3]) := fun x hx hy => absurd (hM x (mr (mr (ml hy)))) (Nat.not_lt.2 (ne_i45 x hx))
  have p_i45_M : ∀ x ∈ blkL ao45, x ∉ M := fun x hx hy => absurd (hM x (mr (mr (mr (hy))))) (Nat.not_lt.2 (ne_i45 x hx))
  have e_i45 : ∀ x ∈ blkL ao45, w.heap.size ≤ x := fun x hx => Nat.le_trans hC.size (ne_i45 x hx)
  have hM : MS (blkL ao45 ++ (blkL ao13 ++ ([g8] ++ ([g3] ++ (M))))) w44 := (MS.app (fun x h => hMn x (ml h)) (hM.chg hc44))
  have hC := hC.trans hc44 (Ok.nil _ _)
  refine seg ha 1 [(2, .pointer (some ⟨g3, 0, none⟩)), (3, .pointer (some ⟨g8, 0, none⟩)), (4, .slice ao45 t44.length cap45)] (by kernel_rfl) fun a ha => ?_
  refine hK43 _ _ ?_; try clear hK43 K43
  refine wp_seq_k fun K46 hK46 => ?_
  refine wp_region_lit ?_
  refine seg ha 1 [(2, .pointer (some ⟨g3, 0, none⟩)), (3, .pointer (some ⟨g8, 0, none⟩)), (4, .slice ao45 t44.length cap45), (34, .pointer (some ⟨g8, 0, none⟩))] (by kernel_rfl) fun a ha => ?_
  refine st ha rfl rfl rfl (by kernel_rfl) rfl rfl hBg8 (Nat.le_of_ble_eq_true (by kernel_rfl)) fun a w47 ha hb2 hc48 _ => ?_
  have o1 : Ok [g8] (blkL ao45 ++ (blkL ao13 ++ ([g8] ++ ([g3] ++ (M))))) w44.heap.size := (fun _ h => .inl (mr (mr (ml h))))
  have o2 : Ok (blkL ao45 ++ (blkL ao13 ++ ([g8] ++ ([g3] ++ (M))))) (blkL ao45 ++ (blkL ao13 ++ ([g8] ++ ([g3] ++ (M))))) w44.heap.size := (Ok.refl _ _)
  have f45 := f45.chg hc48 o1 o2 p_i45_i10 (fun _ h => ml h)
  have hBg3 := hBg3.chg hc48 ((fun x (hx : x ∈ [g3]) (hy : x ∈ [g8]) => p_i10_i5 x hy hx) g3 (by simp))
  have hM : MS (blkL ao45 ++ (blkL ao13 ++ ([g8] ++ ([g3] ++ (M))))) w47 := (hM.chg hc48)
  have hC := hC.trans hc48 (fun x h => .inr (e_i10 x h))
  have hBg8 : Box w47 g8 (cS_api_Addr (⟨(16 : Int), (List.replicate 16 (0 : Int))⟩ : S_api_Addr)) := hb2
  refine hK46 _ _ ?_; try clear hK46 K46
  refine wp_seq_k fun K49 hK49 => ?_
  refine wp_region_lit ?_
  refine seg ha 1 [(2, .pointer (some ⟨g3, 0, none⟩)), (3, .pointer (some ⟨g8, 0, none⟩)), (4, .slice ao45 t44.length cap45), (6, .int .i64 (-1 : Int))] (by kernel_rfl) fun a ha => ?_
  refine hK49 _ _ ?_; try clear hK49 K49
  refine wp_seq_k fun K50 hK50 => ?_
  refine wp_seq_k fun K51 hK51 => ?_
  refine wp_region_lit ?_
  refine seg ha 1 [(2, .pointer (some ⟨g3, 0, none⟩)), (3, .pointer (some ⟨g8, 0, none⟩)), (4, .slice ao45 t44.length cap45), (6, .int .i64 (-1 : Int)), (7, .int .i64 (1 : Int))] (by kernel_rfl) fun a ha => ?_
  refine hK51 _ _ ?_; try clear hK51 K51
  refine wp_block ?_
  obtain ⟨s52, H52, H⟩ := bind_some H
  have J52 : ∀ (a : Act) (wx52 : World), Has a Tryd.f39.ntmps [(2, .pointer (some ⟨g3, 0, none⟩)), (3, .pointer (some ⟨g8, 0, none⟩)), (4, .slice ao45 t44.length cap45), (6, .int .i64 s52)] → (Own rStr 9 wx52 (blkL ao45 ++ ([g8] ++ ([g3] ++ (M)))) ao45 cap45 t44) → (Box wx52 g3 (cS_api_Addr (⟨(0 : Int), (List.replicate 16 (0 : Int))⟩ : S_api_Addr))) → (Box wx52 g8 (cS_api_Addr (⟨(16 : Int), (List.replicate 16 (0 : Int))⟩ : S_api_Addr))) → (Chg [] w wx52) → (MS (blkL ao45 ++ ([g8] ++ ([g3] ++ (M)))) wx52) → K50 a wx52 := by
   intro a wx52 ha f45 hBg3 hBg8 hC hM
   refine hK50 _ _ ?_; try clear hK50 K50
   refine wp_seq_k fun K55 hK55 => ?_
   refine wp_seq_k fun K56 hK56 => ?_
   refine wp_region_lit ?_
   refine seg ha 1 [(2, .pointer (some ⟨g3, 0, none⟩)), (3, .pointer (some ⟨g8, 0, none⟩)), (4, .slice ao45 t44.length cap45), (6, .int .i64 s52), (8, .int .i64 (0 : Int))] (by kernel_rfl) fun a ha => ?_
   refine hK56 _ _ ?_; try clear hK56 K56
   refine wp_block ?_
   obtain ⟨s57, H57, H⟩ := bind_some H
   have J57 : ∀ (a : Act) (wx57 : World), Has a Tryd.f39.ntmps [(2, .pointer (some ⟨g3, 0, none⟩)), (3, .pointer (some ⟨g8, 0, none⟩))] → (Box wx57 g3 (cS_api_Addr (⟨(0 : Int), (List.replicate 16 (0 : Int))⟩ : S_api_Addr))) → (Box wx57 g8 (cS_api_Addr (⟨(16 : Int), s57⟩ : S_api_Addr))) → (Chg [] w wx57) → (MS ([g8] ++ ([g3] ++ (M))) wx57) → K55 a wx57 := by
    intro a wx57 ha hBg3 hBg8 hC hM
    refine hK55 _ _ ?_; try clear hK55 K55
    refine wp_seq_k fun K60 hK60 => ?_
    refine wp_region_lit ?_
    refine ldA (cs := (cS_api_Addr (⟨(16 : Int), s57⟩ : S_api_Addr))) ha rfl (by kernel_rfl) rfl rfl rfl (cells_sub (Box.cells hBg8) (all := (cS_api_Addr (⟨(16 : Int), s57⟩ : S_api_Addr))) [] [] (by kernel_rfl)) fun a ha => ?_
    refine stA (l := (cS_api_Addr (⟨(16 : Int), s57⟩ : S_api_Addr))) ha rfl rfl rfl (by kernel_rfl) rfl rfl hBg3 rfl fun a w61 ha hb2 hc62 _ => ?_
    have hBg8 := hBg8.chg hc62 (p_i10_i5 g8 (by simp))
    have hM : MS ([g8] ++ ([g3] ++ (M))) w61 := (hM.chg hc62)
    have hC := hC.trans hc62 (fun x h => .inr (e_i5 x h))
    have hBg3 : Box w61 g3 (cS_api_Addr (⟨(16 : Int), s57⟩ : S_api_Addr)) := hb2
    refine hK60 _ _ ?_; try clear hK60 K60
    refine wp_ret ?_
    try simp only [Exit.then, Exit.inBlock]
    have hBg3 := hBg3.chg (Chg.refl [] _) (fun h => nomatch h)
    have hBg8 := hBg8.chg (Chg.refl [] _) (fun h => nomatch h)
    have hM : MS (M) w61 := (fun x h => hM.chg (Chg.refl [] _) x (mr (mr (h))))
    have hC := hC.trans (Chg.refl [] _) (Ok.nil _ _)
    obtain rfl := Option.some.inj H
    refine rtr ha (res1 rfl (roA ha rfl hBg3 (by kernel_rfl))) ?_
    exact ⟨rfl, hC, hM⟩
   have Hc57 := H
   have H := H57
   refine wp_loop_ghost (fun kk a w57 => ∃ (x58 : Int) (x59 : List Int), vineryref02_rough.l2 k t44 s52 kk x58 x59 = some s57 ∧ Has a Tryd.f39.ntmps [(2, .pointer (some ⟨g3, 0, none⟩)), (3, .pointer (some ⟨g8, 0, none⟩)), (4, .slice ao45 t44.length cap45), (6, .int .i64 s52), (8, .int .i64 x58)] ∧ (Own rStr 9 w57 (blkL ao45 ++ ([g8] ++ ([g3] ++ (M)))) ao45 cap45 t44) ∧ (Box w57 g3 (cS_api_Addr (⟨(0 : Int), (List.replicate 16 (0 : Int))⟩ : S_api_Addr))) ∧ (Box w57 g8 (cS_api_Addr (⟨(16 : Int), x59⟩ : S_api_Addr))) ∧ (Chg [] w w57) ∧ (MS (blkL ao45 ++ ([g8] ++ ([g3] ++ (M)))) w57)) k ?_ ?_
   ·skip
    exact ⟨(0 : Int), (List.replicate 16 (0 : Int)), H, (ha.sel (by kernel_rfl)), f45, hBg3, hBg8, hC, hM⟩
   ·rintro kk a w57 ⟨x58, x59, H, ha, f45, hBg3, hBg8, hC, hM⟩
    obtain _ | kk := kk
    ·exact nomatch (show none = some _ from H)
    rw [vineryref02_rough.l2] at H
    refine wp_seq_k fun K63 hK63 => ?_
    refine wp_seq_k fun K64 hK64 => ?_
    refine wp_region_lit ?_
    refine seg ha 2 [(2, .pointer (some ⟨g3, 0, none⟩)), (3, .pointer (some ⟨g8, 0, none⟩)), (4, .slice ao45 t44.length cap45), (6, .int .i64 s52), (8, .int .i64 x58), (53, .bool (decide (x58 < (8 : Int))))] (by kernel_rfl) fun a ha => ?_
    refine hK64 _ _ ?_; try clear hK64 K64
    refine cnd ha rfl (fun hc65 => ?_) (fun hc65 => ?_)
    ·have H := ite_t hc65 H
     refine wp_skip ?_
     refine hK63 _ _ ?_; try clear hK63 K63
     refine wp_seq_k fun K66 hK66 => ?_
     refine wp_block ?_
     refine wp_seq_k fun K67 hK67 => ?_
     refine wp_region_lit ?_
     refine seg ha 1 [(2, .pointer (some ⟨g3, 0, none⟩)), (3, .pointer (some ⟨g8, 0, none⟩)), (4, .slice ao45 t44.length cap45), (6, .int .i64 s52), (8, .int .i64 x58), (9, .int .i64 (0 : Int))] (by kernel_rfl) fun a ha => ?_
     refine hK67 _ _ ?_; try clear hK67 K67
     refine wp_seq_k fun K68 hK68 => ?_
     obtain ⟨s69, H69, H⟩ := bind_some H
     have J69 : ∀ (a : Act) (w69 : World), Has a Tryd.f39.ntmps [(2, .pointer (some ⟨g3, 0, none⟩)), (3, .pointer (some ⟨g8, 0, none⟩)), (4, .slice ao45 t44.length cap45), (6, .int .i64 s52), (8, .int .i64 x58), (9, .int .i64 s69)] → (Own rStr 9 w69 (blkL ao45 ++ ([g8] ++ ([g3] ++ (M)))) ao45 cap45 t44) → (Box w69 g3 (cS_api_Addr (⟨(0 : Int), (List.replicate 16 (0 : Int))⟩ : S_api_Addr))) → (Box w69 g8 (cS_api_Addr (⟨(16 : Int), x59⟩ : S_api_Addr))) → (Chg [] w w69) → (MS (blkL ao45 ++ ([g8] ++ ([g3] ++ (M)))) w69) → K68 a w69 := by
      intro a w69 ha f45 hBg3 hBg8 hC hM
      refine hK68 _ _ ?_; try clear hK68 K68
      refine wp_seq_k fun K70 hK70 => ?_
      refine wp_region_lit ?_
      refine seg ha 6 [(2, .pointer (some ⟨g3, 0, none⟩)), (3, .pointer (some ⟨g8, 0, none⟩)), (4, .slice ao45 t44.length cap45), (6, .int .i64 s52), (8, .int .i64 x58), (9, .int .i64 s69), (94, .int .i64 (IntKind.i64.wrap ((2 : Int) * x58))), (97, .int .u8 (IntKind.u8.wrap (IntKind.i64.wrap (Int.tdiv s69 (256 : Int))))), (98, .pointer (some ⟨g8, 1, none⟩))] (by kernel_rfl) fun a ha => ?_
      obtain ⟨⟨hx71, hx71'⟩, H⟩ := ite_some H
      have hi71 : (Int.toNat (IntKind.i64.wrap ((2 : Int) * x58))) < 16 := by omega
      refine hop (v := .pointer (some ⟨g8, 1 + (Int.toNat (IntKind.i64.wrap ((2 : Int) * x58))), none⟩)) (w' := w69) ha rfl rfl rfl (ixA_run (T := 5) (N := 16) (g := g8) (o' := 1) (k := .i64) (i := IntKind.i64.wrap ((2 : Int) * x58)) ha (by kernel_rfl) (by kernel_rfl) (by rfl) (by rfl) hx71 hx71' _) fun a ha => ?_
      refine st (o' := 1 + (Int.toNat (IntKind.i64.wrap ((2 : Int) * x58)))) ha rfl rfl rfl (by kernel_rfl) rfl rfl hBg8 (arr_lt (k := .u8) (m := 16) (x := x59) ([.int .i64 (16 : Int)] : List Value) ([] : List Value) (by kernel_rfl) hi71) fun a w72 ha hb2 hc73 _ => ?_
      have o1 : Ok [g8] (blkL ao45 ++ ([g8] ++ ([g3] ++ (M)))) w69.heap.size := (fun _ h => .inl (mr (ml h)))
      have o2 : Ok (blkL ao45 ++ ([g8] ++ ([g3] ++ (M)))) (blkL ao45 ++ ([g8] ++ ([g3] ++ (M)))) w69.heap.size := (Ok.refl _ _)
      have f45 := f45.chg hc73 o1 o2 p_i45_i10 (fun _ h => ml h)
      have hBg3 := hBg3.chg hc73 ((fun x (hx : x ∈ [g3]) (hy : x ∈ [g8]) => p_i10_i5 x hy hx) g3 (by simp))
      have hM : MS (blkL ao45 ++ ([g8] ++ ([g3] ++ (M)))) w72 := (hM.chg hc73)
      have hC := hC.trans hc73 (fun x h => .inr (e_i10 x h))
      have hBg8 : Box w72 g8 (cS_api_Addr (⟨(16 : Int), ((arL 16 x59).set (Int.toNat (IntKind.i64.wrap ((2 : Int) * x58))) (IntKind.u8.wrap (IntKind.i64.wrap (Int.tdiv s69 (256 : Int)))))⟩ : S_api_Addr)) := Box.setA (k := .u8) (m := 16) (x := x59) ([.int .i64 (16 : Int)] : List Value) ([] : List Value) hb2 (by kernel_rfl) hi71 (by kernel_rfl)
      refine hK70 _ _ ?_; try clear hK70 K70
      refine wp_region_lit ?_
      refine seg ha 6 [(2, .pointer (some ⟨g3, 0, none⟩)), (3, .pointer (some ⟨g8, 0, none⟩)), (4, .slice ao45 t44.length cap45), (6, .int .i64 s52), (8, .int .i64 x58), (102, .int .i64 (IntKind.i64.wrap ((IntKind.i64.wrap ((2 : Int) * x58)) + (1 : Int)))), (104, .int .u8 (IntKind.u8.wrap s69)), (105, .pointer (some ⟨g8, 1, none⟩))] (by kernel_rfl) fun a ha => ?_
      obtain ⟨⟨hx74, hx74'⟩, H⟩ := ite_some H
      have hi74 : (Int.toNat (IntKind.i64.wrap ((IntKind.i64.wrap ((2 : Int) * x58)) + (1 : Int)))) < 16 := by omega
      refine hop (v := .pointer (some ⟨g8, 1 + (Int.toNat (IntKind.i64.wrap ((IntKind.i64.wrap ((2 : Int) * x58)) + (1 : Int)))), none⟩)) (w' := w72) ha rfl rfl rfl (ixA_run (T := 5) (N := 16) (g := g8) (o' := 1) (k := .i64) (i := IntKind.i64.wrap ((IntKind.i64.wrap ((2 : Int) * x58)) + (1 : Int))) ha (by kernel_rfl) (by kernel_rfl) (by rfl) (by rfl) hx74 hx74' _) fun a ha => ?_
      refine st (o' := 1 + (Int.toNat (IntKind.i64.wrap ((IntKind.i64.wrap ((2 : Int) * x58)) + (1 : Int))))) ha rfl rfl rfl (by kernel_rfl) rfl rfl hBg8 (arr_lt (k := .u8) (m := 16) (x := ((arL 16 x59).set (Int.toNat (IntKind.i64.wrap ((2 : Int) * x58))) (IntKind.u8.wrap (IntKind.i64.wrap (Int.tdiv s69 (256 : Int)))))) ([.int .i64 (16 : Int)] : List Value) ([] : List Value) (by kernel_rfl) hi74) fun a w75 ha hb2 hc76 _ => ?_
      have o1 : Ok [g8] (blkL ao45 ++ ([g8] ++ ([g3] ++ (M)))) w72.heap.size := (fun _ h => .inl (mr (ml h)))
      have o2 : Ok (blkL ao45 ++ ([g8] ++ ([g3] ++ (M)))) (blkL ao45 ++ ([g8] ++ ([g3] ++ (M)))) w72.heap.size := (Ok.refl _ _)
      have f45 := f45.chg hc76 o1 o2 p_i45_i10 (fun _ h => ml h)
      have hBg3 := hBg3.chg hc76 ((fun x (hx : x ∈ [g3]) (hy : x ∈ [g8]) => p_i10_i5 x hy hx) g3 (by simp))
      have hM : MS (blkL ao45 ++ ([g8] ++ ([g3] ++ (M)))) w75 := (hM.chg hc76)
      have hC := hC.trans hc76 (fun x h => .inr (e_i10 x h))
      have hBg8 : Box w75 g8 (cS_api_Addr (⟨(16 : Int), ((arL 16 ((arL 16 x59).set (Int.toNat (IntKind.i64.wrap ((2 : Int) * x58))) (IntKind.u8.wrap (IntKind.i64.wrap (Int.tdiv s69 (256 : Int)))))).set (Int.toNat (IntKind.i64.wrap ((IntKind.i64.wrap ((2 : Int) * x58)) + (1 : Int)))) (IntKind.u8.wrap s69))⟩ : S_api_Addr)) := Box.setA (k := .u8) (m := 16) (x := ((arL 16 x59).set (Int.toNat (IntKind.i64.wrap ((2 : Int) * x58))) (IntKind.u8.wrap (IntKind.i64.wrap (Int.tdiv s69 (256 : Int)))))) ([.int .i64 (16 : Int)] : List Value) ([] : List Value) hb2 (by kernel_rfl) hi74 (by kernel_rfl)
      refine hK66 _ _ ?_; try clear hK66 K66
      refine wp_region_lit ?_
      refine seg ha 3 [(2, .pointer (some ⟨g3, 0, none⟩)), (3, .pointer (some ⟨g8, 0, none⟩)), (4, .slice ao45 t44.length cap45), (6, .int .i64 s52), (8, .int .i64 (IntKind.i64.wrap (x58 + (1 : Int))))] (by kernel_rfl) fun a ha => ?_
      exact ⟨kk, Nat.lt_succ_self _, ⟨IntKind.i64.wrap (x58 + (1 : Int)), ((arL 16 ((arL 16 x59).set (Int.toNat (IntKind.i64.wrap ((2 : Int) * x58))) (IntKind.u8.wrap (IntKind.i64.wrap (Int.tdiv s69 (256 : Int)))))).set (Int.toNat (IntKind.i64.wrap ((IntKind.i64.wrap ((2 : Int) * x58)) + (1 : Int)))) (IntKind.u8.wrap s69)), H, (ha.sel (by kernel_rfl)), f45, hBg3, hBg8, hC, hM⟩⟩
     have H := H69
     refine wp_seq_k fun K77 hK77 => ?_
     refine wp_region_lit ?_
     refine seg ha 7 [(2, .pointer (some ⟨g3, 0, none⟩)), (3, .pointer (some ⟨g8, 0, none⟩)), (4, .slice ao45 t44.length cap45), (6, .int .i64 s52), (8, .int .i64 x58), (9, .int .i64 (0 : Int)), (62, .bool (if (decide (s52 < (0 : Int))) = true then true else (decide (x58 < s52))))] (by kernel_rfl) fun a ha => ?_
     refine hK77 _ _ ?_; try clear hK77 K77
     refine cnd ha rfl (fun hc78 => ?_) (fun hc78 => ?_)
     ·have H := ite_t hc78 H
      refine wp_seq_k fun K79 hK79 => ?_
      refine wp_region_lit ?_
      refine seg ha 4 [(2, .pointer (some ⟨g3, 0, none⟩)), (3, .pointer (some ⟨g8, 0, none⟩)), (4, .slice ao45 t44.length cap45), (6, .int .i64 s52), (8, .int .i64 x58), (9, .int .i64 (0 : Int)), (66, .bool (decide (x58 < (t44.length : Int))))] (by kernel_rfl) fun a ha => ?_
      refine hK79 _ _ ?_; try clear hK79 K79
      refine cnd ha rfl (fun hc80 => ?_) (fun hc80 => ?_)
      ·have H := ite_t hc80 H
       refine wp_region_lit ?_
       refine seg ha 2 [(2, .pointer (some ⟨g3, 0, none⟩)), (3, .pointer (some ⟨g8, 0, none⟩)), (4, .slice ao45 t44.length cap45), (6, .int .i64 s52), (8, .int .i64 x58), (67, .slice ao45 t44.length cap45), (68, .int .i64 x58)] (by kernel_rfl) fun a ha => ?_
       obtain ⟨⟨hx81, hx81'⟩, H⟩ := ite_some H
       refine ix (r := rStr) ha (by kernel_rfl) (by kernel_rfl) rfl rfl rfl rfl rfl (Own.toRSl (M' := []) f45 (Ok.nil _ _) (fun _ _ h => nomatch h)) hx81 hx81' fun a ge82 oe83 cs84 hn87 hR85 hE86 ha => ?_
       rw [rd_get] at hR85
       obtain rfl := hR85
       have hE86 : ∀ j v, ([.string (bstr (rd t44 x58))] : List Value)[j]? = some v → w57.cell? ⟨ge82, oe83 + j, none⟩ = some v := hE86
       refine ld ha rfl (by kernel_rfl) rfl rfl rfl (hE86 0 (.string (bstr (rd t44 x58))) (by kernel_rfl)) fun a ha => ?_
       obtain ⟨t88, H88, H⟩ := bind_some H
       refine cl ha (by rfl) (by kernel_rfl) (by rfl) (by rfl) (by rfl) (vineryref02_Digits.walk w57 _ hM (rd t44 x58) (16 : Int) (4 : Int) k _ H88) ?_
       rintro _ w88 ⟨rfl, hc88, hMn⟩ a ha
       have o1 : Ok [] (blkL ao45 ++ ([g8] ++ ([g3] ++ (M)))) w57.heap.size := Ok.nil _ _
       have o2 : Ok (blkL ao45 ++ ([g8] ++ ([g3] ++ (M)))) (blkL ao45 ++ ([g8] ++ ([g3] ++ (M)))) w57.heap.size := (Ok.refl _ _)
       have f45 := f45.chg hc88 o1 o2 (fun _ _ h => nomatch h) (fun _ h => ml h)
       have hBg3 := hBg3.chg hc88 (fun h => nomatch h)
       have hBg8 := hBg8.chg hc88 (fun h => nomatch h)
       have hM : MS (blkL ao45 ++ ([g8] ++ ([g3] ++ (M)))) w88 := (hM.chg hc88)
       have hC := hC.trans hc88 (Ok.nil _ _)
       refine opk (v := .int .i64 (if t88 > (0 : Int) then t88 else (0 : Int))) ha rfl rfl rfl rfl rfl (fun w => by kernel_rfl) fun a ha => ?_
       refine seg ha 1 [(2, .pointer (some ⟨g3, 0, none⟩)), (3, .pointer (some ⟨g8, 0, none⟩)), (4, .slice ao45 t44.length cap45), (6, .int .i64 s52), (8, .int .i64 x58), (9, .int .i64 (if t88 > (0 : Int) then t88 else (0 : Int)))] (by kernel_rfl) fun a ha => ?_
       obtain rfl := Option.some.inj H
       exact J69 _ _ (ha.sel (by kernel_rfl)) f45 hBg3 hBg8 hC hM
      ·have H := ite_f hc80 H
       refine wp_skip ?_
       obtain rfl := Option.some.inj H
       exact J69 _ _ (ha.sel (by kernel_rfl)) f45 hBg3 hBg8 hC hM
     ·have H := ite_f hc78 H
      refine wp_seq_k fun K89 hK89 => ?_
      refine wp_region_lit ?_
      refine seg ha 6 [(2, .pointer (some ⟨g3, 0, none⟩)), (3, .pointer (some ⟨g8, 0, none⟩)), (4, .slice ao45 t44.length cap45), (6, .int .i64 s52), (8, .int .i64 x58), (9, .int .i64 (0 : Int)), (10, .int .i64 (IntKind.i64.wrap ((IntKind.i64.wrap ((t44.length : Int) - (8 : Int))) + x58)))] (by kernel_rfl) fun a ha => ?_
      refine hK89 _ _ ?_; try clear hK89 K89
      refine wp_seq_k fun K90 hK90 => ?_
      refine wp_region_lit ?_
      refine seg ha 9 [(2, .pointer (some ⟨g3, 0, none⟩)), (3, .pointer (some ⟨g8, 0, none⟩)), (4, .slice ao45 t44.length cap45), (6, .int .i64 s52), (8, .int .i64 x58), (9, .int .i64 (0 : Int)), (10, .int .i64 (IntKind.i64.wrap ((IntKind.i64.wrap ((t44.length : Int) - (8 : Int))) + x58))), (86, .bool (if (decide ((IntKind.i64.wrap ((IntKind.i64.wrap ((t44.length : Int) - (8 : Int))) + x58)) > s52)) = true then (decide ((IntKind.i64.wrap ((IntKind.i64.wrap ((t44.length : Int) - (8 : Int))) + x58)) < (t44.length : Int))) else false))] (by kernel_rfl) fun a ha => ?_
      refine hK90 _ _ ?_; try clear hK90 K90
      refine cnd ha rfl (fun hc91 => ?_) (fun hc91 => ?_)
      ·have H := ite_t hc91 H
       refine wp_region_lit ?_
       refine seg ha 2 [(2, .pointer (some ⟨g3, 0, none⟩)), (3, .pointer (some ⟨g8, 0, none⟩)), (4, .slice ao45 t44.length cap45), (6, .int .i64 s52), (8, .int .i64 x58), (87, .slice ao45 t44.length cap45), (88, .int .i64 (IntKind.i64.wrap ((IntKind.i64.wrap ((t44.length : Int) - (8 : Int))) + x58)))] (by kernel_rfl) fun a ha => ?_
       obtain ⟨⟨hx92, hx92'⟩, H⟩ := ite_some H
       refine ix (r := rStr) ha (by kernel_rfl) (by kernel_rfl) rfl rfl rfl rfl rfl (Own.toRSl (M' := []) f45 (Ok.nil _ _) (fun _ _ h => nomatch h)) hx92 hx92' fun a ge93 oe94 cs95 hn98 hR96 hE97 ha => ?_
       rw [rd_get] at hR96
       obtain rfl := hR96
       have hE97 : ∀ j v, ([.string (bstr (rd t44 (IntKind.i64.wrap ((IntKind.i64.wrap ((t44.length : Int) - (8 : Int))) + x58))))] : List Value)[j]? = some v → w57.cell? ⟨ge93, oe94 + j, none⟩ = some v := hE97
       refine ld ha rfl (by kernel_rfl) rfl rfl rfl (hE97 0 (.string (bstr (rd t44 (IntKind.i64.wrap ((IntKind.i64.wrap ((t44.length : Int) - (8 : Int))) + x58))))) (by kernel_rfl)) fun a ha => ?_
       obtain ⟨t99, H99, H⟩ := bind_some H
       refine cl ha (by rfl) (by kernel_rfl) (by rfl) (by rfl) (by rfl) (vineryref02_Digits.walk w57 _ hM (rd t44 (IntKind.i64.wrap ((IntKind.i64.wrap ((t44.length : Int) - (8 : Int))) + x58))) (16 : Int) (4 : Int) k _ H99) ?_
       rintro _ w99 ⟨rfl, hc99, hMn⟩ a ha
       have o1 : Ok [] (blkL ao45 ++ ([g8] ++ ([g3] ++ (M)))) w57.heap.size := Ok.nil _ _
       have o2 : Ok (blkL ao45 ++ ([g8] ++ ([g3] ++ (M)))) (blkL ao45 ++ ([g8] ++ ([g3] ++ (M)))) w57.heap.size := (Ok.refl _ _)
       have f45 := f45.chg hc99 o1 o2 (fun _ _ h => nomatch h) (fun _ h => ml h)
       have hBg3 := hBg3.chg hc99 (fun h => nomatch h)
       have hBg8 := hBg8.chg hc99 (fun h => nomatch h)
       have hM : MS (blkL ao45 ++ ([g8] ++ ([g3] ++ (M)))) w99 := (hM.chg hc99)
       have hC := hC.trans hc99 (Ok.nil _ _)
       refine opk (v := .int .i64 (if t99 > (0 : Int) then t99 else (0 : Int))) ha rfl rfl rfl rfl rfl (fun w => by kernel_rfl) fun a ha => ?_
       refine seg ha 1 [(2, .pointer (some ⟨g3, 0, none⟩)), (3, .pointer (some ⟨g8, 0, none⟩)), (4, .slice ao45 t44.length cap45), (6, .int .i64 s52), (8, .int .i64 x58), (9, .int .i64 (if t99 > (0 : Int) then t99 else (0 : Int)))] (by kernel_rfl) fun a ha => ?_
       obtain rfl := Option.some.inj H
       exact J69 _ _ (ha.sel (by kernel_rfl)) f45 hBg3 hBg8 hC hM
      ·have H := ite_f hc91 H
       refine wp_skip ?_
       obtain rfl := Option.some.inj H
       exact J69 _ _ (ha.sel (by kernel_rfl)) f45 hBg3 hBg8 hC hM
    ·have H := ite_f hc65 H
     refine wp_exit ?_
     simp only [Exit.then, Exit.inBlock, ↓reduceIte, Nat.reduceEqDiff]
     obtain rfl := Option.some.inj H
     have hBg3 := hBg3.chg (Chg.refl [] _) (fun h => nomatch h)
     have hBg8 := hBg8.chg (Chg.refl [] _) (fun h => nomatch h)
     have hM : MS ([g8] ++ ([g3] ++ (M))) w57 := (fun x h => hM.chg (Chg.refl [] _) x (mr (h)))
     have hC := hC.trans (Chg.refl [] _) (Ok.nil _ _)
     exact J57 _ _ (ha.sel (by kernel_rfl)) hBg3 hBg8 hC hM
  have Hc52 := H
  have H := H52
  refine wp_loop_ghost (fun kk a w52 => ∃ (x53 : Int) (x54 : Int), vineryref02_rough.l1 t44 kk x53 x54 = some s52 ∧ Has a Tryd.f39.ntmps [(2, .pointer (some ⟨g3, 0, none⟩)), (3, .pointer (some ⟨g8, 0, none⟩)), (4, .slice ao45 t44.length cap45), (6, .int .i64 x53), (7, .int .i64 x54)] ∧ (Own rStr 9 w52 (blkL ao45 ++ ([g8] ++ ([g3] ++ (M)))) ao45 cap45 t44) ∧ (Box w52 g3 (cS_api_Addr (⟨(0 : Int), (List.replicate 16 (0 : Int))⟩ : S_api_Addr))) ∧ (Box w52 g8 (cS_api_Addr (⟨(16 : Int), (List.replicate 16 (0 : Int))⟩ : S_api_Addr))) ∧ (Chg [] w w52) ∧ (MS (blkL ao45 ++ ([g8] ++ ([g3] ++ (M)))) w52)) k ?_ ?_
  ·skip
   have o1 : Ok [] (blkL ao45 ++ (blkL ao13 ++ ([g8] ++ ([g3] ++ (M))))) w47.heap.size := Ok.nil _ _
   have o2 : Ok (blkL ao45 ++ ([g8] ++ ([g3] ++ (M)))) (blkL ao45 ++ (blkL ao13 ++ ([g8] ++ ([g3] ++ (M))))) w47.heap.size := (Ok.app (fun _ h => .inl (ml h)) (fun _ h => .inl (mr (mr (h)))))
   have f45 := f45.chg (Chg.refl [] _) o1 o2 (fun _ _ h => nomatch h) (fun _ h => ml h)
   have hBg3 := hBg3.chg (Chg.refl [] _) (fun h => nomatch h)
   have hBg8 := hBg8.chg (Chg.refl [] _) (fun h => nomatch h)
   have hM : MS (blkL ao45 ++ ([g8] ++ ([g3] ++ (M)))) w47 := (MS.app (fun x h => hM.chg (Chg.refl [] _) x (ml h)) (fun x h => hM.chg (Chg.refl [] _) x (mr (mr (h)))))
   have hC := hC.trans (Chg.refl [] _) (Ok.nil _ _)
   exact ⟨(-1 : Int), (1 : Int), H, (ha.sel (by kernel_rfl)), f45, hBg3, hBg8, hC, hM⟩
  ·rintro kk a w52 ⟨x53, x54, H, ha, f45, hBg3, hBg8, hC, hM⟩
   obtain _ | kk := kk
   ·exact nomatch (show none = some _ from H)
   rw [vineryref02_rough.l1] at H
   refine wp_seq_k fun K100 hK100 => ?_
   refine wp_seq_k fun K101 hK101 => ?_
   refine wp_region_lit ?_
   refine seg ha 9 [(2, .pointer (some ⟨g3, 0, none⟩)), (3, .pointer (some ⟨g8, 0, none⟩)), (4, .slice ao45 t44.length cap45), (6, .int .i64 x53), (7, .int .i64 x54), (43, .bool (if (decide (x54 < (IntKind.i64.wrap ((t44.length : Int) - (1 : Int))))) = true then (decide (x53 < (0 : Int))) else false))] (by kernel_rfl) fun a ha => ?_
   refine hK101 _ _ ?_; try clear hK101 K101
   refine cnd ha rfl (fun hc102 => ?_) (fun hc102 => ?_)
   ·have H := ite_t hc102 H
    refine wp_skip ?_
    refine hK100 _ _ ?_; try clear hK100 K100
    refine wp_seq_k fun K103 hK103 => ?_
    refine wp_block ?_
    refine wp_seq_k fun K104 hK104 => ?_
    refine wp_region_lit ?_
    refine seg ha 2 [(2, .pointer (some ⟨g3, 0, none⟩)), (3, .pointer (some ⟨g8, 0, none⟩)), (4, .slice ao45 t44.length cap45), (6, .int .i64 x53), (7, .int .i64 x54), (46, .slice ao45 t44.length cap45), (47, .int .i64 x54)] (by kernel_rfl) fun a ha => ?_
    obtain ⟨⟨hx105, hx105'⟩, H⟩ := ite_some H
    refine ix (r := rStr) ha (by kernel_rfl) (by kernel_rfl) rfl rfl rfl rfl rfl (Own.toRSl (M' := []) f45 (Ok.nil _ _) (fun _ _ h => nomatch h)) hx105 hx105' fun a ge106 oe107 cs108 hn111 hR109 hE110 ha => ?_
    rw [rd_get] at hR109
    obtain rfl := hR109
    have hE110 : ∀ j v, ([.string (bstr (rd t44 x54))] : List Value)[j]? = some v → w52.cell? ⟨ge106, oe107 + j, none⟩ = some v := hE110
    refine ld ha rfl (by kernel_rfl) rfl rfl rfl (hE110 0 (.string (bstr (rd t44 x54))) (by kernel_rfl)) fun a ha => ?_
    refine seg ha 1 [(2, .pointer (some ⟨g3, 0, none⟩)), (3, .pointer (some ⟨g8, 0, none⟩)), (4, .slice ao45 t44.length cap45), (6, .int .i64 x53), (7, .int .i64 x54), (50, .bool ((bstr (rd t44 x54)).toList == (bstr ([] : List UInt8)).toList))] (by kernel_rfl) fun a ha => ?_
    refine hK104 _ _ ?_; try clear hK104 K104
    refine cnd ha rfl (fun hc112 => ?_) (fun hc112 => ?_)
    ·have H := ite_t hc112 H
     refine wp_region_lit ?_
     refine seg ha 2 [(2, .pointer (some ⟨g3, 0, none⟩)), (3, .pointer (some ⟨g8, 0, none⟩)), (4, .slice ao45 t44.length cap45), (6, .int .i64 x54), (7, .int .i64 x54)] (by kernel_rfl) fun a ha => ?_
     refine hK103 _ _ ?_; try clear hK103 K103
     refine wp_region_lit ?_
     refine seg ha 3 [(2, .pointer (some ⟨g3, 0, none⟩)), (3, .pointer (some ⟨g8, 0, none⟩)), (4, .slice ao45 t44.length cap45), (6, .int .i64 x54), (7, .int .i64 (IntKind.i64.wrap (x54 + (1 : Int))))] (by kernel_rfl) fun a ha => ?_
     exact ⟨kk, Nat.lt_succ_self _, ⟨x54, IntKind.i64.wrap (x54 + (1 : Int)), H, (ha.sel (by kernel_rfl)), f45, hBg3, hBg8, hC, hM⟩⟩
    ·have H := ite_f hc112 H
     refine wp_skip ?_
     refine hK103 _ _ ?_; try clear hK103 K103
     refine wp_region_lit ?_
     refine seg ha 3 [(2, .pointer (some ⟨g3, 0, none⟩)), (3, .pointer (some ⟨g8, 0, none⟩)), (4, .slice ao45 t44.length cap45), (6, .int .i64 x53), (7, .int .i64 (IntKind.i64.wrap (x54 + (1 : Int))))] (by kernel_rfl) fun a ha => ?_
     exact ⟨kk, Nat.lt_succ_self _, ⟨x53, IntKind.i64.wrap (x54 + (1 : Int)), H, (ha.sel (by kernel_rfl)), f45, hBg3, hBg8, hC, hM⟩⟩
   ·have H := ite_f hc102 H
    refine wp_exit ?_
    simp only [Exit.then, Exit.inBlock, ↓reduceIte, Nat.reduceEqDiff]
    obtain rfl := Option.some.inj H
    exact J52 _ _ (ha.sel (by kernel_rfl)) f45 hBg3 hBg8 hC hM
def vineryref02_Number.f : Nat → Int → Int → Option (List UInt8)
  | 0, _, _ => none
  | k + 1, a0, a1 => (if (decide (a0 < a1)) = true then (if 0 ≤ a0 ∧ a0 ≤ (IntKind.i64.wrap (a0 + (1 : Int))) ∧ (IntKind.i64.wrap (a0 + (1 : Int))) ≤ (([48, 49, 50, 51, 52, 53, 54, 55, 56, 57, 97, 98, 99, 100, 101, 102] : List UInt8).length : Int) then some ((((([48, 49, 50, 51, 52, 53, 54, 55, 56, 57, 97, 98, 99, 100, 101, 102] : List UInt8).take (Int.toNat (IntKind.i64.wrap (a0 + (1 : Int))))).drop (Int.toNat a0)) : List UInt8)) else none) else (if a1 ≠ 0 then (vineryref02_Number.f k (IntKind.i64.wrap (Int.tdiv a0 a1)) a1).bind fun t10 => (if a1 ≠ 0 then (if a1 ≠ 0 then (if 0 ≤ (Int.tmod a0 a1) ∧ (Int.tmod a0 a1) ≤ (IntKind.i64.wrap ((Int.tmod a0 a1) + (1 : Int))) ∧ (IntKind.i64.wrap ((Int.tmod a0 a1) + (1 : Int))) ≤ (([48, 49, 50, 51, 52, 53, 54, 55, 56, 57, 97, 98, 99, 100, 101, 102] : List UInt8).length : Int) then (if (t10 ++ ((([48, 49, 50, 51, 52, 53, 54, 55, 56, 57, 97, 98, 99, 100, 101, 102] : List UInt8).take (Int.toNat (IntKind.i64.wrap ((Int.tmod a0 a1) + (1 : Int))))).drop (Int.toNat (Int.tmod a0 a1)))).length ≤ 9223372036854775807 then some ((t10 ++ ((([48, 49, 50, 51, 52, 53, 54, 55, 56, 57, 97, 98, 99, 100, 101, 102] : List UInt8).take (Int.toNat (IntKind.i64.wrap ((Int.tmod a0 a1) + (1 : Int))))).drop (Int.toNat (Int.tmod a0 a1))) : List UInt8)) else none) else none) else none) else none) else none))
set_option maxRecDepth 100000 in
theorem vineryref02_Number.walkr : ∀ (k : Nat) (w : World) (M : List Nat) (hM : MS M w) (a0 : Int) (a1 : Int) (r : List UInt8) (H : vineryref02_Number.f k a0 a1 = some r),
    To Tryd.prog 44 [.int .i64 a0, .int .i64 a1] w fun v w' => v = .string (bstr r) ∧ Chg [] w w' ∧ MS (M) w'
  | 0, w, M, hM, a0, a1, r, H => nomatch (show none = some _ from H)
  | k + 1, w, M, hM, a0, a1, r, H => by
     rw [vineryref02_Number.f] at H
     refine ent Tryd.func44 rfl [(0, .int .i64 a0), (1, .int .i64 a1)] rfl (by rfl) fun a ha => ?_
     have hC : Chg [] w w := Chg.refl _ _
     refine wp_seq_k fun K1 hK1 => ?_
     refine wp_region_lit ?_
     refine seg ha 1 [(0, .int .i64 a0), (1, .int .i64 a1)] (by kernel_rfl) fun a ha => ?_
     refine hK1 _ _ ?_; try clear hK1 K1
     refine wp_seq_k fun K2 hK2 => ?_
     refine wp_region_lit ?_
     refine seg ha 1 [(0, .int .i64 a0), (1, .int .i64 a1), (5, .string (bstr ([48, 49, 50, 51, 52, 53, 54, 55, 56, 57, 97, 98, 99, 100, 101, 102] : List UInt8)))] (by kernel_rfl) fun a ha => ?_
     refine hK2 _ _ ?_; try clear hK2 K2
     refine wp_seq_k fun K3 hK3 => ?_
     refine wp_seq_k fun K4 hK4 => ?_
     refine wp_region_lit ?_
     refine seg ha 3 [(0, .int .i64 a0), (1, .int .i64 a1), (5, .string (bstr ([48, 49, 50, 51, 52, 53, 54, 55, 56, 57, 97, 98, 99, 100, 101, 102] : List UInt8))), (8, .bool (decide (a0 < a1)))] (by kernel_rfl) fun a ha => ?_
     refine hK4 _ _ ?_; try clear hK4 K4
     refine cnd ha rfl (fun hc5 => ?_) (fun hc5 => ?_)
     ·have H := ite_t hc5 H
      refine wp_seq_k fun K6 hK6 => ?_
      refine wp_region_lit ?_
      refine seg ha 4 [(9, .string (bstr ([48, 49, 50, 51, 52, 53, 54, 55, 56, 57, 97, 98, 99, 100, 101, 102] : List UInt8))), (10, .int .i64 a0), (12, .int .i64 (IntKind.i64.wrap (a0 + (1 : Int))))] (by kernel_rfl) fun a ha => ?_
      obtain ⟨⟨hx7, hx7', hx7''⟩, H⟩ := ite_some H
      refine hop (v := .string (bstr ((([48, 49, 50, 51, 52, 53, 54, 55, 56, 57, 97, 98, 99, 100, 101, 102] : List UInt8).take (Int.toNat (IntKind.i64.wrap (a0 + (1 : Int))))).drop (Int.toNat a0)))) (w' := w) ha rfl rfl rfl (ssl_run (s := ([48, 49, 50, 51, 52, 53, 54, 55, 56, 57, 97, 98, 99, 100, 101, 102] : List UInt8)) (l := a0) (h := (IntKind.i64.wrap (a0 + (1 : Int)))) ha (by kernel_rfl) (by rfl) (by rfl) (by rfl) hx7 hx7' hx7'' _) fun a ha => ?_
      refine seg ha 1 [(4, .string (bstr ((([48, 49, 50, 51, 52, 53, 54, 55, 56, 57, 97, 98, 99, 100, 101, 102] : List UInt8).take (Int.toNat (IntKind.i64.wrap (a0 + (1 : Int))))).drop (Int.toNat a0))))] (by kernel_rfl) fun a ha => ?_
      refine hK6 _ _ ?_; try clear hK6 K6
      refine wp_ret ?_
      try simp only [Exit.then, Exit.inBlock]
      obtain rfl := Option.some.inj H
      refine rt1 ha rfl rfl ?_
      exact ⟨rfl, hC, hM⟩
     ·have H := ite_f hc5 H
      refine wp_skip ?_
      refine hK3 _ _ ?_; try clear hK3 K3
      refine wp_seq_k fun K8 hK8 => ?_
      refine drq0 (fun w' => Chg [] w w') (by kernel_rfl) (by kernel_rfl) (fun _ h => h) ?_
      refine qp 0 (.int .i64 a0) ha rfl rfl rfl (by kernel_rfl) fun a ha => ?_
      refine qp 0 (.int .i64 a1) ha rfl rfl rfl (by kernel_rfl) fun a ha => ?_
      obtain ⟨hx9, H⟩ := ite_some H
      refine qv (v := .int .i64 (IntKind.i64.wrap (Int.tdiv a0 a1))) ha rfl rfl rfl (fun w' hs => quo_run ha (by rfl) (by rfl) hx9 w') fun a ha => ?_
      refine qp 0 (.int .i64 a1) ha rfl rfl rfl (by kernel_rfl) fun a ha => ?_
      obtain ⟨t10, H10, H⟩ := bind_some H
      refine qc (.string (bstr t10)) ha (by rfl) (by kernel_rfl) (by rfl) (by rfl) (by rfl) (fun w' hs => (vineryref02_Number.walkr k w' [] (MS.nil _) (IntKind.i64.wrap (Int.tdiv a0 a1)) a1 _ H10).mono fun v w'' ⟨hv, hc, _⟩ => ⟨hv, hs.trans hc (Ok.nil _ _)⟩) fun a ha => ?_
      refine qp 0 (.string (bstr ([48, 49, 50, 51, 52, 53, 54, 55, 56, 57, 97, 98, 99, 100, 101, 102] : List UInt8))) ha rfl rfl rfl (by kernel_rfl) fun a ha => ?_
      refine qp 0 (.int .i64 a0) ha rfl rfl rfl (by kernel_rfl) fun a ha => ?_
      refine qp 0 (.int .i64 a1) ha rfl rfl rfl (by kernel_rfl) fun a ha => ?_
      obtain ⟨hx11, H⟩ := ite_some H
      refine qv (v := .int .i64 (Int.tmod a0 a1)) ha rfl rfl rfl (fun w' hs => rem_run ha (by rfl) (by rfl) hx11 w') fun a ha => ?_
      refine qp 0 (.int .i64 a0) ha rfl rfl rfl (by kernel_rfl) fun a ha => ?_
      refine qp 0 (.int .i64 a1) ha rfl rfl rfl (by kernel_rfl) fun a ha => ?_
      obtain ⟨hx12, H⟩ := ite_some H
      refine qv (v := .int .i64 (Int.tmod a0 a1)) ha rfl rfl rfl (fun w' hs => rem_run ha (by rfl) (by rfl) hx12 w') fun a ha => ?_
      refine qp 0 (.int .i64 (IntKind.i64.wrap ((Int.tmod a0 a1) + (1 : Int)))) ha rfl rfl rfl (by kernel_rfl) fun a ha => ?_
      obtain ⟨⟨hx13, hx13', hx13''⟩, H⟩ := ite_some H
      refine qv (v := .string (bstr ((([48, 49, 50, 51, 52, 53, 54, 55, 56, 57, 97, 98, 99, 100, 101, 102] : List UInt8).take (Int.toNat (IntKind.i64.wrap ((Int.tmod a0 a1) + (1 : Int))))).drop (Int.toNat (Int.tmod a0 a1))))) ha rfl rfl rfl (fun w' hs => ssl_run (s := ([48, 49, 50, 51, 52, 53, 54, 55, 56, 57, 97, 98, 99, 100, 101, 102] : List UInt8)) (l := (Int.tmod a0 a1)) (h := (IntKind.i64.wrap ((Int.tmod a0 a1) + (1 : Int)))) ha (by kernel_rfl) (by rfl) (by rfl) (by rfl) hx13 hx13' hx13'' w') fun a ha => ?_
      obtain ⟨hx14, H⟩ := ite_some H
      refine qv (v := .string (bstr (t10 ++ ((([48, 49, 50, 51, 52, 53, 54, 55, 56, 57, 97, 98, 99, 100, 101, 102] : List UInt8).take (Int.toNat (IntKind.i64.wrap ((Int.tmod a0 a1) + (1 : Int))))).drop (Int.toNat (Int.tmod a0 a1)))))) ha rfl rfl rfl (fun w' hs => sadd_run ha rfl rfl hx14 w') fun a ha => ?_
      refine qp 0 (.string (bstr (t10 ++ ((([48, 49, 50, 51, 52, 53, 54, 55, 56, 57, 97, 98, 99, 100, 101, 102] : List UInt8).take (Int.toNat (IntKind.i64.wrap ((Int.tmod a0 a1) + (1 : Int))))).drop (Int.toNat (Int.tmod a0 a1)))))) ha rfl rfl rfl (by kernel_rfl) fun a ha => ?_
      refine wpQuiet_nil ?_
      intro w15 hc16
      have hM : MS (M) w15 := (hM.chg hc16)
      have hC := hC.trans hc16 (Ok.nil _ _)
      refine wpl_end ?_
      refine hK8 _ _ ?_; try clear hK8 K8
      refine wp_ret ?_
      try simp only [Exit.then, Exit.inBlock]
      obtain rfl := Option.some.inj H
      refine rt1 ha rfl rfl ?_
      exact ⟨rfl, hC, hM⟩
theorem vineryref02_Number.walk (w : World) (M : List Nat) (hM : MS M w) (a0 : Int) (a1 : Int) (k : Nat) (r : List UInt8) (H : vineryref02_Number.f k a0 a1 = some r) :
    To Tryd.prog 44 [.int .i64 a0, .int .i64 a1] w fun v w' => v = .string (bstr r) ∧ Chg [] w w' ∧ MS (M) w' := vineryref02_Number.walkr k w M hM a0 a1 r H
def vineryref02_six.l2 (k : Nat) (s10 : (List Int)) (s19 : Int × Int) : Nat → (List UInt8) → Int → Option (List UInt8)
  | 0, _, _ => none
  | kk + 1, x27, x28 => (if (decide (x28 < (8 : Int))) = true then (if (if (decide (s19.2 > (1 : Int))) = true then (x28 == s19.1) else false) = true then (if (x27 ++ ([58, 58] : List UInt8)).length ≤ 9223372036854775807 then vineryref02_six.l2 k s10 s19 kk (x27 ++ ([58, 58] : List UInt8)) (IntKind.i64.wrap ((IntKind.i64.wrap ((IntKind.i64.wrap (x28 + s19.2)) - (1 : Int))) + (1 : Int))) else none) else (((if (!((bstr x27).toList == (bstr ([] : List UInt8)).toList)) = true then (if 0 ≤ (IntKind.i64.wrap (((bstr x27).size : Int) - (1 : Int))) ∧ (IntKind.i64.wrap (((bstr x27).size : Int) - (1 : Int))) < (x27.length : Int) then some (((x27.getD (Int.toNat (IntKind.i64.wrap (((bstr x27).size : Int) - (1 : Int)))) 0).toNat : Int) != (58 : Int) : Bool) else none) else some (false : Bool))).bind fun s52 => (if s52 = true then (if (x27 ++ ([58] : List UInt8)).length ≤ 9223372036854775807 then some (x27 ++ ([58] : List UInt8) : List UInt8) else none) else some (x27 : List UInt8))).bind fun s41 => (if 0 ≤ x28 ∧ x28 < (s10.length : Int) then (vineryref02_Number.f k (rd s10 x28) (16 : Int)).bind fun t49 => (if (s41 ++ t49).length ≤ 9223372036854775807 then vineryref02_six.l2 k s10 s19 kk (s41 ++ t49) (IntKind.i64.wrap (x28 + (1 : Int))) else none) else none)) else some (x27 : List UInt8))
def vineryref02_six.l3 (s10 : (List Int)) : Nat → Int → Option (Int)
  | 0, _ => none
  | kk + 1, x64 => ((if (decide (x64 < (8 : Int))) = true then (if 0 ≤ x64 ∧ x64 < (s10.length : Int) then some ((rd s10 x64) == (0 : Int) : Bool) else none) else some (false : Bool))).bind fun s70 => (if s70 = true then vineryref02_six.l3 s10 kk (IntKind.i64.wrap (x64 + (1 : Int))) else some (x64 : Int))
def vineryref02_six.l1 (k : Nat) (s10 : (List Int)) : Nat → Int → Int → Int → Option (Int × Int)
  | 0, _, _, _ => none
  | kk + 1, x20, x21, x22 => (if (decide (x22 < (8 : Int))) = true then (vineryref02_six.l3 s10 k x22).bind fun s63 => (if (decide ((IntKind.i64.wrap (s63 - x22)) > x21)) = true then vineryref02_six.l1 k s10 kk x22 (IntKind.i64.wrap (s63 - x22)) (IntKind.i64.wrap (x22 + (1 : Int))) else vineryref02_six.l1 k s10 kk x20 x21 (IntKind.i64.wrap (x22 + (1 : Int)))) else some ((x20 : Int), (x21 : Int)))
def vineryref02_six.l0 (a0 : S_api_Addr) : Nat → (List Int) → Int → Option (List Int)
  | 0, _, _ => none
  | kk + 1, x12, x13 => (if (decide (x13 < (16 : Int))) = true then (if 0 ≤ x13 ∧ x13 < (16 : Int) then (if 0 ≤ (IntKind.i64.wrap (x13 + (1 : Int))) ∧ (IntKind.i64.wrap (x13 + (1 : Int))) < (16 : Int) then (if (x12.length + ([IntKind.i64.wrap ((IntKind.i64.wrap ((IntKind.i64.wrap (ar a0.B (Int.toNat x13))) * (256 : Int))) + (IntKind.i64.wrap (ar a0.B (Int.toNat (IntKind.i64.wrap (x13 + (1 : Int)))))))] : List Int).length) * 8 ≤ 140737488355328 then vineryref02_six.l0 a0 kk (x12 ++ ([IntKind.i64.wrap ((IntKind.i64.wrap ((IntKind.i64.wrap (ar a0.B (Int.toNat x13))) * (256 : Int))) + (IntKind.i64.wrap (ar a0.B (Int.toNat (IntKind.i64.wrap (x13 + (1 : Int)))))))] : List Int)) (IntKind.i64.wrap (x13 + (2 : Int))) else none) else none) else none) else some (x12 : List Int))
def vineryref02_six.f (k : Nat) (a0 : S_api_Addr) : Option (List UInt8) := (vineryref02_six.l0 a0 k ([] : List Int) (0 : Int)).bind fun s10 => (vineryref02_six.l1 k s10 k (0 : Int) (0 : Int) (0 : Int)).bind fun s19 => (vineryref02_six.l2 k s10 s19 k ([] : List UInt8) (0 : Int)).bind fun s26 => some ((s26 : List UInt8))
set_option maxRecDepth 100000 in
theorem vineryref02_six.walk (w : World) (M : List Nat) (hM : MS M w) (a0 : S_api_Addr) (k : Nat) (r : List UInt8) (H : vineryref02_six.f k a0 = some r) :
    To Tryd.prog 43 [.agg (cS_api_Addr a0).toArray] w fun v w' => v = .string (bstr r) ∧ Chg [] w w' ∧ MS (M) w' := by
 unfold vineryref02_six.f at H
 refine ent Tryd.func43 rfl [(0, .agg (cS_api_Addr a0).toArray)] rfl (by rfl) fun a ha => ?_
 have hC : Chg [] w w := Chg.refl _ _
 refine wp_seq_k fun K1 hK1 => ?_
 refine wp_region_lit ?_
 refine bx (cs := (cS_api_Addr a0)) ha rfl rfl rfl rfl rfl fun a w2 g3 hN4 ha => ?_
 have hn6 := hN4.notin hM
 have hM : MS (M) w2 := (hM.chg hN4.chg)
 have hC := hC.trans hN4.chg (Ok.nil _ _)
 have hE5 : ∀ j v, (cS_api_Addr a0)[j]? = some v → w2.cell? ⟨g3, 0 + j, none⟩ = some v := Box.cells (New.box hN4)
 refine seg ha 1 [(1, .pointer (some ⟨g3, 0, none⟩))] (by kernel_rfl) fun a ha => ?_
 refine hK1 _ _ ?_; try clear hK1 K1
 refine wp_seq_k fun K7 hK7 => ?_
 refine wp_region_lit ?_
 refine seg ha 1 [(1, .pointer (some ⟨g3, 0, none⟩)), (3, .slice none 0 0)] (by kernel_rfl) fun a ha => ?_
 refine hK7 _ _ ?_; try clear hK7 K7
 refine wp_seq_k fun K8 hK8 => ?_
 refine wp_seq_k fun K9 hK9 => ?_
 refine wp_region_lit ?_
 refine seg ha 1 [(1, .pointer (some ⟨g3, 0, none⟩)), (3, .slice none 0 0), (4, .int .i64 (0 : Int))] (by kernel_rfl) fun a ha => ?_
 refine hK9 _ _ ?_; try clear hK9 K9
 refine wp_block ?_
 obtain ⟨s10, H10, H⟩ := bind_some H
 have J10 : ∀ (a : Act) (wx10 : World) (ao14 : Option Addr) (cap14 : Nat), Has a Tryd.f43.ntmps [(3, .slice ao14 s10.length cap14)] → (Own (rInt .i64) 3 wx10 (blkL ao14 ++ (M)) ao14 cap14 s10) → (∀ x ∈ blkL ao14, w.heap.size ≤ x) → (∀ x ∈ blkL ao14, x ∉ M) → (Chg [] w wx10) → (MS (blkL ao14 ++ (M)) wx10) → K8 a wx10 := by
  intro a wx10 ao14 cap14 ha f14 e_i14 p_i14_M hC hM
  refine hK8 _ _ ?_; try clear hK8 K8
  refine wp_seq_k fun K15 hK15 => ?_
  refine wp_region_lit ?_
  refine seg ha 1 [(3, .slice ao14 s10.length cap14), (5, .int .i64 (0 : Int))] (by kernel_rfl) fun a ha => ?_
  refine hK15 _ _ ?_; try clear hK15 K15
  refine wp_seq_k fun K16 hK16 => ?_
  refine wp_region_lit ?_
  refine seg ha 1 [(3, .slice ao14 s10.length cap14), (5, .int .i64 (0 : Int)), (6, .int .i64 (0 : Int))] (by kernel_rfl) fun a ha => ?_
  refine hK16 _ _ ?_; try clear hK16 K16
  refine wp_seq_k fun K17 hK17 => ?_
  refine wp_seq_k fun K18 hK18 => ?_
  refine wp_region_lit ?_
  refine seg ha 1 [(3, .slice ao14 s10.length cap14), (5, .int .i64 (0 : Int)), (6, .int .i64 (0 : Int)), (7, .int .i64 (0 : Int))] (by kernel_rfl) fun a ha => ?_
  refine hK18 _ _ ?_; try clear hK18 K18
  refine wp_block ?_
  obtain ⟨s19, H19, H⟩ := bind_some H
  have J19 : ∀ (a : Act) (wx19 : World), Has a Tryd.f43.ntmps [(3, .slice ao14 s10.length cap14), (5, .int .i64 s19.1), (6, .int .i64 s19.2)] → (Own (rInt .i64) 3 wx19 (blkL ao14 ++ (M)) ao14 cap14 s10) → (Chg [] w wx19) → (MS (blkL ao14 ++ (M)) wx19) → K17 a wx19 := by
   intro a wx19 ha f14 hC hM
   refine hK17 _ _ ?_; try clear hK17 K17
   refine wp_seq_k fun K23 hK23 => ?_
   refine wp_region_lit ?_
   refine seg ha 1 [(3, .slice ao14 s10.length cap14), (5, .int .i64 s19.1), (6, .int .i64 s19.2), (9, .string (bstr ([] : List UInt8)))] (by kernel_rfl) fun a ha => ?_
   refine hK23 _ _ ?_; try clear hK23 K23
   refine wp_seq_k fun K24 hK24 => ?_
   refine wp_seq_k fun K25 hK25 => ?_
   refine wp_region_lit ?_
   refine seg ha 1 [(3, .slice ao14 s10.length cap14), (5, .int .i64 s19.1), (6, .int .i64 s19.2), (9, .string (bstr ([] : List UInt8))), (10, .int .i64 (0 : Int))] (by kernel_rfl) fun a ha => ?_
   refine hK25 _ _ ?_; try clear hK25 K25
   refine wp_block ?_
   obtain ⟨s26, H26, H⟩ := bind_some H
   have J26 : ∀ (a : Act) (wx26 : World), Has a Tryd.f43.ntmps [(9, .string (bstr s26))] → (Chg [] w wx26) → (MS (M) wx26) → K24 a wx26 := by
    intro a wx26 ha hC hM
    refine hK24 _ _ ?_; try clear hK24 K24
    refine wp_seq_k fun K29 hK29 => ?_
    refine wp_region_lit ?_
    refine seg ha 2 [(2, .string (bstr s26))] (by kernel_rfl) fun a ha => ?_
    refine hK29 _ _ ?_; try clear hK29 K29
    refine wp_ret ?_
    try simp only [Exit.then, Exit.inBlock]
    obtain rfl := Option.some.inj H
    refine rt1 ha rfl rfl ?_
    exact ⟨rfl, hC, hM⟩
   have Hc26 := H
   have H := H26
   refine wp_loop_ghost (fun kk a w26 => ∃ (x27 : List UInt8) (x28 : Int), vineryref02_six.l2 k s10 s19 kk x27 x28 = some s26 ∧ Has a Tryd.f43.ntmps [(3, .slice ao14 s10.length cap14), (5, .int .i64 s19.1), (6, .int .i64 s19.2), (9, .string (bstr x27)), (10, .int .i64 x28)] ∧ (Own (rInt .i64) 3 w26 (blkL ao14 ++ (M)) ao14 cap14 s10) ∧ (Chg [] w w26) ∧ (MS (blkL ao14 ++ (M)) w26)) k ?_ ?_
   ·skip
    exact ⟨([] : List UInt8), (0 : Int), H, (ha.sel (by kernel_rfl)), f14, hC, hM⟩
   ·rintro kk a w26 ⟨x27, x28, H, ha, f14, hC, hM⟩
    obtain _ | kk := kk
    ·exact nomatch (show none = some _ from H)
    rw [vineryref02_six.l2] at H
    refine wp_seq_k fun K30 hK30 => ?_
    refine wp_seq_k fun K31 hK31 => ?_
    refine wp_region_lit ?_
    refine seg ha 2 [(3, .slice ao14 s10.length cap14), (5, .int .i64 s19.1), (6, .int .i64 s19.2), (9, .string (bstr x27)), (10, .int .i64 x28), (57, .bool (decide (x28 < (8 : Int))))] (by kernel_rfl) fun a ha => ?_
    refine hK31 _ _ ?_; try clear hK31 K31
    refine cnd ha rfl (fun hc32 => ?_) (fun hc32 => ?_)
    ·have H := ite_t hc32 H
     refine wp_skip ?_
     refine hK30 _ _ ?_; try clear hK30 K30
     refine wp_seq_k fun K33 hK33 => ?_
     refine wp_block ?_
     refine wp_seq_k fun K34 hK34 => ?_
     refine wp_seq_k fun K35 hK35 => ?_
     refine wp_region_lit ?_
     refine seg ha 7 [(3, .slice ao14 s10.length cap14), (5, .int .i64 s19.1), (6, .int .i64 s19.2), (9, .string (bstr x27)), (10, .int .i64 x28), (66, .bool (if (decide (s19.2 > (1 : Int))) = true then (x28 == s19.1) else false))] (by kernel_rfl) fun a ha => ?_
     refine hK35 _ _ ?_; try clear hK35 K35
     refine cnd ha rfl (fun hc36 => ?_) (fun hc36 => ?_)
     ·have H := ite_t hc36 H
      refine wp_seq_k fun K37 hK37 => ?_
      refine wp_region_lit ?_
      refine seg ha 1 [(3, .slice ao14 s10.length cap14), (5, .int .i64 s19.1), (6, .int .i64 s19.2), (10, .int .i64 x28), (67, .string (bstr x27))] (by kernel_rfl) fun a ha => ?_
      obtain ⟨hx38, H⟩ := ite_some H
      refine sadd ha rfl rfl rfl rfl rfl hx38 fun a ha => ?_
      refine seg ha 1 [(3, .slice ao14 s10.length cap14), (5, .int .i64 s19.1), (6, .int .i64 s19.2), (9, .string (bstr (x27 ++ ([58, 58] : List UInt8)))), (10, .int .i64 x28)] (by kernel_rfl) fun a ha => ?_
      refine hK37 _ _ ?_; try clear hK37 K37
      refine wp_seq_k fun K39 hK39 => ?_
      refine wp_region_lit ?_
      refine seg ha 5 [(3, .slice ao14 s10.length cap14), (5, .int .i64 s19.1), (6, .int .i64 s19.2), (9, .string (bstr (x27 ++ ([58, 58] : List UInt8)))), (10, .int .i64 (IntKind.i64.wrap ((IntKind.i64.wrap (x28 + s19.2)) - (1 : Int))))] (by kernel_rfl) fun a ha => ?_
      refine hK39 _ _ ?_; try clear hK39 K39
      refine wp_exit ?_
      simp only [Exit.then, Exit.inBlock, ↓reduceIte, Nat.reduceEqDiff]
      refine hK33 _ _ ?_; try clear hK33 K33
      refine wp_region_lit ?_
      refine seg ha 3 [(3, .slice ao14 s10.length cap14), (5, .int .i64 s19.1), (6, .int .i64 s19.2), (9, .string (bstr (x27 ++ ([58, 58] : List UInt8)))), (10, .int .i64 (IntKind.i64.wrap ((IntKind.i64.wrap ((IntKind.i64.wrap (x28 + s19.2)) - (1 : Int))) + (1 : Int))))] (by kernel_rfl) fun a ha => ?_
      exact ⟨kk, Nat.lt_succ_self _, ⟨x27 ++ ([58, 58] : List UInt8), IntKind.i64.wrap ((IntKind.i64.wrap ((IntKind.i64.wrap (x28 + s19.2)) - (1 : Int))) + (1 : Int)), H, (ha.sel (by kernel_rfl)), f14, hC, hM⟩⟩
     ·have H := ite_f hc36 H
      refine wp_skip ?_
      refine hK34 _ _ ?_; try clear hK34 K34
      refine wp_seq_k fun K40 hK40 => ?_
      obtain ⟨s41, H41, H⟩ := bind_some H
      have J41 : ∀ (a : Act) (w41 : World), Has a Tryd.f43.ntmps [(3, .slice ao14 s10.length cap14), (5, .int .i64 s19.1), (6, .int .i64 s19.2), (9, .string (bstr s41)), (10, .int .i64 x28)] → (Own (rInt .i64) 3 w41 (blkL ao14 ++ (M)) ao14 cap14 s10) → (Chg [] w w41) → (MS (blkL ao14 ++ (M)) w41) → K40 a w41 := by
       intro a w41 ha f14 hC hM
       refine hK40 _ _ ?_; try clear hK40 K40
       refine wp_region_lit ?_
       refine seg ha 3 [(3, .slice ao14 s10.length cap14), (5, .int .i64 s19.1), (6, .int .i64 s19.2), (10, .int .i64 x28), (85, .string (bstr s41)), (86, .slice ao14 s10.length cap14), (87, .int .i64 x28)] (by kernel_rfl) fun a ha => ?_
       obtain ⟨⟨hx42, hx42'⟩, H⟩ := ite_some H
       refine ix (r := (rInt .i64)) ha (by kernel_rfl) (by kernel_rfl) rfl rfl rfl rfl rfl (Own.toRSl (M' := []) f14 (Ok.nil _ _) (fun _ _ h => nomatch h)) hx42 hx42' fun a ge43 oe44 cs45 hn48 hR46 hE47 ha => ?_
       rw [rd_get] at hR46
       obtain rfl := hR46
       have hE47 : ∀ j v, ([.int .i64 (rd s10 x28)] : List Value)[j]? = some v → w41.cell? ⟨ge43, oe44 + j, none⟩ = some v := hE47
       refine ld ha rfl (by kernel_rfl) rfl rfl rfl (hE47 0 (.int .i64 (rd s10 x28)) (by kernel_rfl)) fun a ha => ?_
       obtain ⟨t49, H49, H⟩ := bind_some H
       refine cl ha (by rfl) (by kernel_rfl) (by rfl) (by rfl) (by rfl) (vineryref02_Number.walk w41 _ hM (rd s10 x28) (16 : Int) k _ H49) ?_
       rintro _ w49 ⟨rfl, hc49, hMn⟩ a ha
       have o1 : Ok [] (blkL ao14 ++ (M)) w41.heap.size := Ok.nil _ _
       have o2 : Ok (blkL ao14 ++ (M)) (blkL ao14 ++ (M)) w41.heap.size := (Ok.refl _ _)
       have f14 := f14.chg hc49 o1 o2 (fun _ _ h => nomatch h) (fun _ h => ml h)
       have hM : MS (blkL ao14 ++ (M)) w49 := (hM.chg hc49)
       have hC := hC.trans hc49 (Ok.nil _ _)
       obtain ⟨hx50, H⟩ := ite_some H
       refine sadd ha rfl rfl rfl rfl rfl hx50 fun a ha => ?_
       refine seg ha 1 [(3, .slice ao14 s10.length cap14), (5, .int .i64 s19.1), (6, .int .i64 s19.2), (9, .string (bstr (s41 ++ t49))), (10, .int .i64 x28)] (by kernel_rfl) fun a ha => ?_
       refine hK33 _ _ ?_; try clear hK33 K33
       refine wp_region_lit ?_
       refine seg ha 3 [(3, .slice ao14 s10.length cap14), (5, .int .i64 s19.1), (6, .int .i64 s19.2), (9, .string (bstr (s41 ++ t49))), (10, .int .i64 (IntKind.i64.wrap (x28 + (1 : Int))))] (by kernel_rfl) fun a ha => ?_
       exact ⟨kk, Nat.lt_succ_self _, ⟨s41 ++ t49, IntKind.i64.wrap (x28 + (1 : Int)), H, (ha.sel (by kernel_rfl)), f14, hC, hM⟩⟩
      have H := H41
      refine wp_seq_k fun K51 hK51 => ?_
      refine wp_region_lit ?_
      obtain ⟨s52, H52, H⟩ := bind_some H
      have J52 : ∀ (a : Act) (w52 : World), Has a Tryd.f43.ntmps [(3, .slice ao14 s10.length cap14), (5, .int .i64 s19.1), (6, .int .i64 s19.2), (9, .string (bstr x27)), (10, .int .i64 x28), (82, .bool s52)] → (Own (rInt .i64) 3 w52 (blkL ao14 ++ (M)) ao14 cap14 s10) → (Chg [] w w52) → (MS (blkL ao14 ++ (M)) w52) → K51 a w52 := by
       intro a w52 ha f14 hC hM
       refine hK51 _ _ ?_; try clear hK51 K51
       refine cnd ha rfl (fun hc53 => ?_) (fun hc53 => ?_)
       ·have H := ite_t hc53 H
        refine wp_region_lit ?_
        refine seg ha 1 [(3, .slice ao14 s10.length cap14), (5, .int .i64 s19.1), (6, .int .i64 s19.2), (10, .int .i64 x28), (83, .string (bstr x27))] (by kernel_rfl) fun a ha => ?_
        obtain ⟨hx54, H⟩ := ite_some H
        refine sadd ha rfl rfl rfl rfl rfl hx54 fun a ha => ?_
        refine seg ha 1 [(3, .slice ao14 s10.length cap14), (5, .int .i64 s19.1), (6, .int .i64 s19.2), (9, .string (bstr (x27 ++ ([58] : List UInt8)))), (10, .int .i64 x28)] (by kernel_rfl) fun a ha => ?_
        obtain rfl := Option.some.inj H
        exact J41 _ _ (ha.sel (by kernel_rfl)) f14 hC hM
       ·have H := ite_f hc53 H
        refine wp_skip ?_
        obtain rfl := Option.some.inj H
        exact J41 _ _ (ha.sel (by kernel_rfl)) f14 hC hM
      have H := H52
      refine seg ha 3 [(75, .bool (!((bstr x27).toList == (bstr ([] : List UInt8)).toList))), (3, .slice ao14 s10.length cap14), (5, .int .i64 s19.1), (6, .int .i64 s19.2), (9, .string (bstr x27)), (10, .int .i64 x28)] (by kernel_rfl) fun a ha => ?_
      rcases Bool.eq_false_or_eq_true (!((bstr x27).toList == (bstr ([] : List UInt8)).toList)) with hb55 | hb55
      ·have ha := ha.lit hb55
       have H := ite_t hb55 H
       refine sgh ha 4 [2, 2, 2, 2] [(3, .slice ao14 s10.length cap14), (5, .int .i64 s19.1), (6, .int .i64 s19.2), (9, .string (bstr x27)), (10, .int .i64 x28), (75, .bool true), (76, .string (bstr x27)), (79, .int .i64 (IntKind.i64.wrap (((bstr x27).size : Int) - (1 : Int))))] (by kernel_rfl) fun a ha => ?_
       obtain ⟨⟨hx56, hx56'⟩, H⟩ := ite_some H
       refine hop (v := .int .u8 ((x27.getD (Int.toNat (IntKind.i64.wrap (((bstr x27).size : Int) - (1 : Int)))) 0).toNat : Int)) (w' := w26) ha rfl rfl rfl (sidx_run (l := x27) (k := .i64) (i := IntKind.i64.wrap (((bstr x27).size : Int) - (1 : Int))) ha (by kernel_rfl) (by rfl) (by rfl) hx56 hx56' _) fun a ha => ?_
       refine sgh ha 2 [2, 3] [(3, .slice ao14 s10.length cap14), (5, .int .i64 s19.1), (6, .int .i64 s19.2), (9, .string (bstr x27)), (10, .int .i64 x28), (82, .bool (((x27.getD (Int.toNat (IntKind.i64.wrap (((bstr x27).size : Int) - (1 : Int)))) 0).toNat : Int) != (58 : Int)))] (by kernel_rfl) fun a ha => ?_
       obtain rfl := Option.some.inj H
       exact J52 _ _ (ha.sel (by kernel_rfl)) f14 hC hM
      ·have ha := ha.lit hb55
       have H := ite_f hb55 H
       refine sgh ha 7 [1, 1, 1, 1, 1, 1, 4] [(3, .slice ao14 s10.length cap14), (5, .int .i64 s19.1), (6, .int .i64 s19.2), (9, .string (bstr x27)), (10, .int .i64 x28), (82, .bool false)] (by kernel_rfl) fun a ha => ?_
       obtain rfl := Option.some.inj H
       exact J52 _ _ (ha.sel (by kernel_rfl)) f14 hC hM
    ·have H := ite_f hc32 H
     refine wp_exit ?_
     simp only [Exit.then, Exit.inBlock, ↓reduceIte, Nat.reduceEqDiff]
     obtain rfl := Option.some.inj H
     have hM : MS (M) w26 := (fun x h => hM.chg (Chg.refl [] _) x (mr (h)))
     have hC := hC.trans (Chg.refl [] _) (Ok.nil _ _)
     exact J26 _ _ (ha.sel (by kernel_rfl)) hC hM
  have Hc19 := H
  have H := H19
  refine wp_loop_ghost (fun kk a w19 => ∃ (x20 : Int) (x21 : Int) (x22 : Int), vineryref02_six.l1 k s10 kk x20 x21 x22 = some s19 ∧ Has a Tryd.f43.ntmps [(3, .slice ao14 s10.length cap14), (5, .int .i64 x20), (6, .int .i64 x21), (7, .int .i64 x22)] ∧ (Own (rInt .i64) 3 w19 (blkL ao14 ++ (M)) ao14 cap14 s10) ∧ (Chg [] w w19) ∧ (MS (blkL ao14 ++ (M)) w19)) k ?_ ?_
  ·skip
   exact ⟨(0 : Int), (0 : Int), (0 : Int), H, (ha.sel (by kernel_rfl)), f14, hC, hM⟩
  ·rintro kk a w19 ⟨x20, x21, x22, H, ha, f14, hC, hM⟩
   obtain _ | kk := kk
   ·exact nomatch (show none = some _ from H)
   rw [vineryref02_six.l1] at H
   refine wp_seq_k fun K57 hK57 => ?_
   refine wp_seq_k fun K58 hK58 => ?_
   refine wp_region_lit ?_
   refine seg ha 2 [(3, .slice ao14 s10.length cap14), (5, .int .i64 x20), (6, .int .i64 x21), (7, .int .i64 x22), (32, .bool (decide (x22 < (8 : Int))))] (by kernel_rfl) fun a ha => ?_
   refine hK58 _ _ ?_; try clear hK58 K58
   refine cnd ha rfl (fun hc59 => ?_) (fun hc59 => ?_)
   ·have H := ite_t hc59 H
    refine wp_skip ?_
    refine hK57 _ _ ?_; try clear hK57 K57
    refine wp_seq_k fun K60 hK60 => ?_
    refine wp_block ?_
    refine wp_seq_k fun K61 hK61 => ?_
    refine wp_region_lit ?_
    refine seg ha 2 [(3, .slice ao14 s10.length cap14), (5, .int .i64 x20), (6, .int .i64 x21), (7, .int .i64 x22), (8, .int .i64 x22)] (by kernel_rfl) fun a ha => ?_
    refine hK61 _ _ ?_; try clear hK61 K61
    refine wp_seq_k fun K62 hK62 => ?_
    refine wp_block ?_
    obtain ⟨s63, H63, H⟩ := bind_some H
    have J63 : ∀ (a : Act) (wx63 : World), Has a Tryd.f43.ntmps [(3, .slice ao14 s10.length cap14), (5, .int .i64 x20), (6, .int .i64 x21), (7, .int .i64 x22), (8, .int .i64 s63)] → (Own (rInt .i64) 3 wx63 (blkL ao14 ++ (M)) ao14 cap14 s10) → (Chg [] w wx63) → (MS (blkL ao14 ++ (M)) wx63) → K62 a wx63 := by
     intro a wx63 ha f14 hC hM
     refine hK62 _ _ ?_; try clear hK62 K62
     refine wp_seq_k fun K65 hK65 => ?_
     refine wp_region_lit ?_
     refine seg ha 5 [(3, .slice ao14 s10.length cap14), (5, .int .i64 x20), (6, .int .i64 x21), (7, .int .i64 x22), (8, .int .i64 s63), (51, .bool (decide ((IntKind.i64.wrap (s63 - x22)) > x21)))] (by kernel_rfl) fun a ha => ?_
     refine hK65 _ _ ?_; try clear hK65 K65
     refine cnd ha rfl (fun hc66 => ?_) (fun hc66 => ?_)
     ·have H := ite_t hc66 H
      refine wp_seq_k fun K67 hK67 => ?_
      refine wp_region_lit ?_
      refine seg ha 2 [(3, .slice ao14 s10.length cap14), (5, .int .i64 x22), (7, .int .i64 x22), (8, .int .i64 s63)] (by kernel_rfl) fun a ha => ?_
      refine hK67 _ _ ?_; try clear hK67 K67
      refine wp_region_lit ?_
      refine seg ha 4 [(3, .slice ao14 s10.length cap14), (5, .int .i64 x22), (6, .int .i64 (IntKind.i64.wrap (s63 - x22))), (7, .int .i64 x22)] (by kernel_rfl) fun a ha => ?_
      refine hK60 _ _ ?_; try clear hK60 K60
      refine wp_region_lit ?_
      refine seg ha 3 [(3, .slice ao14 s10.length cap14), (5, .int .i64 x22), (6, .int .i64 (IntKind.i64.wrap (s63 - x22))), (7, .int .i64 (IntKind.i64.wrap (x22 + (1 : Int))))] (by kernel_rfl) fun a ha => ?_
      exact ⟨kk, Nat.lt_succ_self _, ⟨x22, IntKind.i64.wrap (s63 - x22), IntKind.i64.wrap (x22 + (1 : Int)), H, (ha.sel (by kernel_rfl)), f14, hC, hM⟩⟩
     ·have H := ite_f hc66 H
      refine wp_skip ?_
      refine hK60 _ _ ?_; try clear hK60 K60
      refine wp_region_lit ?_
      refine seg ha 3 [(3, .slice ao14 s10.length cap14), (5, .int .i64 x20), (6, .int .i64 x21), (7, .int .i64 (IntKind.i64.wrap (x22 + (1 : Int))))] (by kernel_rfl) fun a ha => ?_
      exact ⟨kk, Nat.lt_succ_self _, ⟨x20, x21, IntKind.i64.wrap (x22 + (1 : Int)), H, (ha.sel (by kernel_rfl)), f14, hC, hM⟩⟩
    have Hc63 := H
    have H := H63
    refine wp_loop_ghost (fun kk a w63 => ∃ (x64 : Int), vineryref02_six.l3 s10 kk x64 = some s63 ∧ Has a Tryd.f43.ntmps [(3, .slice ao14 s10.length cap14), (5, .int .i64 x20), (6, .int .i64 x21), (7, .int .i64 x22), (8, .int .i64 x64)] ∧ (Own (rInt .i64) 3 w63 (blkL ao14 ++ (M)) ao14 cap14 s10) ∧ (Chg [] w w63) ∧ (MS (blkL ao14 ++ (M)) w63)) k ?_ ?_
    ·skip
     exact ⟨x22, H, (ha.sel (by kernel_rfl)), f14, hC, hM⟩
    ·rintro kk a w63 ⟨x64, H, ha, f14, hC, hM⟩
     obtain _ | kk := kk
     ·exact nomatch (show none = some _ from H)
     rw [vineryref02_six.l3] at H
     refine wp_seq_k fun K68 hK68 => ?_
     refine wp_seq_k fun K69 hK69 => ?_
     refine wp_region_lit ?_
     obtain ⟨s70, H70, H⟩ := bind_some H
     have J70 : ∀ (a : Act) (w70 : World), Has a Tryd.f43.ntmps [(3, .slice ao14 s10.length cap14), (5, .int .i64 x20), (6, .int .i64 x21), (7, .int .i64 x22), (8, .int .i64 x64), (44, .bool s70)] → (Own (rInt .i64) 3 w70 (blkL ao14 ++ (M)) ao14 cap14 s10) → (Chg [] w w70) → (MS (blkL ao14 ++ (M)) w70) → K69 a w70 := by
      intro a w70 ha f14 hC hM
      refine hK69 _ _ ?_; try clear hK69 K69
      refine cnd ha rfl (fun hc71 => ?_) (fun hc71 => ?_)
      ·have H := ite_t hc71 H
       refine wp_skip ?_
       refine hK68 _ _ ?_; try clear hK68 K68
       refine wp_block ?_
       refine wp_region_lit ?_
       refine seg ha 3 [(3, .slice ao14 s10.length cap14), (5, .int .i64 x20), (6, .int .i64 x21), (7, .int .i64 x22), (8, .int .i64 (IntKind.i64.wrap (x64 + (1 : Int))))] (by kernel_rfl) fun a ha => ?_
       exact ⟨kk, Nat.lt_succ_self _, ⟨IntKind.i64.wrap (x64 + (1 : Int)), H, (ha.sel (by kernel_rfl)), f14, hC, hM⟩⟩
      ·have H := ite_f hc71 H
       refine wp_exit ?_
       simp only [Exit.then, Exit.inBlock, ↓reduceIte, Nat.reduceEqDiff]
       obtain rfl := Option.some.inj H
       exact J63 _ _ (ha.sel (by kernel_rfl)) f14 hC hM
     have H := H70
     refine seg ha 3 [(38, .bool (decide (x64 < (8 : Int)))), (3, .slice ao14 s10.length cap14), (5, .int .i64 x20), (6, .int .i64 x21), (7, .int .i64 x22), (8, .int .i64 x64)] (by kernel_rfl) fun a ha => ?_
     rcases Bool.eq_false_or_eq_true (decide (x64 < (8 : Int))) with hb72 | hb72
     ·have ha := ha.lit hb72
      have H := ite_t hb72 H
      refine sgh ha 2 [2, 2] [(3, .slice ao14 s10.length cap14), (5, .int .i64 x20), (6, .int .i64 x21), (7, .int .i64 x22), (8, .int .i64 x64), (38, .bool true), (39, .slice ao14 s10.length cap14), (40, .int .i64 x64)] (by kernel_rfl) fun a ha => ?_
      obtain ⟨⟨hx73, hx73'⟩, H⟩ := ite_some H
      refine ix (r := (rInt .i64)) ha (by kernel_rfl) (by kernel_rfl) rfl rfl rfl rfl rfl (Own.toRSl (M' := []) f14 (Ok.nil _ _) (fun _ _ h => nomatch h)) hx73 hx73' fun a ge74 oe75 cs76 hn79 hR77 hE78 ha => ?_
      rw [rd_get] at hR77
      obtain rfl := hR77
      have hE78 : ∀ j v, ([.int .i64 (rd s10 x64)] : List Value)[j]? = some v → w63.cell? ⟨ge74, oe75 + j, none⟩ = some v := hE78
      refine ld ha rfl (by kernel_rfl) rfl rfl rfl (hE78 0 (.int .i64 (rd s10 x64)) (by kernel_rfl)) fun a ha => ?_
      refine sgh ha 2 [2, 3] [(3, .slice ao14 s10.length cap14), (5, .int .i64 x20), (6, .int .i64 x21), (7, .int .i64 x22), (8, .int .i64 x64), (44, .bool ((rd s10 x64) == (0 : Int)))] (by kernel_rfl) fun a ha => ?_
      obtain rfl := Option.some.inj H
      exact J70 _ _ (ha.sel (by kernel_rfl)) f14 hC hM
     ·have ha := ha.lit hb72
      have H := ite_f hb72 H
      refine sgh ha 6 [1, 1, 1, 1, 1, 4] [(3, .slice ao14 s10.length cap14), (5, .int .i64 x20), (6, .int .i64 x21), (7, .int .i64 x22), (8, .int .i64 x64), (44, .bool false)] (by kernel_rfl) fun a ha => ?_
      obtain rfl := Option.some.inj H
      exact J70 _ _ (ha.sel (by kernel_rfl)) f14 hC hM
   ·have H := ite_f hc59 H
    refine wp_exit ?_
    simp only [Exit.then, Exit.inBlock, ↓reduceIte, Nat.reduceEqDiff]
    obtain rfl := Option.some.inj H
    exact J19 _ _ (ha.sel (by kernel_rfl)) f14 hC hM
 have Hc10 := H
 have H := H10
 refine wp_loop_ghost (fun kk a w10 => ∃ (x12 : List Int) (x13 : Int) (ao11 : Option Addr) (cap11 : Nat), vineryref02_six.l0 a0 kk x12 x13 = some s10 ∧ Has a Tryd.f43.ntmps [(1, .pointer (some ⟨g3, 0, none⟩)), (3, .slice ao11 x12.length cap11), (4, .int .i64 x13)] ∧ (Own (rInt .i64) 3 w10 (blkL ao11 ++ (M)) ao11 cap11 x12) ∧ (∀ j v, (cS_api_Addr a0)[j]? = some v → w10.cell? ⟨g3, 0 + j, none⟩ = some v) ∧ (g3 ∉ (blkL ao11 ++ (M))) ∧ (∀ x ∈ blkL ao11, w.heap.size ≤ x) ∧ (∀ x ∈ blkL ao11, x ∉ M) ∧ (Chg [] w w10) ∧ (MS (blkL ao11 ++ (M)) w10)) k ?_ ?_
 ·skip
  have o1 : Ok [] (M) w2.heap.size := Ok.nil _ _
  have o2 : Ok (blkL none ++ (M)) (M) w2.heap.size := (Ok.app (fun _ h => nomatch h) (Ok.refl _ _))
  have q_hn6 : g3 ∉ blkL none ++ (M) := fun h => (o2 g3 h).elim hn6 (fun h => absurd (lt_cell (hE5 0 _ rfl)) (Nat.not_lt.2 h))
  have hE5 : ∀ j v, (cS_api_Addr a0)[j]? = some v → w2.cell? ⟨g3, 0 + j, none⟩ = some v := fun j v hv => (cell_keep (Chg.refl [] _) o1 hn6 (hE5 j v hv))
  have hn6 := q_hn6
  have p_z80_M : ∀ x ∈ blkL none, x ∉ M := fun x hx hy => absurd (hM x (hy)) (Nat.not_lt.2 ((fun _ h => nomatch h) x hx))
  have e_z80 : ∀ x ∈ blkL none, w.heap.size ≤ x := fun x hx => Nat.le_trans hC.size ((fun _ h => nomatch h) x hx)
  have hM : MS (blkL none ++ (M)) w2 := (MS.app (fun _ h => nomatch h) (hM.chg (Chg.refl [] _)))
  have hC := hC.trans (Chg.refl [] _) (Ok.nil _ _)
  exact ⟨([] : List Int), (0 : Int), none, 0, H, (ha.sel (by kernel_rfl)), Own.nil, hE5, hn6, e_z80, p_z80_M, hC, hM⟩
 ·rintro kk a w10 ⟨x12, x13, ao11, cap11, H, ha, f11, hE5, hn6, e_i11, p_i11_M, hC, hM⟩
  obtain _ | kk := kk
  ·exact nomatch (show none = some _ from H)
  rw [vineryref02_six.l0] at H
  refine wp_seq_k fun K81 hK81 => ?_
  refine wp_seq_k fun K82 hK82 => ?_
  refine wp_region_lit ?_
  refine seg ha 2 [(1, .pointer (some ⟨g3, 0, none⟩)), (3, .slice ao11 x12.length cap11), (4, .int .i64 x13), (12, .bool (decide (x13 < (16 : Int))))] (by kernel_rfl) fun a ha => ?_
  refine hK82 _ _ ?_; try clear hK82 K82
  refine cnd ha rfl (fun hc83 => ?_) (fun hc83 => ?_)
  ·have H := ite_t hc83 H
   refine wp_skip ?_
   refine hK81 _ _ ?_; try clear hK81 K81
   refine wp_seq_k fun K84 hK84 => ?_
   refine wp_block ?_
   have okS : Ok (blkL ao11) (blkL ao11 ++ (M)) w10.heap.size := (fun _ h => .inl (ml h))
   have z_hE5 := hE5
   have z_hn6 := hn6
   refine drw (fun w' => Chg (blkL ao11) w10 w') (by kernel_rfl) fun w85 hc86 _ => ?_
   have hS : Chg (blkL ao11) w10 w85 := (Chg.refl (blkL ao11) _).trans hc86 (Ok.nil _ _)
   have o1 : Ok [] (blkL ao11 ++ (M)) w10.heap.size := Ok.nil _ _
   have o2 : Ok (blkL ao11 ++ (M)) (blkL ao11 ++ (M)) w10.heap.size := (Ok.refl _ _)
   have f11 := f11.chg hc86 o1 o2 (fun _ _ h => nomatch h) (fun _ h => ml h)
   have q_hn6 : g3 ∉ blkL ao11 ++ (M) := fun h => (o2 g3 h).elim hn6 (fun h => absurd (lt_cell (hE5 0 _ rfl)) (Nat.not_lt.2 h))
   have hE5 : ∀ j v, (cS_api_Addr a0)[j]? = some v → w85.cell? ⟨g3, 0 + j, none⟩ = some v := fun j v hv => (cell_keep hc86 o1 hn6 (hE5 j v hv))
   have hn6 := q_hn6
   have hM : MS (blkL ao11 ++ (M)) w85 := (hM.chg hc86)
   have hC := hC.trans hc86 (Ok.nil _ _)
   refine tkpz 0 0 (.slice ao11 x12.length cap11) ha (s := hS) (q := fun a ha => ?_)
   refine tkpz 1 0 (.int .i64 x13) ha (s := hS) (q := fun a ha => ?_)
   refine tkpz 2 0 (.pointer (some ⟨g3, 0 + 1, none⟩)) ha (s := hS) (q := fun a ha => ?_)
   obtain ⟨⟨hx87, hx87'⟩, H⟩ := ite_some H
   have hE87 : ∀ j v, ([.int .u8 (ar a0.B (Int.toNat x13))] : List Value)[j]? = some v → w10.cell? ⟨g3, (0 + 1 + (Int.toNat x13)) + j, none⟩ = some v := cellA (m := 16) [.int .i64 a0.Size] [] z_hE5 (by kernel_rfl) (by omega)
   have hn87 := z_hn6
   refine tkz 3 ha (v := .pointer (some ⟨g3, (0 + 1 + (Int.toNat x13)), none⟩)) (y := fun w' hs => ixA_run (T := 5) (N := 16) (g := g3) (o' := 0 + 1) (k := .i64) (i := x13) ha (by kernel_rfl) (by kernel_rfl) (by rfl) (by rfl) hx87 hx87' w') (s := hS) (q := fun a ha => ?_)
   refine tkz 4 ha (v := .int .u8 (ar a0.B (Int.toNat x13))) (y := fun w' hs => ld_run ha rfl (by kernel_rfl) (cell_keep hs okS hn87 (hE87 0 (.int .u8 (ar a0.B (Int.toNat x13))) (by kernel_rfl)))) (s := hS) (q := fun a ha => ?_)
   refine tkpz 5 0 (.int .i64 (IntKind.i64.wrap (ar a0.B (Int.toNat x13)))) ha (s := hS) (q := fun a ha => ?_)
   refine tkpz 6 0 (.int .i64 (IntKind.i64.wrap ((IntKind.i64.wrap (ar a0.B (Int.toNat x13))) * (256 : Int)))) ha (s := hS) (q := fun a ha => ?_)
   refine tkpz 7 0 (.int .i64 x13) ha (s := hS) (q := fun a ha => ?_)
   refine tkpz 8 0 (.int .i64 (IntKind.i64.wrap (x13 + (1 : Int)))) ha (s := hS) (q := fun a ha => ?_)
   refine tkpz 9 0 (.pointer (some ⟨g3, 0 + 1, none⟩)) ha (s := hS) (q := fun a ha => ?_)
   obtain ⟨⟨hx88, hx88'⟩, H⟩ := ite_some H
   have hE88 : ∀ j v, ([.int .u8 (ar a0.B (Int.toNat (IntKind.i64.wrap (x13 + (1 : Int)))))] : List Value)[j]? = some v → w10.cell? ⟨g3, (0 + 1 + (Int.toNat (IntKind.i64.wrap (x13 + (1 : Int))))) + j, none⟩ = some v := cellA (m := 16) [.int .i64 a0.Size] [] z_hE5 (by kernel_rfl) (by omega)
   have hn88 := z_hn6
   refine tkz 10 ha (v := .pointer (some ⟨g3, (0 + 1 + (Int.toNat (IntKind.i64.wrap (x13 + (1 : Int))))), none⟩)) (y := fun w' hs => ixA_run (T := 5) (N := 16) (g := g3) (o' := 0 + 1) (k := .i64) (i := IntKind.i64.wrap (x13 + (1 : Int))) ha (by kernel_rfl) (by kernel_rfl) (by rfl) (by rfl) hx88 hx88' w') (s := hS) (q := fun a ha => ?_)
   refine tkz 11 ha (v := .int .u8 (ar a0.B (Int.toNat (IntKind.i64.wrap (x13 + (1 : Int)))))) (y := fun w' hs => ld_run ha rfl (by kernel_rfl) (cell_keep hs okS hn88 (hE88 0 (.int .u8 (ar a0.B (Int.toNat (IntKind.i64.wrap (x13 + (1 : Int)))))) (by kernel_rfl)))) (s := hS) (q := fun a ha => ?_)
   refine tkpz 12 0 (.int .i64 (IntKind.i64.wrap (ar a0.B (Int.toNat (IntKind.i64.wrap (x13 + (1 : Int))))))) ha (s := hS) (q := fun a ha => ?_)
   refine tkpz 13 0 (.int .i64 (IntKind.i64.wrap ((IntKind.i64.wrap ((IntKind.i64.wrap (ar a0.B (Int.toNat x13))) * (256 : Int))) + (IntKind.i64.wrap (ar a0.B (Int.toNat (IntKind.i64.wrap (x13 + (1 : Int))))))))) ha (s := hS) (q := fun a ha => ?_)
   refine ac 14 (by kernel_rfl) (by rfl) fun K89 hK89 => ?_
   refine bsl (vals := ([.int .i64 (IntKind.i64.wrap ((IntKind.i64.wrap ((IntKind.i64.wrap (ar a0.B (Int.toNat x13))) * (256 : Int))) + (IntKind.i64.wrap (ar a0.B (Int.toNat (IntKind.i64.wrap (x13 + (1 : Int))))))))] : List Value)) (T := 3) ha rfl (([.int .i64 (IntKind.i64.wrap ((IntKind.i64.wrap ((IntKind.i64.wrap (ar a0.B (Int.toNat x13))) * (256 : Int))) + (IntKind.i64.wrap (ar a0.B (Int.toNat (IntKind.i64.wrap (x13 + (1 : Int))))))))] : List Value) ++ ([] : List Value)) (fun w => by kernel_rfl) rfl rfl rfl fun a w90 g91 hN92 ha => ?_
   have o1 : Ok [] (blkL ao11 ++ (M)) w85.heap.size := Ok.nil _ _
   have o2 : Ok ([g91] ++ (blkL ao11 ++ (M))) (blkL ao11 ++ (M)) w85.heap.size := (Ok.app (hN92.ok _) (Ok.refl _ _))
   have f11 := f11.chg hN92.chg o1 o2 (fun _ _ h => nomatch h) (fun _ h => mr (ml h))
   have q_hn6 : g3 ∉ [g91] ++ (blkL ao11 ++ (M)) := fun h => (o2 g3 h).elim hn6 (fun h => absurd (lt_cell (hE5 0 _ rfl)) (Nat.not_lt.2 h))
   have hE5 : ∀ j v, (cS_api_Addr a0)[j]? = some v → w90.cell? ⟨g3, 0 + j, none⟩ = some v := fun j v hv => (cell_keep hN92.chg o1 hn6 (hE5 j v hv))
   have hn6 := q_hn6
   have p_iD000093_i11 : ∀ x ∈ [g91], x ∉ (blkL ao11) := fun x hx hy => absurd (hM x (ml hy)) (Nat.not_lt.2 ((hN92.ge1) x hx))
   have p_iD000093_M : ∀ x ∈ [g91], x ∉ M := fun x hx hy => absurd (hM x (mr (hy))) (Nat.not_lt.2 ((hN92.ge1) x hx))
   have e_iD000093 : ∀ x ∈ [g91], w.heap.size ≤ x := fun x hx => Nat.le_trans hC.size ((hN92.ge1) x hx)
   have hM : MS ([g91] ++ (blkL ao11 ++ (M))) w90 := (MS.app hN92.ms (hM.chg hN92.chg))
   have hC := hC.trans hN92.chg (Ok.nil _ _)
   have d_iD000093 : Ok ([g91]) (blkL ao11) w10.heap.size := fun x hx => .inr (Nat.le_trans hS.size ((hN92.ge1) x hx))
   have hS := hS.trans hN92.chg (Ok.nil _ _)
   have f94 : Own (rInt .i64) 3 w90 ([g91] ++ (blkL ao11 ++ (M))) (some ⟨g91, 0, none⟩) 1 ([IntKind.i64.wrap ((IntKind.i64.wrap ((IntKind.i64.wrap (ar a0.B (Int.toNat x13))) * (256 : Int))) + (IntKind.i64.wrap (ar a0.B (Int.toNat (IntKind.i64.wrap (x13 + (1 : Int)))))))] : List Int) := hN92.own ⟨([.int .i64 (IntKind.i64.wrap ((IntKind.i64.wrap ((IntKind.i64.wrap (ar a0.B (Int.toNat x13))) * (256 : Int))) + (IntKind.i64.wrap (ar a0.B (Int.toNat (IntKind.i64.wrap (x13 + (1 : Int))))))))] : List Value), _, rfl, rfl, rfl⟩ (Nat.le_of_ble_eq_true rfl)
   refine ae hK89 hS ?_; clear hK89 K89
   refine ac 15 (by kernel_rfl) (by rfl) fun K95 hK95 => ?_
   obtain ⟨hx96, H⟩ := ite_some H
   refine app (r := (rInt .i64)) (xs := x12) (ys := ([IntKind.i64.wrap ((IntKind.i64.wrap ((IntKind.i64.wrap (ar a0.B (Int.toNat x13))) * (256 : Int))) + (IntKind.i64.wrap (ar a0.B (Int.toNat (IntKind.i64.wrap (x13 + (1 : Int)))))))] : List Int)) ha (ElemT.mk' (bytes := 8) (by kernel_rfl)) rfl rfl rfl rfl rfl f11 f94.src hx96 (by decide) fun a w97 ao98 cap98 hO98 hc98 hk98 hl98 ha => ?_
   have o1 : Ok (blkL ao11) ([g91] ++ (blkL ao11 ++ (M))) w90.heap.size := (fun _ h => .inl (mr (ml h)))
   have o2 : Ok (blkL ao98 ++ ([g91] ++ (M))) ([g91] ++ (blkL ao11 ++ (M))) w90.heap.size := (Ok.app (Ok.to hk98 (fun _ h => mr (ml h))) (Ok.app (fun _ h => .inl (ml h)) (fun _ h => .inl (mr (mr (h))))))
   have f94 := f94.chg hc98 o1 o2 p_iD000093_i11 (fun _ h => mr (ml h))
   have q_hn6 : g3 ∉ blkL ao98 ++ ([g91] ++ (M)) := fun h => (o2 g3 h).elim hn6 (fun h => absurd (lt_cell (hE5 0 _ rfl)) (Nat.not_lt.2 h))
   have hE5 : ∀ j v, (cS_api_Addr a0)[j]? = some v → w97.cell? ⟨g3, 0 + j, none⟩ = some v := fun j v hv => (cell_keep hc98 o1 hn6 (hE5 j v hv))
   have hn6 := q_hn6
   have p_iD000098_iD000093 : ∀ x ∈ blkL ao98, x ∉ ([g91]) := fun x hx hy => (hk98 x hx).elim (fun h => (fun x hx hy => p_iD000093_i11 x hy hx) x h hy) (fun h => absurd (hM x (ml hy)) (Nat.not_lt.2 h))
   have p_iD000098_M : ∀ x ∈ blkL ao98, x ∉ M := fun x hx hy => (hk98 x hx).elim (fun h => p_i11_M x h hy) (fun h => absurd (hM x (mr (mr (hy)))) (Nat.not_lt.2 h))
   have e_iD000098 : ∀ x ∈ blkL ao98, w.heap.size ≤ x := fun x hx => (hk98 x hx).elim (e_i11 x) (Nat.le_trans hC.size)
   have hM : MS (blkL ao98 ++ ([g91] ++ (M))) w97 := (MS.app hl98 (MS.app (fun x h => hM.chg hc98 x (ml h)) (fun x h => hM.chg hc98 x (mr (mr (h))))))
   have hC := hC.trans hc98 (fun x h => .inr (e_i11 x h))
   have d_iD000098 : Ok (blkL ao98) (blkL ao11) w10.heap.size := fun x hx => (hk98 x hx).elim (fun h => .inl (h)) (fun h => .inr (Nat.le_trans hS.size h))
   have hS := hS.trans hc98 (fun x h => .inl (h))
   have f98 := hO98.chg (M' := blkL ao98 ++ ([g91] ++ (M))) (Chg.refl [] _) (Ok.nil _ _) (Ok.app (fun _ h => .inl (ml h)) (Ok.to (Ok.app (fun _ h => .inl (ml h)) (fun _ h => .inl (mr (mr (h))))) (fun _ h => mr h))) (fun _ _ h => nomatch h) (fun _ h => ml h)
   refine ae hK95 hS ?_; clear hK95 K95
   refine tkpz 16 0 (.slice ao98 (x12 ++ ([IntKind.i64.wrap ((IntKind.i64.wrap ((IntKind.i64.wrap (ar a0.B (Int.toNat x13))) * (256 : Int))) + (IntKind.i64.wrap (ar a0.B (Int.toNat (IntKind.i64.wrap (x13 + (1 : Int)))))))] : List Int)).length cap98) ha (s := hS) (q := fun a ha => ?_)
   refine dn (by kernel_rfl) ?_
   refine hK84 _ _ ?_; try clear hK84 K84
   refine wp_region_lit ?_
   refine seg ha 3 [(1, .pointer (some ⟨g3, 0, none⟩)), (3, .slice ao98 (x12 ++ ([IntKind.i64.wrap ((IntKind.i64.wrap ((IntKind.i64.wrap (ar a0.B (Int.toNat x13))) * (256 : Int))) + (IntKind.i64.wrap (ar a0.B (Int.toNat (IntKind.i64.wrap (x13 + (1 : Int)))))))] : List Int)).length cap98), (4, .int .i64 (IntKind.i64.wrap (x13 + (2 : Int))))] (by kernel_rfl) fun a ha => ?_
   have o1 : Ok [] (blkL ao98 ++ ([g91] ++ (M))) w97.heap.size := Ok.nil _ _
   have o2 : Ok (blkL ao98 ++ (M)) (blkL ao98 ++ ([g91] ++ (M))) w97.heap.size := (Ok.app (fun _ h => .inl (ml h)) (fun _ h => .inl (mr (mr (h)))))
   have f98 := f98.chg (Chg.refl [] _) o1 o2 (fun _ _ h => nomatch h) (fun _ h => ml h)
   have q_hn6 : g3 ∉ blkL ao98 ++ (M) := fun h => (o2 g3 h).elim hn6 (fun h => absurd (lt_cell (hE5 0 _ rfl)) (Nat.not_lt.2 h))
   have hE5 : ∀ j v, (cS_api_Addr a0)[j]? = some v → w97.cell? ⟨g3, 0 + j, none⟩ = some v := fun j v hv => (cell_keep (Chg.refl [] _) o1 hn6 (hE5 j v hv))
   have hn6 := q_hn6
   have hM : MS (blkL ao98 ++ (M)) w97 := (MS.app (fun x h => hM.chg (Chg.refl [] _) x (ml h)) (fun x h => hM.chg (Chg.refl [] _) x (mr (mr (h)))))
   have hC := hC.trans (Chg.refl [] _) (Ok.nil _ _)
   exact ⟨kk, Nat.lt_succ_self _, ⟨(x12 ++ ([IntKind.i64.wrap ((IntKind.i64.wrap ((IntKind.i64.wrap (ar a0.B (Int.toNat x13))) * (256 : Int))) + (IntKind.i64.wrap (ar a0.B (Int.toNat (IntKind.i64.wrap (x13 + (1 : Int)))))))] : List Int)), IntKind.i64.wrap (x13 + (2 : Int)), ao98, cap98, H, (ha.sel (by kernel_rfl)), f98, hE5, hn6, e_iD000098, p_iD000098_M, hC, hM⟩⟩
  ·have H := ite_f hc83 H
   refine wp_exit ?_
   simp only [Exit.then, Exit.inBlock, ↓reduceIte, Nat.reduceEqDiff]
   obtain rfl := Option.some.inj H
   exact J10 _ _ ao11 cap11 (ha.sel (by kernel_rfl)) f11 e_i11 p_i11_M hC hM
def vineryref02_Text.l0 (k : Nat) (a0 : S_api_Addr) : Nat → (List UInt8) → Int → Option (List UInt8)
  | 0, _, _ => none
  | kk + 1, x25, x26 => (if (decide (x26 < (4 : Int))) = true then (if (x25 ++ ([46] : List UInt8)).length ≤ 9223372036854775807 then (if 0 ≤ x26 ∧ x26 < (16 : Int) then (vineryref02_Number.f k (IntKind.i64.wrap (ar a0.B (Int.toNat x26))) (10 : Int)).bind fun t34 => (if ((x25 ++ ([46] : List UInt8)) ++ t34).length ≤ 9223372036854775807 then vineryref02_Text.l0 k a0 kk ((x25 ++ ([46] : List UInt8)) ++ t34) (IntKind.i64.wrap (x26 + (1 : Int))) else none) else none) else none) else some (x25 : List UInt8))
def vineryref02_Text.f (k : Nat) (a0 : S_api_Addr) : Option (List UInt8) := (vineryref02_Right.f k a0).bind fun t8 => ((if (!t8) = true then some (true : Bool) else some (a0.Size == (0 : Int) : Bool))).bind fun s11 => (if s11 = true then some ((([] : List UInt8) : List UInt8)) else (if (a0.Size == (16 : Int)) = true then (vineryref02_six.f k a0).bind fun t18 => some ((t18 : List UInt8)) else (vineryref02_Number.f k (IntKind.i64.wrap (ar a0.B 0)) (10 : Int)).bind fun t21 => (vineryref02_Text.l0 k a0 k t21 (1 : Int)).bind fun s24 => some ((s24 : List UInt8))))
set_option maxRecDepth 100000 in
theorem vineryref02_Text.walk (w : World) (M : List Nat) (hM : MS M w) (a0 : S_api_Addr) (k : Nat) (r : List UInt8) (H : vineryref02_Text.f k a0 = some r) :
    To Tryd.prog 15 [.agg (cS_api_Addr a0).toArray] w fun v w' => v = .string (bstr r) ∧ Chg [] w w' ∧ MS (M) w' := by
 unfold vineryref02_Text.f at H
 refine ent Tryd.func15 rfl [(0, .agg (cS_api_Addr a0).toArray)] rfl (by rfl) fun a ha => ?_
 have hC : Chg [] w w := Chg.refl _ _
 refine wp_seq_k fun K1 hK1 => ?_
 refine wp_region_lit ?_
 refine bx (cs := (cS_api_Addr a0)) ha rfl rfl rfl rfl rfl fun a w2 g3 hN4 ha => ?_
 have hn6 := hN4.notin hM
 have hM : MS (M) w2 := (hM.chg hN4.chg)
 have hC := hC.trans hN4.chg (Ok.nil _ _)
 have hE5 : ∀ j v, (cS_api_Addr a0)[j]? = some v → w2.cell? ⟨g3, 0 + j, none⟩ = some v := Box.cells (New.box hN4)
 refine seg ha 1 [(1, .pointer (some ⟨g3, 0, none⟩))] (by kernel_rfl) fun a ha => ?_
 refine hK1 _ _ ?_; try clear hK1 K1
 refine wp_seq_k fun K7 hK7 => ?_
 refine wp_region_lit ?_
 refine ldA (cs := (cS_api_Addr a0)) ha rfl (by kernel_rfl) rfl rfl rfl (cells_sub hE5 (all := (cS_api_Addr a0)) [] [] (by kernel_rfl)) fun a ha => ?_
 obtain ⟨t8, H8, H⟩ := bind_some H
 refine cl ha (by rfl) (by kernel_rfl) (by rfl) (by rfl) (by rfl) (vineryref02_Right.walk w2 _ hM a0 k _ H8) ?_
 rintro _ w8 ⟨rfl, hc8, hMn⟩ a ha
 have o1 : Ok [] (M) w2.heap.size := Ok.nil _ _
 have o2 : Ok (M) (M) w2.heap.size := (Ok.refl _ _)
 have q_hn6 : g3 ∉ M := fun h => (o2 g3 h).elim hn6 (fun h => absurd (lt_cell (hE5 0 _ rfl)) (Nat.not_lt.2 h))
 have hE5 : ∀ j v, (cS_api_Addr a0)[j]? = some v → w8.cell? ⟨g3, 0 + j, none⟩ = some v := fun j v hv => (cell_keep hc8 o1 hn6 (hE5 j v hv))
 have hn6 := q_hn6
 have hM : MS (M) w8 := (hM.chg hc8)
 have hC := hC.trans hc8 (Ok.nil _ _)
 refine seg ha 1 [(1, .pointer (some ⟨g3, 0, none⟩)), (3, .bool t8)] (by kernel_rfl) fun a ha => ?_
 refine hK7 _ _ ?_; try clear hK7 K7
 refine wp_seq_k fun K9 hK9 => ?_
 refine wp_seq_k fun K10 hK10 => ?_
 refine wp_region_lit ?_
 obtain ⟨s11, H11, H⟩ := bind_some H
 have J11 : ∀ (a : Act) (w11 : World), Has a Tryd.f15.ntmps [(1, .pointer (some ⟨g3, 0, none⟩)), (14, .bool s11)] → (∀ j v, (cS_api_Addr a0)[j]? = some v → w11.cell? ⟨g3, 0 + j, none⟩ = some v) → (g3 ∉ (M)) → (Chg [] w w11) → (MS (M) w11) → K10 a w11 := by
  intro a w11 ha hE5 hn6 hC hM
  refine hK10 _ _ ?_; try clear hK10 K10
  refine cnd ha rfl (fun hc12 => ?_) (fun hc12 => ?_)
  ·have H := ite_t hc12 H
   refine wp_seq_k fun K13 hK13 => ?_
   refine wp_region_lit ?_
   refine seg ha 1 [(2, .string (bstr ([] : List UInt8)))] (by kernel_rfl) fun a ha => ?_
   refine hK13 _ _ ?_; try clear hK13 K13
   refine wp_ret ?_
   try simp only [Exit.then, Exit.inBlock]
   obtain rfl := Option.some.inj H
   refine rt1 ha rfl rfl ?_
   exact ⟨rfl, hC, hM⟩
  ·have H := ite_f hc12 H
   refine wp_skip ?_
   refine hK9 _ _ ?_; try clear hK9 K9
   refine wp_seq_k fun K14 hK14 => ?_
   refine wp_seq_k fun K15 hK15 => ?_
   refine wp_region_lit ?_
   refine seg ha 1 [(1, .pointer (some ⟨g3, 0, none⟩)), (15, .pointer (some ⟨g3, 0, none⟩))] (by kernel_rfl) fun a ha => ?_
   refine ld ha rfl (by kernel_rfl) rfl rfl rfl (hE5 0 (.int .i64 a0.Size) (by kernel_rfl)) fun a ha => ?_
   refine seg ha 1 [(1, .pointer (some ⟨g3, 0, none⟩)), (17, .bool (a0.Size == (16 : Int)))] (by kernel_rfl) fun a ha => ?_
   refine hK15 _ _ ?_; try clear hK15 K15
   refine cnd ha rfl (fun hc16 => ?_) (fun hc16 => ?_)
   ·have H := ite_t hc16 H
    refine wp_seq_k fun K17 hK17 => ?_
    refine wp_region_lit ?_
    refine ldA (cs := (cS_api_Addr a0)) ha rfl (by kernel_rfl) rfl rfl rfl (cells_sub hE5 (all := (cS_api_Addr a0)) [] [] (by kernel_rfl)) fun a ha => ?_
    obtain ⟨t18, H18, H⟩ := bind_some H
    refine cl ha (by rfl) (by kernel_rfl) (by rfl) (by rfl) (by rfl) (vineryref02_six.walk w11 _ hM a0 k _ H18) ?_
    rintro _ w18 ⟨rfl, hc18, hMn⟩ a ha
    have hM : MS (M) w18 := (hM.chg hc18)
    have hC := hC.trans hc18 (Ok.nil _ _)
    refine seg ha 1 [(2, .string (bstr t18))] (by kernel_rfl) fun a ha => ?_
    refine hK17 _ _ ?_; try clear hK17 K17
    refine wp_ret ?_
    try simp only [Exit.then, Exit.inBlock]
    obtain rfl := Option.some.inj H
    refine rt1 ha rfl rfl ?_
    exact ⟨rfl, hC, hM⟩
   ·have H := ite_f hc16 H
    refine wp_skip ?_
    refine hK14 _ _ ?_; try clear hK14 K14
    refine wp_seq_k fun K19 hK19 => ?_
    refine wp_region_lit ?_
    refine seg ha 1 [(1, .pointer (some ⟨g3, 0, none⟩)), (20, .pointer (some ⟨g3, 0 + 1, none⟩))] (by kernel_rfl) fun a ha => ?_
    have hE20 : ∀ j v, ([.int .u8 (ar a0.B 0)] : List Value)[j]? = some v → w11.cell? ⟨g3, (0 + 1 + 0) + j, none⟩ = some v := cellA (m := 16) [.int .i64 a0.Size] [] hE5 (by kernel_rfl) (by decide)
    have hn20 := hn6
    refine hop (v := .pointer (some ⟨g3, (0 + 1 + 0), none⟩)) (w' := w11) ha rfl rfl rfl (ixA_run (T := 5) (N := 16) (g := g3) (o' := 0 + 1) (k := .i64) (i := (0 : Int)) ha (by kernel_rfl) (by kernel_rfl) (by rfl) (by rfl) (by decide) (by decide) _) fun a ha => ?_
    refine ld ha rfl (by kernel_rfl) rfl rfl rfl (hE20 0 (.int .u8 (ar a0.B 0)) (by kernel_rfl)) fun a ha => ?_
    refine seg ha 1 [(1, .pointer (some ⟨g3, 0, none⟩)), (23, .int .i64 (IntKind.i64.wrap (ar a0.B 0)))] (by kernel_rfl) fun a ha => ?_
    obtain ⟨t21, H21, H⟩ := bind_some H
    refine cl ha (by rfl) (by kernel_rfl) (by rfl) (by rfl) (by rfl) (vineryref02_Number.walk w11 _ hM (IntKind.i64.wrap (ar a0.B 0)) (10 : Int) k _ H21) ?_
    rintro _ w21 ⟨rfl, hc21, hMn⟩ a ha
    have o1 : Ok [] (M) w11.heap.size := Ok.nil _ _
    have o2 : Ok (M) (M) w11.heap.size := (Ok.refl _ _)
    have q_hn6 : g3 ∉ M := fun h => (o2 g3 h).elim hn6 (fun h => absurd (lt_cell (hE5 0 _ rfl)) (Nat.not_lt.2 h))
    have hE5 : ∀ j v, (cS_api_Addr a0)[j]? = some v → w21.cell? ⟨g3, 0 + j, none⟩ = some v := fun j v hv => (cell_keep hc21 o1 hn6 (hE5 j v hv))
    have hn6 := q_hn6
    have hM : MS (M) w21 := (hM.chg hc21)
    have hC := hC.trans hc21 (Ok.nil _ _)
    refine seg ha 1 [(1, .pointer (some ⟨g3, 0, none⟩)), (4, .string (bstr t21))] (by kernel_rfl) fun a ha => ?_
    refine hK19 _ _ ?_; try clear hK19 K19
    refine wp_seq_k fun K22 hK22 => ?_
    refine wp_seq_k fun K23 hK23 => ?_
    refine wp_region_lit ?_
    refine seg ha 1 [(1, .pointer (some ⟨g3, 0, none⟩)), (4, .string (bstr t21)), (5, .int .i64 (1 : Int))] (by kernel_rfl) fun a ha => ?_
    refine hK23 _ _ ?_; try clear hK23 K23
    refine wp_block ?_
    obtain ⟨s24, H24, H⟩ := bind_some H
    have J24 : ∀ (a : Act) (wx24 : World), Has a Tryd.f15.ntmps [(4, .string (bstr s24))] → (Chg [] w wx24) → (MS (M) wx24) → K22 a wx24 := by
     intro a wx24 ha hC hM
     refine hK22 _ _ ?_; try clear hK22 K22
     refine wp_seq_k fun K27 hK27 => ?_
     refine wp_region_lit ?_
     refine seg ha 2 [(2, .string (bstr s24))] (by kernel_rfl) fun a ha => ?_
     refine hK27 _ _ ?_; try clear hK27 K27
     refine wp_ret ?_
     try simp only [Exit.then, Exit.inBlock]
     obtain rfl := Option.some.inj H
     refine rt1 ha rfl rfl ?_
     exact ⟨rfl, hC, hM⟩
    have Hc24 := H
    have H := H24
    refine wp_loop_ghost (fun kk a w24 => ∃ (x25 : List UInt8) (x26 : Int), vineryref02_Text.l0 k a0 kk x25 x26 = some s24 ∧ Has a Tryd.f15.ntmps [(1, .pointer (some ⟨g3, 0, none⟩)), (4, .string (bstr x25)), (5, .int .i64 x26)] ∧ (∀ j v, (cS_api_Addr a0)[j]? = some v → w24.cell? ⟨g3, 0 + j, none⟩ = some v) ∧ (g3 ∉ (M)) ∧ (Chg [] w w24) ∧ (MS (M) w24)) k ?_ ?_
    ·skip
     exact ⟨t21, (1 : Int), H, (ha.sel (by kernel_rfl)), hE5, hn6, hC, hM⟩
    ·rintro kk a w24 ⟨x25, x26, H, ha, hE5, hn6, hC, hM⟩
     obtain _ | kk := kk
     ·exact nomatch (show none = some _ from H)
     rw [vineryref02_Text.l0] at H
     refine wp_seq_k fun K28 hK28 => ?_
     refine wp_seq_k fun K29 hK29 => ?_
     refine wp_region_lit ?_
     refine seg ha 2 [(1, .pointer (some ⟨g3, 0, none⟩)), (4, .string (bstr x25)), (5, .int .i64 x26), (26, .bool (decide (x26 < (4 : Int))))] (by kernel_rfl) fun a ha => ?_
     refine hK29 _ _ ?_; try clear hK29 K29
     refine cnd ha rfl (fun hc30 => ?_) (fun hc30 => ?_)
     ·have H := ite_t hc30 H
      refine wp_skip ?_
      refine hK28 _ _ ?_; try clear hK28 K28
      refine wp_seq_k fun K31 hK31 => ?_
      refine wp_block ?_
      refine wp_region_lit ?_
      refine seg ha 1 [(1, .pointer (some ⟨g3, 0, none⟩)), (5, .int .i64 x26), (29, .string (bstr x25))] (by kernel_rfl) fun a ha => ?_
      obtain ⟨hx32, H⟩ := ite_some H
      refine sadd ha rfl rfl rfl rfl rfl hx32 fun a ha => ?_
      refine seg ha 2 [(1, .pointer (some ⟨g3, 0, none⟩)), (5, .int .i64 x26), (30, .string (bstr (x25 ++ ([46] : List UInt8)))), (31, .int .i64 x26), (32, .pointer (some ⟨g3, 0 + 1, none⟩))] (by kernel_rfl) fun a ha => ?_
      obtain ⟨⟨hx33, hx33'⟩, H⟩ := ite_some H
      have hE33 : ∀ j v, ([.int .u8 (ar a0.B (Int.toNat x26))] : List Value)[j]? = some v → w24.cell? ⟨g3, (0 + 1 + (Int.toNat x26)) + j, none⟩ = some v := cellA (m := 16) [.int .i64 a0.Size] [] hE5 (by kernel_rfl) (by omega)
      have hn33 := hn6
      refine hop (v := .pointer (some ⟨g3, (0 + 1 + (Int.toNat x26)), none⟩)) (w' := w24) ha rfl rfl rfl (ixA_run (T := 5) (N := 16) (g := g3) (o' := 0 + 1) (k := .i64) (i := x26) ha (by kernel_rfl) (by kernel_rfl) (by rfl) (by rfl) hx33 hx33' _) fun a ha => ?_
      refine ld ha rfl (by kernel_rfl) rfl rfl rfl (hE33 0 (.int .u8 (ar a0.B (Int.toNat x26))) (by kernel_rfl)) fun a ha => ?_
      refine seg ha 1 [(1, .pointer (some ⟨g3, 0, none⟩)), (5, .int .i64 x26), (30, .string (bstr (x25 ++ ([46] : List UInt8)))), (35, .int .i64 (IntKind.i64.wrap (ar a0.B (Int.toNat x26))))] (by kernel_rfl) fun a ha => ?_
      obtain ⟨t34, H34, H⟩ := bind_some H
      refine cl ha (by rfl) (by kernel_rfl) (by rfl) (by rfl) (by rfl) (vineryref02_Number.walk w24 _ hM (IntKind.i64.wrap (ar a0.B (Int.toNat x26))) (10 : Int) k _ H34) ?_
      rintro _ w34 ⟨rfl, hc34, hMn⟩ a ha
      have o1 : Ok [] (M) w24.heap.size := Ok.nil _ _
      have o2 : Ok (M) (M) w24.heap.size := (Ok.refl _ _)
      have q_hn6 : g3 ∉ M := fun h => (o2 g3 h).elim hn6 (fun h => absurd (lt_cell (hE5 0 _ rfl)) (Nat.not_lt.2 h))
      have hE5 : ∀ j v, (cS_api_Addr a0)[j]? = some v → w34.cell? ⟨g3, 0 + j, none⟩ = some v := fun j v hv => (cell_keep hc34 o1 hn6 (hE5 j v hv))
      have hn6 := q_hn6
      have hM : MS (M) w34 := (hM.chg hc34)
      have hC := hC.trans hc34 (Ok.nil _ _)
      obtain ⟨hx35, H⟩ := ite_some H
      refine sadd ha rfl rfl rfl rfl rfl hx35 fun a ha => ?_
      refine seg ha 1 [(1, .pointer (some ⟨g3, 0, none⟩)), (4, .string (bstr ((x25 ++ ([46] : List UInt8)) ++ t34))), (5, .int .i64 x26)] (by kernel_rfl) fun a ha => ?_
      refine hK31 _ _ ?_; try clear hK31 K31
      refine wp_region_lit ?_
      refine seg ha 3 [(1, .pointer (some ⟨g3, 0, none⟩)), (4, .string (bstr ((x25 ++ ([46] : List UInt8)) ++ t34))), (5, .int .i64 (IntKind.i64.wrap (x26 + (1 : Int))))] (by kernel_rfl) fun a ha => ?_
      exact ⟨kk, Nat.lt_succ_self _, ⟨(x25 ++ ([46] : List UInt8)) ++ t34, IntKind.i64.wrap (x26 + (1 : Int)), H, (ha.sel (by kernel_rfl)), hE5, hn6, hC, hM⟩⟩
     ·have H := ite_f hc30 H
      refine wp_exit ?_
      simp only [Exit.then, Exit.inBlock, ↓reduceIte, Nat.reduceEqDiff]
      obtain rfl := Option.some.inj H
      exact J24 _ _ (ha.sel (by kernel_rfl)) hC hM
 have H := H11
 refine seg ha 3 [(10, .bool (!t8)), (1, .pointer (some ⟨g3, 0, none⟩))] (by kernel_rfl) fun a ha => ?_
 rcases Bool.eq_false_or_eq_true (!t8) with hb36 | hb36
 ·have ha := ha.lit hb36
  have H := ite_t hb36 H
  refine sgh ha 4 [1, 1, 1, 3] [(1, .pointer (some ⟨g3, 0, none⟩)), (14, .bool true)] (by kernel_rfl) fun a ha => ?_
  obtain rfl := Option.some.inj H
  exact J11 _ _ (ha.sel (by kernel_rfl)) hE5 hn6 hC hM
 ·have ha := ha.lit hb36
  have H := ite_f hb36 H
  refine sgh ha 1 [2] [(1, .pointer (some ⟨g3, 0, none⟩)), (10, .bool false), (11, .pointer (some ⟨g3, 0, none⟩))] (by kernel_rfl) fun a ha => ?_
  refine ld ha rfl (by kernel_rfl) rfl rfl rfl (hE5 0 (.int .i64 a0.Size) (by kernel_rfl)) fun a ha => ?_
  refine sgh ha 2 [2, 4] [(1, .pointer (some ⟨g3, 0, none⟩)), (14, .bool (a0.Size == (0 : Int)))] (by kernel_rfl) fun a ha => ?_
  obtain rfl := Option.some.inj H
  exact J11 _ _ (ha.sel (by kernel_rfl)) hE5 hn6 hC hM
def vineryref02_Parse.f (k : Nat) (a0 : List UInt8) : Option (S_api_Addr × Int) := (if ((bstr a0).toList == (bstr ([] : List UInt8)).toList) = true then some (((⟨(0 : Int), (List.replicate 16 (0 : Int))⟩ : S_api_Addr) : S_api_Addr), ((0 : Int) : Int)) else (if (decide (((bstr a0).size : Int) > (39 : Int))) = true then some (((⟨(0 : Int), (List.replicate 16 (0 : Int))⟩ : S_api_Addr) : S_api_Addr), ((4 : Int) : Int)) else (vineryref02_rough.f k a0).bind fun t19 => (vineryref02_Text.f k t19).bind fun t28 => (if (!((bstr t28).toList == (bstr a0).toList)) = true then some (((⟨(0 : Int), (List.replicate 16 (0 : Int))⟩ : S_api_Addr) : S_api_Addr), ((4 : Int) : Int)) else some ((t19 : S_api_Addr), ((0 : Int) : Int)))))
set_option maxRecDepth 100000 in
theorem vineryref02_Parse.walk (w : World) (M : List Nat) (hM : MS M w) (a0 : List UInt8) (k : Nat) (r : S_api_Addr × Int) (H : vineryref02_Parse.f k a0 = some r) :
    To Tryd.prog 13 [.string (bstr a0)] w fun v w' => v = .tuple #[.agg (cS_api_Addr r.1).toArray, .int .i64 r.2] ∧ Chg [] w w' ∧ MS (M) w' := by
 unfold vineryref02_Parse.f at H
 refine ent Tryd.func13 rfl [(0, .string (bstr a0))] rfl (by rfl) fun a ha => ?_
 have hC : Chg [] w w := Chg.refl _ _
 refine wp_seq_k fun K1 hK1 => ?_
 refine wp_region_lit ?_
 refine al (cs := (cS_api_Addr (⟨(0 : Int), (List.replicate 16 (0 : Int))⟩ : S_api_Addr))) (z := .agg (cS_api_Addr (⟨(0 : Int), (List.replicate 16 (0 : Int))⟩ : S_api_Addr)).toArray) ha (fun w => by kernel_rfl) rfl rfl rfl rfl fun a w2 g3 hN4 ha => ?_
 have p_i5_M : ∀ x ∈ [g3], x ∉ M := fun x hx hy => absurd (hM x (hy)) (Nat.not_lt.2 ((hN4.ge1) x hx))
 have e_i5 : ∀ x ∈ [g3], w.heap.size ≤ x := fun x hx => Nat.le_trans hC.size ((hN4.ge1) x hx)
 have hM : MS ([g3] ++ (M)) w2 := (MS.app hN4.ms (hM.chg hN4.chg))
 have hC := hC.trans hN4.chg (Ok.nil _ _)
 have hBg3 : Box w2 g3 (cS_api_Addr (⟨(0 : Int), (List.replicate 16 (0 : Int))⟩ : S_api_Addr)) := hN4.box
 refine seg ha 1 [(0, .string (bstr a0)), (2, .pointer (some ⟨g3, 0, none⟩))] (by kernel_rfl) fun a ha => ?_
 refine hK1 _ _ ?_; try clear hK1 K1
 refine wp_seq_k fun K6 hK6 => ?_
 refine wp_seq_k fun K7 hK7 => ?_
 refine wp_region_lit ?_
 refine seg ha 2 [(0, .string (bstr a0)), (2, .pointer (some ⟨g3, 0, none⟩)), (6, .bool ((bstr a0).toList == (bstr ([] : List UInt8)).toList))] (by kernel_rfl) fun a ha => ?_
 refine hK7 _ _ ?_; try clear hK7 K7
 refine cnd ha rfl (fun hc8 => ?_) (fun hc8 => ?_)
 ·have H := ite_t hc8 H
  refine wp_seq_k fun K9 hK9 => ?_
  refine wp_region_lit ?_
  refine opk (v := .agg (cS_api_Addr (⟨(0 : Int), (List.replicate 16 (0 : Int))⟩ : S_api_Addr)).toArray) ha rfl rfl rfl rfl rfl (fun w => by kernel_rfl) fun a ha => ?_
  refine stA (l := (cS_api_Addr (⟨(0 : Int), (List.replicate 16 (0 : Int))⟩ : S_api_Addr))) ha rfl rfl rfl (by kernel_rfl) rfl rfl hBg3 rfl fun a w10 ha hb2 hc11 _ => ?_
  have hM : MS ([g3] ++ (M)) w10 := (hM.chg hc11)
  have hC := hC.trans hc11 (fun x h => .inr (e_i5 x h))
  have hBg3 : Box w10 g3 (cS_api_Addr (⟨(0 : Int), (List.replicate 16 (0 : Int))⟩ : S_api_Addr)) := hb2
  refine seg ha 1 [(2, .pointer (some ⟨g3, 0, none⟩)), (3, .int .i64 (0 : Int))] (by kernel_rfl) fun a ha => ?_
  refine hK9 _ _ ?_; try clear hK9 K9
  refine wp_ret ?_
  try simp only [Exit.then, Exit.inBlock]
  have hBg3 := hBg3.chg (Chg.refl [] _) (fun h => nomatch h)
  have hM : MS (M) w10 := (fun x h => hM.chg (Chg.refl [] _) x (mr (h)))
  have hC := hC.trans (Chg.refl [] _) (Ok.nil _ _)
  obtain rfl := Option.some.inj H
  refine rtr ha (res2 rfl (roA ha rfl hBg3 (by kernel_rfl)) (roT ha rfl)) ?_
  exact ⟨rfl, hC, hM⟩
 ·have H := ite_f hc8 H
  refine wp_skip ?_
  refine hK6 _ _ ?_; try clear hK6 K6
  refine wp_seq_k fun K12 hK12 => ?_
  refine wp_seq_k fun K13 hK13 => ?_
  refine wp_region_lit ?_
  refine seg ha 3 [(0, .string (bstr a0)), (2, .pointer (some ⟨g3, 0, none⟩)), (10, .bool (decide (((bstr a0).size : Int) > (39 : Int))))] (by kernel_rfl) fun a ha => ?_
  refine hK13 _ _ ?_; try clear hK13 K13
  refine cnd ha rfl (fun hc14 => ?_) (fun hc14 => ?_)
  ·have H := ite_t hc14 H
   refine wp_seq_k fun K15 hK15 => ?_
   refine wp_region_lit ?_
   refine opk (v := .agg (cS_api_Addr (⟨(0 : Int), (List.replicate 16 (0 : Int))⟩ : S_api_Addr)).toArray) ha rfl rfl rfl rfl rfl (fun w => by kernel_rfl) fun a ha => ?_
   refine stA (l := (cS_api_Addr (⟨(0 : Int), (List.replicate 16 (0 : Int))⟩ : S_api_Addr))) ha rfl rfl rfl (by kernel_rfl) rfl rfl hBg3 rfl fun a w16 ha hb2 hc17 _ => ?_
   have hM : MS ([g3] ++ (M)) w16 := (hM.chg hc17)
   have hC := hC.trans hc17 (fun x h => .inr (e_i5 x h))
   have hBg3 : Box w16 g3 (cS_api_Addr (⟨(0 : Int), (List.replicate 16 (0 : Int))⟩ : S_api_Addr)) := hb2
   refine seg ha 1 [(2, .pointer (some ⟨g3, 0, none⟩)), (3, .int .i64 (4 : Int))] (by kernel_rfl) fun a ha => ?_
   refine hK15 _ _ ?_; try clear hK15 K15
   refine wp_ret ?_
   try simp only [Exit.then, Exit.inBlock]
   have hBg3 := hBg3.chg (Chg.refl [] _) (fun h => nomatch h)
   have hM : MS (M) w16 := (fun x h => hM.chg (Chg.refl [] _) x (mr (h)))
   have hC := hC.trans (Chg.refl [] _) (Ok.nil _ _)
   obtain rfl := Option.some.inj H
   refine rtr ha (res2 rfl (roA ha rfl hBg3 (by kernel_rfl)) (roT ha rfl)) ?_
   exact ⟨rfl, hC, hM⟩
  ·have H := ite_f hc14 H
   refine wp_skip ?_
   refine hK12 _ _ ?_; try clear hK12 K12
   refine wp_seq_k fun K18 hK18 => ?_
   refine wp_region_lit ?_
   refine seg ha 1 [(0, .string (bstr a0)), (2, .pointer (some ⟨g3, 0, none⟩)), (12, .string (bstr a0))] (by kernel_rfl) fun a ha => ?_
   obtain ⟨t19, H19, H⟩ := bind_some H
   refine cl ha (by rfl) (by kernel_rfl) (by rfl) (by rfl) (by rfl) (vineryref02_rough.walk w2 _ hM a0 k _ H19) ?_
   rintro _ w19 ⟨rfl, hc19, hMn⟩ a ha
   have hBg3 := hBg3.chg hc19 (fun h => nomatch h)
   have hM : MS ([g3] ++ (M)) w19 := (hM.chg hc19)
   have hC := hC.trans hc19 (Ok.nil _ _)
   refine al (cs := (cS_api_Addr (⟨(0 : Int), (List.replicate 16 (0 : Int))⟩ : S_api_Addr))) (z := .agg (cS_api_Addr (⟨(0 : Int), (List.replicate 16 (0 : Int))⟩ : S_api_Addr)).toArray) ha (fun w => by kernel_rfl) rfl rfl rfl rfl fun a w20 g21 hN22 ha => ?_
   have hBg3 := hBg3.chg hN22.chg (fun h => nomatch h)
   have p_i23_i5 : ∀ x ∈ [g21], x ∉ ([g3]) := fun x hx hy => absurd (hM x (ml hy)) (Nat.not_lt.2 ((hN22.ge1) x hx))
   have p_i23_M : ∀ x ∈ [g21], x ∉ M := fun x hx hy => absurd (hM x (mr (hy))) (Nat.not_lt.2 ((hN22.ge1) x hx))
   have e_i23 : ∀ x ∈ [g21], w.heap.size ≤ x := fun x hx => Nat.le_trans hC.size ((hN22.ge1) x hx)
   have hM : MS ([g21] ++ ([g3] ++ (M))) w20 := (MS.app hN22.ms (hM.chg hN22.chg))
   have hC := hC.trans hN22.chg (Ok.nil _ _)
   have hBg21 : Box w20 g21 (cS_api_Addr (⟨(0 : Int), (List.replicate 16 (0 : Int))⟩ : S_api_Addr)) := hN22.box
   refine stA (l := (cS_api_Addr t19)) ha rfl rfl rfl (by kernel_rfl) rfl rfl hBg21 rfl fun a w24 ha hb2 hc25 _ => ?_
   have hBg3 := hBg3.chg hc25 ((fun x (hx : x ∈ [g3]) (hy : x ∈ [g21]) => p_i23_i5 x hy hx) g3 (by simp))
   have hM : MS ([g21] ++ ([g3] ++ (M))) w24 := (hM.chg hc25)
   have hC := hC.trans hc25 (fun x h => .inr (e_i23 x h))
   have hBg21 : Box w24 g21 (cS_api_Addr t19) := hb2
   refine hK18 _ _ ?_; try clear hK18 K18
   refine wp_seq_k fun K26 hK26 => ?_
   refine wp_seq_k fun K27 hK27 => ?_
   refine wp_region_lit ?_
   refine ldA (cs := (cS_api_Addr t19)) ha rfl (by kernel_rfl) rfl rfl rfl (cells_sub (Box.cells hBg21) (all := (cS_api_Addr t19)) [] [] (by kernel_rfl)) fun a ha => ?_
   obtain ⟨t28, H28, H⟩ := bind_some H
   refine cl ha (by rfl) (by kernel_rfl) (by rfl) (by rfl) (by rfl) (vineryref02_Text.walk w24 _ hM t19 k _ H28) ?_
   rintro _ w28 ⟨rfl, hc28, hMn⟩ a ha
   have hBg3 := hBg3.chg hc28 (fun h => nomatch h)
   have hBg21 := hBg21.chg hc28 (fun h => nomatch h)
   have hM : MS ([g21] ++ ([g3] ++ (M))) w28 := (hM.chg hc28)
   have hC := hC.trans hc28 (Ok.nil _ _)
   refine seg ha 2 [(2, .pointer (some ⟨g3, 0, none⟩)), (4, .pointer (some ⟨g21, 0, none⟩)), (17, .bool (!((bstr t28).toList == (bstr a0).toList)))] (by kernel_rfl) fun a ha => ?_
   refine hK27 _ _ ?_; try clear hK27 K27
   refine cnd ha rfl (fun hc29 => ?_) (fun hc29 => ?_)
   ·have H := ite_t hc29 H
    refine wp_seq_k fun K30 hK30 => ?_
    refine wp_region_lit ?_
    refine opk (v := .agg (cS_api_Addr (⟨(0 : Int), (List.replicate 16 (0 : Int))⟩ : S_api_Addr)).toArray) ha rfl rfl rfl rfl rfl (fun w => by kernel_rfl) fun a ha => ?_
    refine stA (l := (cS_api_Addr (⟨(0 : Int), (List.replicate 16 (0 : Int))⟩ : S_api_Addr))) ha rfl rfl rfl (by kernel_rfl) rfl rfl hBg3 rfl fun a w31 ha hb2 hc32 _ => ?_
    have hBg21 := hBg21.chg hc32 (p_i23_i5 g21 (by simp))
    have hM : MS ([g21] ++ ([g3] ++ (M))) w31 := (hM.chg hc32)
    have hC := hC.trans hc32 (fun x h => .inr (e_i5 x h))
    have hBg3 : Box w31 g3 (cS_api_Addr (⟨(0 : Int), (List.replicate 16 (0 : Int))⟩ : S_api_Addr)) := hb2
    refine seg ha 1 [(2, .pointer (some ⟨g3, 0, none⟩)), (3, .int .i64 (4 : Int))] (by kernel_rfl) fun a ha => ?_
    refine hK30 _ _ ?_; try clear hK30 K30
    refine wp_ret ?_
    try simp only [Exit.then, Exit.inBlock]
    have hBg3 := hBg3.chg (Chg.refl [] _) (fun h => nomatch h)
    have hBg21 := hBg21.chg (Chg.refl [] _) (fun h => nomatch h)
    have hM : MS (M) w31 := (fun x h => hM.chg (Chg.refl [] _) x (mr (mr (h))))
    have hC := hC.trans (Chg.refl [] _) (Ok.nil _ _)
    obtain rfl := Option.some.inj H
    refine rtr ha (res2 rfl (roA ha rfl hBg3 (by kernel_rfl)) (roT ha rfl)) ?_
    exact ⟨rfl, hC, hM⟩
   ·have H := ite_f hc29 H
    refine wp_skip ?_
    refine hK26 _ _ ?_; try clear hK26 K26
    refine wp_seq_k fun K33 hK33 => ?_
    refine wp_region_lit ?_
    refine ldA (cs := (cS_api_Addr t19)) ha rfl (by kernel_rfl) rfl rfl rfl (cells_sub (Box.cells hBg21) (all := (cS_api_Addr t19)) [] [] (by kernel_rfl)) fun a ha => ?_
    refine stA (l := (cS_api_Addr t19)) ha rfl rfl rfl (by kernel_rfl) rfl rfl hBg3 rfl fun a w34 ha hb2 hc35 _ => ?_
    have hBg21 := hBg21.chg hc35 (p_i23_i5 g21 (by simp))
    have hM : MS ([g21] ++ ([g3] ++ (M))) w34 := (hM.chg hc35)
    have hC := hC.trans hc35 (fun x h => .inr (e_i5 x h))
    have hBg3 : Box w34 g3 (cS_api_Addr t19) := hb2
    refine seg ha 1 [(2, .pointer (some ⟨g3, 0, none⟩)), (3, .int .i64 (0 : Int))] (by kernel_rfl) fun a ha => ?_
    refine hK33 _ _ ?_; try clear hK33 K33
    refine wp_ret ?_
    try simp only [Exit.then, Exit.inBlock]
    have hBg3 := hBg3.chg (Chg.refl [] _) (fun h => nomatch h)
    have hBg21 := hBg21.chg (Chg.refl [] _) (fun h => nomatch h)
    have hM : MS (M) w34 := (fun x h => hM.chg (Chg.refl [] _) x (mr (mr (h))))
    have hC := hC.trans (Chg.refl [] _) (Ok.nil _ _)
    obtain rfl := Option.some.inj H
    refine rtr ha (res2 rfl (roA ha rfl hBg3 (by kernel_rfl)) (roT ha rfl)) ?_
    exact ⟨rfl, hC, hM⟩
def vineryref02_RightPrefix.l0 (a0 : S_api_Prefix) : Nat → Int → Option ((Bool) ⊕ (Unit))
  | 0, _ => none
  | kk + 1, x17 => (if (decide (x17 < (IntKind.i64.wrap ((8 : Int) * a0.Addr.Size)))) = true then (vineryref02_bit.f a0.Addr x17).bind fun t24 => (if t24 = true then some (.inl ((false : Bool))) else vineryref02_RightPrefix.l0 a0 kk (IntKind.i64.wrap (x17 + (1 : Int)))) else some (.inr (() : Unit)))
def vineryref02_RightPrefix.f (k : Nat) (a0 : S_api_Prefix) : Option (Bool) := (vineryref02_Right.f k a0.Addr).bind fun t8 => ((if (!t8) = true then some (true : Bool) else (if (a0.Addr.Size == (0 : Int)) = true then some (true : Bool) else (if (decide (a0.Bits < (0 : Int))) = true then some (true : Bool) else some (decide (a0.Bits > (IntKind.i64.wrap ((8 : Int) * a0.Addr.Size))) : Bool))))).bind fun s11 => (if s11 = true then some ((false : Bool)) else (vineryref02_RightPrefix.l0 a0 k a0.Bits).bind fun s16 => match s16 with | .inl r => some r | .inr s16' => some ((true : Bool)))
set_option maxRecDepth 100000 in
theorem vineryref02_RightPrefix.walk (w : World) (M : List Nat) (hM : MS M w) (a0 : S_api_Prefix) (k : Nat) (r : Bool) (H : vineryref02_RightPrefix.f k a0 = some r) :
    To Tryd.prog 52 [.agg (cS_api_Prefix a0).toArray] w fun v w' => v = .bool r ∧ Chg [] w w' ∧ MS (M) w' := by
 unfold vineryref02_RightPrefix.f at H
 refine ent Tryd.func52 rfl [(0, .agg (cS_api_Prefix a0).toArray)] rfl (by rfl) fun a ha => ?_
 have hC : Chg [] w w := Chg.refl _ _
 refine wp_seq_k fun K1 hK1 => ?_
 refine wp_region_lit ?_
 refine bx (cs := (cS_api_Prefix a0)) ha rfl rfl rfl rfl rfl fun a w2 g3 hN4 ha => ?_
 have hn6 := hN4.notin hM
 have hM : MS (M) w2 := (hM.chg hN4.chg)
 have hC := hC.trans hN4.chg (Ok.nil _ _)
 have hE5 : ∀ j v, (cS_api_Prefix a0)[j]? = some v → w2.cell? ⟨g3, 0 + j, none⟩ = some v := Box.cells (New.box hN4)
 refine seg ha 1 [(1, .pointer (some ⟨g3, 0, none⟩))] (by kernel_rfl) fun a ha => ?_
 refine hK1 _ _ ?_; try clear hK1 K1
 refine wp_seq_k fun K7 hK7 => ?_
 refine wp_region_lit ?_
 refine seg ha 1 [(1, .pointer (some ⟨g3, 0, none⟩)), (6, .pointer (some ⟨g3, 0, none⟩))] (by kernel_rfl) fun a ha => ?_
 refine ldA (cs := (cS_api_Addr a0.Addr)) ha rfl (by kernel_rfl) rfl rfl rfl (cells_sub hE5 (all := (cS_api_Prefix a0)) [] [.int .i64 a0.Bits] (by kernel_rfl)) fun a ha => ?_
 obtain ⟨t8, H8, H⟩ := bind_some H
 refine cl ha (by rfl) (by kernel_rfl) (by rfl) (by rfl) (by rfl) (vineryref02_Right.walk w2 _ hM a0.Addr k _ H8) ?_
 rintro _ w8 ⟨rfl, hc8, hMn⟩ a ha
 have o1 : Ok [] (M) w2.heap.size := Ok.nil _ _
 have o2 : Ok (M) (M) w2.heap.size := (Ok.refl _ _)
 have q_hn6 : g3 ∉ M := fun h => (o2 g3 h).elim hn6 (fun h => absurd (lt_cell (hE5 0 _ rfl)) (Nat.not_lt.2 h))
 have hE5 : ∀ j v, (cS_api_Prefix a0)[j]? = some v → w8.cell? ⟨g3, 0 + j, none⟩ = some v := fun j v hv => (cell_keep hc8 o1 hn6 (hE5 j v hv))
 have hn6 := q_hn6
 have hM : MS (M) w8 := (hM.chg hc8)
 have hC := hC.trans hc8 (Ok.nil _ _)
 refine seg ha 1 [(1, .pointer (some ⟨g3, 0, none⟩)), (3, .bool t8)] (by kernel_rfl) fun a ha => ?_
 refine hK7 _ _ ?_; try clear hK7 K7
 refine wp_seq_k fun K9 hK9 => ?_
 refine wp_seq_k fun K10 hK10 => ?_
 refine wp_region_lit ?_
 obtain ⟨s11, H11, H⟩ := bind_some H
 have J11 : ∀ (a : Act) (w11 : World), Has a Tryd.f52.ntmps [(1, .pointer (some ⟨g3, 0, none⟩)), (30, .bool s11)] → (∀ j v, (cS_api_Prefix a0)[j]? = some v → w11.cell? ⟨g3, 0 + j, none⟩ = some v) → (g3 ∉ (M)) → (Chg [] w w11) → (MS (M) w11) → K10 a w11 := by
  intro a w11 ha hE5 hn6 hC hM
  refine hK10 _ _ ?_; try clear hK10 K10
  refine cnd ha rfl (fun hc12 => ?_) (fun hc12 => ?_)
  ·have H := ite_t hc12 H
   refine wp_seq_k fun K13 hK13 => ?_
   refine wp_region_lit ?_
   refine seg ha 1 [(2, .bool false)] (by kernel_rfl) fun a ha => ?_
   refine hK13 _ _ ?_; try clear hK13 K13
   refine wp_ret ?_
   try simp only [Exit.then, Exit.inBlock]
   obtain rfl := Option.some.inj H
   refine rt1 ha rfl rfl ?_
   exact ⟨rfl, hC, hM⟩
  ·have H := ite_f hc12 H
   refine wp_skip ?_
   refine hK9 _ _ ?_; try clear hK9 K9
   refine wp_seq_k fun K14 hK14 => ?_
   refine wp_seq_k fun K15 hK15 => ?_
   refine wp_region_lit ?_
   refine seg ha 1 [(1, .pointer (some ⟨g3, 0, none⟩)), (31, .pointer (some ⟨g3, 0 + 17, none⟩))] (by kernel_rfl) fun a ha => ?_
   refine ld ha rfl (by kernel_rfl) rfl rfl rfl (hE5 17 (.int .i64 a0.Bits) (by kernel_rfl)) fun a ha => ?_
   refine seg ha 1 [(1, .pointer (some ⟨g3, 0, none⟩)), (4, .int .i64 a0.Bits)] (by kernel_rfl) fun a ha => ?_
   refine hK15 _ _ ?_; try clear hK15 K15
   refine wp_block ?_
   obtain ⟨s16, H16, H⟩ := bind_some H
   have J16 : ∀ s16' (a : Act) (wx16 : World), s16 = .inr s16' → Has a Tryd.f52.ntmps [] → (Chg [] w wx16) → (MS (M) wx16) → K14 a wx16 := by
    intro s16' a wx16 hs ha hC hM
    subst hs
    refine hK14 _ _ ?_; try clear hK14 K14
    refine wp_seq_k fun K18 hK18 => ?_
    refine wp_region_lit ?_
    refine seg ha 1 [(2, .bool true)] (by kernel_rfl) fun a ha => ?_
    refine hK18 _ _ ?_; try clear hK18 K18
    refine wp_ret ?_
    try simp only [Exit.then, Exit.inBlock]
    obtain rfl := Option.some.inj H
    refine rt1 ha rfl rfl ?_
    exact ⟨rfl, hC, hM⟩
   have Hc16 := H
   have H := H16
   refine wp_loop_ghost (fun kk a w16 => ∃ (x17 : Int), vineryref02_RightPrefix.l0 a0 kk x17 = some s16 ∧ Has a Tryd.f52.ntmps [(1, .pointer (some ⟨g3, 0, none⟩)), (4, .int .i64 x17)] ∧ (∀ j v, (cS_api_Prefix a0)[j]? = some v → w16.cell? ⟨g3, 0 + j, none⟩ = some v) ∧ (g3 ∉ (M)) ∧ (Chg [] w w16) ∧ (MS (M) w16)) k ?_ ?_
   ·skip
    exact ⟨a0.Bits, H, (ha.sel (by kernel_rfl)), hE5, hn6, hC, hM⟩
   ·rintro kk a w16 ⟨x17, H, ha, hE5, hn6, hC, hM⟩
    obtain _ | kk := kk
    ·exact nomatch (show none = some _ from H)
    rw [vineryref02_RightPrefix.l0] at H
    refine wp_seq_k fun K19 hK19 => ?_
    refine wp_seq_k fun K20 hK20 => ?_
    refine wp_region_lit ?_
    refine seg ha 3 [(1, .pointer (some ⟨g3, 0, none⟩)), (4, .int .i64 x17), (33, .int .i64 x17), (35, .pointer (some ⟨g3, 0, none⟩))] (by kernel_rfl) fun a ha => ?_
    refine ld ha rfl (by kernel_rfl) rfl rfl rfl (hE5 0 (.int .i64 a0.Addr.Size) (by kernel_rfl)) fun a ha => ?_
    refine seg ha 2 [(1, .pointer (some ⟨g3, 0, none⟩)), (4, .int .i64 x17), (38, .bool (decide (x17 < (IntKind.i64.wrap ((8 : Int) * a0.Addr.Size)))))] (by kernel_rfl) fun a ha => ?_
    refine hK20 _ _ ?_; try clear hK20 K20
    refine cnd ha rfl (fun hc21 => ?_) (fun hc21 => ?_)
    ·have H := ite_t hc21 H
     refine wp_skip ?_
     refine hK19 _ _ ?_; try clear hK19 K19
     refine wp_seq_k fun K22 hK22 => ?_
     refine wp_block ?_
     refine wp_seq_k fun K23 hK23 => ?_
     refine wp_region_lit ?_
     refine seg ha 1 [(1, .pointer (some ⟨g3, 0, none⟩)), (4, .int .i64 x17), (41, .pointer (some ⟨g3, 0, none⟩))] (by kernel_rfl) fun a ha => ?_
     refine ldA (cs := (cS_api_Addr a0.Addr)) ha rfl (by kernel_rfl) rfl rfl rfl (cells_sub hE5 (all := (cS_api_Prefix a0)) [] [.int .i64 a0.Bits] (by kernel_rfl)) fun a ha => ?_
     refine seg ha 1 [(1, .pointer (some ⟨g3, 0, none⟩)), (4, .int .i64 x17), (42, .agg (cS_api_Addr a0.Addr).toArray), (43, .int .i64 x17)] (by kernel_rfl) fun a ha => ?_
     obtain ⟨t24, H24, H⟩ := bind_some H
     refine cl ha (by rfl) (by kernel_rfl) (by rfl) (by rfl) (by rfl) (vineryref02_bit.walk w16 _ hM a0.Addr x17 _ H24) ?_
     rintro _ w24 ⟨rfl, hc24, hMn⟩ a ha
     have o1 : Ok [] (M) w16.heap.size := Ok.nil _ _
     have o2 : Ok (M) (M) w16.heap.size := (Ok.refl _ _)
     have q_hn6 : g3 ∉ M := fun h => (o2 g3 h).elim hn6 (fun h => absurd (lt_cell (hE5 0 _ rfl)) (Nat.not_lt.2 h))
     have hE5 : ∀ j v, (cS_api_Prefix a0)[j]? = some v → w24.cell? ⟨g3, 0 + j, none⟩ = some v := fun j v hv => (cell_keep hc24 o1 hn6 (hE5 j v hv))
     have hn6 := q_hn6
     have hM : MS (M) w24 := (hM.chg hc24)
     have hC := hC.trans hc24 (Ok.nil _ _)
     refine seg ha 1 [(1, .pointer (some ⟨g3, 0, none⟩)), (4, .int .i64 x17), (5, .bool t24)] (by kernel_rfl) fun a ha => ?_
     refine hK23 _ _ ?_; try clear hK23 K23
     refine wp_seq_k fun K25 hK25 => ?_
     refine wp_region_lit ?_
     refine seg ha 1 [(1, .pointer (some ⟨g3, 0, none⟩)), (4, .int .i64 x17), (45, .bool t24)] (by kernel_rfl) fun a ha => ?_
     refine hK25 _ _ ?_; try clear hK25 K25
     refine cnd ha rfl (fun hc26 => ?_) (fun hc26 => ?_)
     ·have H := ite_t hc26 H
      refine wp_seq_k fun K27 hK27 => ?_
      refine wp_region_lit ?_
      refine seg ha 1 [(2, .bool false)] (by kernel_rfl) fun a ha => ?_
      refine hK27 _ _ ?_; try clear hK27 K27
      refine wp_ret ?_
      try simp only [Exit.then, Exit.inBlock]
      obtain rfl := Option.some.inj H
      have H := (show some _ = some _ from Hc16)
      obtain rfl := Option.some.inj H
      refine rt1 ha rfl rfl ?_
      exact ⟨rfl, hC, hM⟩
     ·have H := ite_f hc26 H
      refine wp_skip ?_
      refine hK22 _ _ ?_; try clear hK22 K22
      refine wp_region_lit ?_
      refine seg ha 3 [(1, .pointer (some ⟨g3, 0, none⟩)), (4, .int .i64 (IntKind.i64.wrap (x17 + (1 : Int))))] (by kernel_rfl) fun a ha => ?_
      exact ⟨kk, Nat.lt_succ_self _, ⟨IntKind.i64.wrap (x17 + (1 : Int)), H, (ha.sel (by kernel_rfl)), hE5, hn6, hC, hM⟩⟩
    ·have H := ite_f hc21 H
     refine wp_exit ?_
     simp only [Exit.then, Exit.inBlock, ↓reduceIte, Nat.reduceEqDiff]
     obtain rfl := Option.some.inj H
     exact J16 _ _ _ rfl (ha.sel (by kernel_rfl)) hC hM
 have H := H11
 refine seg ha 3 [(11, .bool (!t8)), (1, .pointer (some ⟨g3, 0, none⟩))] (by kernel_rfl) fun a ha => ?_
 rcases Bool.eq_false_or_eq_true (!t8) with hb28 | hb28
 ·have ha := ha.lit hb28
  have H := ite_t hb28 H
  refine sgh ha 19 [1, 1, 1, 1, 3, 0, 1, 1, 1, 3, 0, 1, 1, 1, 1, 1, 1, 1, 3] [(1, .pointer (some ⟨g3, 0, none⟩)), (30, .bool true)] (by kernel_rfl) fun a ha => ?_
  obtain rfl := Option.some.inj H
  exact J11 _ _ (ha.sel (by kernel_rfl)) hE5 hn6 hC hM
 ·have ha := ha.lit hb28
  have H := ite_f hb28 H
  refine sgh ha 2 [2, 2] [(1, .pointer (some ⟨g3, 0, none⟩)), (11, .bool false), (13, .pointer (some ⟨g3, 0, none⟩))] (by kernel_rfl) fun a ha => ?_
  refine ld ha rfl (by kernel_rfl) rfl rfl rfl (hE5 0 (.int .i64 a0.Addr.Size) (by kernel_rfl)) fun a ha => ?_
  refine sgh ha 3 [2, 4, 0] [(17, .bool (a0.Addr.Size == (0 : Int))), (1, .pointer (some ⟨g3, 0, none⟩))] (by kernel_rfl) fun a ha => ?_
  rcases Bool.eq_false_or_eq_true (a0.Addr.Size == (0 : Int)) with hb29 | hb29
  ·have ha := ha.lit hb29
   have H := ite_t hb29 H
   refine sgh ha 13 [1, 1, 1, 3, 0, 1, 1, 1, 1, 1, 1, 1, 3] [(1, .pointer (some ⟨g3, 0, none⟩)), (30, .bool true)] (by kernel_rfl) fun a ha => ?_
   obtain rfl := Option.some.inj H
   exact J11 _ _ (ha.sel (by kernel_rfl)) hE5 hn6 hC hM
  ·have ha := ha.lit hb29
   have H := ite_f hb29 H
   refine sgh ha 1 [2] [(1, .pointer (some ⟨g3, 0, none⟩)), (17, .bool false), (18, .pointer (some ⟨g3, 0 + 17, none⟩))] (by kernel_rfl) fun a ha => ?_
   refine ld ha rfl (by kernel_rfl) rfl rfl rfl (hE5 17 (.int .i64 a0.Bits) (by kernel_rfl)) fun a ha => ?_
   refine sgh ha 3 [2, 4, 0] [(22, .bool (decide (a0.Bits < (0 : Int)))), (1, .pointer (some ⟨g3, 0, none⟩))] (by kernel_rfl) fun a ha => ?_
   rcases Bool.eq_false_or_eq_true (decide (a0.Bits < (0 : Int))) with hb30 | hb30
   ·have ha := ha.lit hb30
    have H := ite_t hb30 H
    refine sgh ha 8 [1, 1, 1, 1, 1, 1, 1, 3] [(1, .pointer (some ⟨g3, 0, none⟩)), (30, .bool true)] (by kernel_rfl) fun a ha => ?_
    obtain rfl := Option.some.inj H
    exact J11 _ _ (ha.sel (by kernel_rfl)) hE5 hn6 hC hM
   ·have ha := ha.lit hb30
    have H := ite_f hb30 H
    refine sgh ha 1 [2] [(1, .pointer (some ⟨g3, 0, none⟩)), (22, .bool false), (23, .pointer (some ⟨g3, 0 + 17, none⟩))] (by kernel_rfl) fun a ha => ?_
    refine ld ha rfl (by kernel_rfl) rfl rfl rfl (hE5 17 (.int .i64 a0.Bits) (by kernel_rfl)) fun a ha => ?_
    refine sgh ha 2 [2, 2] [(1, .pointer (some ⟨g3, 0, none⟩)), (22, .bool false), (24, .int .i64 a0.Bits), (26, .pointer (some ⟨g3, 0, none⟩))] (by kernel_rfl) fun a ha => ?_
    refine ld ha rfl (by kernel_rfl) rfl rfl rfl (hE5 0 (.int .i64 a0.Addr.Size) (by kernel_rfl)) fun a ha => ?_
    refine sgh ha 3 [2, 2, 4] [(1, .pointer (some ⟨g3, 0, none⟩)), (30, .bool (decide (a0.Bits > (IntKind.i64.wrap ((8 : Int) * a0.Addr.Size)))))] (by kernel_rfl) fun a ha => ?_
    obtain rfl := Option.some.inj H
    exact J11 _ _ (ha.sel (by kernel_rfl)) hE5 hn6 hC hM
def vineryref02_PrefixText.f (k : Nat) (a0 : S_api_Prefix) : Option (List UInt8) := (vineryref02_RightPrefix.f k a0).bind fun t8 => (if (!t8) = true then some ((([] : List UInt8) : List UInt8)) else (vineryref02_Text.f k a0.Addr).bind fun t14 => (if (t14 ++ ([47] : List UInt8)).length ≤ 9223372036854775807 then (vineryref02_Number.f k a0.Bits (10 : Int)).bind fun t16 => (if ((t14 ++ ([47] : List UInt8)) ++ t16).length ≤ 9223372036854775807 then some (((t14 ++ ([47] : List UInt8)) ++ t16 : List UInt8)) else none) else none))
set_option maxRecDepth 100000 in
theorem vineryref02_PrefixText.walk (w : World) (M : List Nat) (hM : MS M w) (a0 : S_api_Prefix) (k : Nat) (r : List UInt8) (H : vineryref02_PrefixText.f k a0 = some r) :
    To Tryd.prog 22 [.agg (cS_api_Prefix a0).toArray] w fun v w' => v = .string (bstr r) ∧ Chg [] w w' ∧ MS (M) w' := by
 unfold vineryref02_PrefixText.f at H
 refine ent Tryd.func22 rfl [(0, .agg (cS_api_Prefix a0).toArray)] rfl (by rfl) fun a ha => ?_
 have hC : Chg [] w w := Chg.refl _ _
 refine wp_seq_k fun K1 hK1 => ?_
 refine wp_region_lit ?_
 refine bx (cs := (cS_api_Prefix a0)) ha rfl rfl rfl rfl rfl fun a w2 g3 hN4 ha => ?_
 have hn6 := hN4.notin hM
 have hM : MS (M) w2 := (hM.chg hN4.chg)
 have hC := hC.trans hN4.chg (Ok.nil _ _)
 have hE5 : ∀ j v, (cS_api_Prefix a0)[j]? = some v → w2.cell? ⟨g3, 0 + j, none⟩ = some v := Box.cells (New.box hN4)
 refine seg ha 1 [(1, .pointer (some ⟨g3, 0, none⟩))] (by kernel_rfl) fun a ha => ?_
 refine hK1 _ _ ?_; try clear hK1 K1
 refine wp_seq_k fun K7 hK7 => ?_
 refine wp_region_lit ?_
 refine ldA (cs := (cS_api_Prefix a0)) ha rfl (by kernel_rfl) rfl rfl rfl (cells_sub hE5 (all := (cS_api_Prefix a0)) [] [] (by kernel_rfl)) fun a ha => ?_
 obtain ⟨t8, H8, H⟩ := bind_some H
 refine cl ha (by rfl) (by kernel_rfl) (by rfl) (by rfl) (by rfl) (vineryref02_RightPrefix.walk w2 _ hM a0 k _ H8) ?_
 rintro _ w8 ⟨rfl, hc8, hMn⟩ a ha
 have o1 : Ok [] (M) w2.heap.size := Ok.nil _ _
 have o2 : Ok (M) (M) w2.heap.size := (Ok.refl _ _)
 have q_hn6 : g3 ∉ M := fun h => (o2 g3 h).elim hn6 (fun h => absurd (lt_cell (hE5 0 _ rfl)) (Nat.not_lt.2 h))
 have hE5 : ∀ j v, (cS_api_Prefix a0)[j]? = some v → w8.cell? ⟨g3, 0 + j, none⟩ = some v := fun j v hv => (cell_keep hc8 o1 hn6 (hE5 j v hv))
 have hn6 := q_hn6
 have hM : MS (M) w8 := (hM.chg hc8)
 have hC := hC.trans hc8 (Ok.nil _ _)
 refine seg ha 1 [(1, .pointer (some ⟨g3, 0, none⟩)), (3, .bool t8)] (by kernel_rfl) fun a ha => ?_
 refine hK7 _ _ ?_; try clear hK7 K7
 refine wp_seq_k fun K9 hK9 => ?_
 refine wp_seq_k fun K10 hK10 => ?_
 refine wp_region_lit ?_
 refine seg ha 2 [(1, .pointer (some ⟨g3, 0, none⟩)), (7, .bool (!t8))] (by kernel_rfl) fun a ha => ?_
 refine hK10 _ _ ?_; try clear hK10 K10
 refine cnd ha rfl (fun hc11 => ?_) (fun hc11 => ?_)
 ·have H := ite_t hc11 H
  refine wp_seq_k fun K12 hK12 => ?_
  refine wp_region_lit ?_
  refine seg ha 1 [(2, .string (bstr ([] : List UInt8)))] (by kernel_rfl) fun a ha => ?_
  refine hK12 _ _ ?_; try clear hK12 K12
  refine wp_ret ?_
  try simp only [Exit.then, Exit.inBlock]
  obtain rfl := Option.some.inj H
  refine rt1 ha rfl rfl ?_
  exact ⟨rfl, hC, hM⟩
 ·have H := ite_f hc11 H
  refine wp_skip ?_
  refine hK9 _ _ ?_; try clear hK9 K9
  refine wp_seq_k fun K13 hK13 => ?_
  refine drq0 (fun w' => Chg [] w8 w') (by kernel_rfl) (by kernel_rfl) (fun _ h => h) ?_
  refine qp 0 (.pointer (some ⟨g3, 0, none⟩)) ha rfl rfl rfl (by kernel_rfl) fun a ha => ?_
  refine qv (v := .agg (cS_api_Addr a0.Addr).toArray) ha rfl rfl rfl (fun w' hs => ldA_run (cs := (cS_api_Addr a0.Addr)) ha rfl (by kernel_rfl) (cells_sub (fun j v hv => hs.keep (hE5 j v hv)) (all := (cS_api_Prefix a0)) [] [.int .i64 a0.Bits] (by kernel_rfl))) fun a ha => ?_
  obtain ⟨t14, H14, H⟩ := bind_some H
  refine qc (.string (bstr t14)) ha (by rfl) (by kernel_rfl) (by rfl) (by rfl) (by rfl) (fun w' hs => (vineryref02_Text.walk w' [] (MS.nil _) a0.Addr k _ H14).mono fun v w'' ⟨hv, hc, _⟩ => ⟨hv, hs.trans hc (Ok.nil _ _)⟩) fun a ha => ?_
  obtain ⟨hx15, H⟩ := ite_some H
  refine qv (v := .string (bstr (t14 ++ ([47] : List UInt8)))) ha rfl rfl rfl (fun w' hs => sadd_run ha rfl rfl hx15 w') fun a ha => ?_
  refine qp 0 (.pointer (some ⟨g3, 0 + 17, none⟩)) ha rfl rfl rfl (by kernel_rfl) fun a ha => ?_
  refine qv (v := .int .i64 a0.Bits) ha rfl rfl rfl (fun w' hs => ld_run ha rfl (by kernel_rfl) (hs.keep (hE5 17 (.int .i64 a0.Bits) (by kernel_rfl)))) fun a ha => ?_
  obtain ⟨t16, H16, H⟩ := bind_some H
  refine qc (.string (bstr t16)) ha (by rfl) (by kernel_rfl) (by rfl) (by rfl) (by rfl) (fun w' hs => (vineryref02_Number.walk w' [] (MS.nil _) a0.Bits (10 : Int) k _ H16).mono fun v w'' ⟨hv, hc, _⟩ => ⟨hv, hs.trans hc (Ok.nil _ _)⟩) fun a ha => ?_
  obtain ⟨hx17, H⟩ := ite_some H
  refine qv (v := .string (bstr ((t14 ++ ([47] : List UInt8)) ++ t16))) ha rfl rfl rfl (fun w' hs => sadd_run ha rfl rfl hx17 w') fun a ha => ?_
  refine qp 0 (.string (bstr ((t14 ++ ([47] : List UInt8)) ++ t16))) ha rfl rfl rfl (by kernel_rfl) fun a ha => ?_
  refine wpQuiet_nil ?_
  intro w18 hc19
  have o1 : Ok [] (M) w8.heap.size := Ok.nil _ _
  have o2 : Ok (M) (M) w8.heap.size := (Ok.refl _ _)
  have q_hn6 : g3 ∉ M := fun h => (o2 g3 h).elim hn6 (fun h => absurd (lt_cell (hE5 0 _ rfl)) (Nat.not_lt.2 h))
  have hE5 : ∀ j v, (cS_api_Prefix a0)[j]? = some v → w18.cell? ⟨g3, 0 + j, none⟩ = some v := fun j v hv => (cell_keep hc19 o1 hn6 (hE5 j v hv))
  have hn6 := q_hn6
  have hM : MS (M) w18 := (hM.chg hc19)
  have hC := hC.trans hc19 (Ok.nil _ _)
  refine wpl_end ?_
  refine hK13 _ _ ?_; try clear hK13 K13
  refine wp_ret ?_
  try simp only [Exit.then, Exit.inBlock]
  obtain rfl := Option.some.inj H
  refine rt1 ha rfl rfl ?_
  exact ⟨rfl, hC, hM⟩
def vineryref02_ParsePrefix.f (k : Nat) (a0 : List UInt8) : Option (S_api_Prefix × Int) := (vineryref02_split.f k a0 (47 : Int)).bind fun t7 => (if (if (decide (((bstr a0).size : Int) > (43 : Int))) = true then true else ((t7.length : Int) != (2 : Int))) = true then some (((⟨(⟨(0 : Int), (List.replicate 16 (0 : Int))⟩ : S_api_Addr), (0 : Int)⟩ : S_api_Prefix) : S_api_Prefix), ((4 : Int) : Int)) else (if 0 ≤ (0 : Int) ∧ (0 : Int) < (t7.length : Int) then (vineryref02_Parse.f k (rd t7 (0 : Int))).bind fun t23 => ((if 0 ≤ (1 : Int) ∧ (1 : Int) < (t7.length : Int) then (vineryref02_Digits.f k (rd t7 (1 : Int)) (10 : Int) (3 : Int)).bind fun t55 => some (t55 : Int) else none)).bind fun s33 => ((if (t23.2 != (0 : Int)) = true then some (true : Bool) else (if ((bstr a0).toList == (bstr ([] : List UInt8)).toList) = true then some (true : Bool) else (vineryref02_PrefixText.f k (⟨t23.1, s33⟩ : S_api_Prefix)).bind fun t46 => some (!((bstr t46).toList == (bstr a0).toList) : Bool)))).bind fun s36 => (if s36 = true then some (((⟨(⟨(0 : Int), (List.replicate 16 (0 : Int))⟩ : S_api_Addr), (0 : Int)⟩ : S_api_Prefix) : S_api_Prefix), ((4 : Int) : Int)) else some (((⟨t23.1, s33⟩ : S_api_Prefix) : S_api_Prefix), ((0 : Int) : Int))) else none))
set_option maxRecDepth 100000 in
theorem vineryref02_ParsePrefix.walk (w : World) (M : List Nat) (hM : MS M w) (a0 : List UInt8) (k : Nat) (r : S_api_Prefix × Int) (H : vineryref02_ParsePrefix.f k a0 = some r) :
    To Tryd.prog 20 [.string (bstr a0)] w fun v w' => v = .tuple #[.agg (cS_api_Prefix r.1).toArray, .int .i64 r.2] ∧ Chg [] w w' ∧ MS (M) w' := by
 unfold vineryref02_ParsePrefix.f at H
 refine ent Tryd.func20 rfl [(0, .string (bstr a0))] rfl (by rfl) fun a ha => ?_
 have hC : Chg [] w w := Chg.refl _ _
 refine wp_seq_k fun K1 hK1 => ?_
 refine wp_region_lit ?_
 refine al (cs := (cS_api_Prefix (⟨(⟨(0 : Int), (List.replicate 16 (0 : Int))⟩ : S_api_Addr), (0 : Int)⟩ : S_api_Prefix))) (z := .agg (cS_api_Prefix (⟨(⟨(0 : Int), (List.replicate 16 (0 : Int))⟩ : S_api_Addr), (0 : Int)⟩ : S_api_Prefix)).toArray) ha (fun w => by kernel_rfl) rfl rfl rfl rfl fun a w2 g3 hN4 ha => ?_
 have p_i5_M : ∀ x ∈ [g3], x ∉ M := fun x hx hy => absurd (hM x (hy)) (Nat.not_lt.2 ((hN4.ge1) x hx))
 have e_i5 : ∀ x ∈ [g3], w.heap.size ≤ x := fun x hx => Nat.le_trans hC.size ((hN4.ge1) x hx)
 have hM : MS ([g3] ++ (M)) w2 := (MS.app hN4.ms (hM.chg hN4.chg))
 have hC := hC.trans hN4.chg (Ok.nil _ _)
 have hBg3 : Box w2 g3 (cS_api_Prefix (⟨(⟨(0 : Int), (List.replicate 16 (0 : Int))⟩ : S_api_Addr), (0 : Int)⟩ : S_api_Prefix)) := hN4.box
 refine seg ha 1 [(0, .string (bstr a0)), (2, .pointer (some ⟨g3, 0, none⟩))] (by kernel_rfl) fun a ha => ?_
 refine hK1 _ _ ?_; try clear hK1 K1
 refine wp_seq_k fun K6 hK6 => ?_
 refine wp_region_lit ?_
 refine seg ha 1 [(0, .string (bstr a0)), (2, .pointer (some ⟨g3, 0, none⟩)), (8, .string (bstr a0))] (by kernel_rfl) fun a ha => ?_
 obtain ⟨t7, H7, H⟩ := bind_some H
 refine cl ha (by rfl) (by kernel_rfl) (by rfl) (by rfl) (by rfl) (vineryref02_split.walk w2 _ hM a0 (47 : Int) k _ H7) ?_
 rintro _ w7 ⟨ao8, cap8, rfl, f8, ne_i8, hc7, hMn⟩ a ha
 have hBg3 := hBg3.chg hc7 (fun h => nomatch h)
 have p_i8_i5 : ∀ x ∈ blkL ao8, x ∉ ([g3]) := fun x hx hy => absurd (hM x (ml hy)) (Nat.not_lt.2 (ne_i8 x hx))
 have p_i8_M : ∀ x ∈ blkL ao8, x ∉ M := fun x hx hy => absurd (hM x (mr (hy))) (Nat.not_lt.2 (ne_i8 x hx))
 have e_i8 : ∀ x ∈ blkL ao8, w.heap.size ≤ x := fun x hx => Nat.le_trans hC.size (ne_i8 x hx)
 have hM : MS (blkL ao8 ++ ([g3] ++ (M))) w7 := (MS.app (fun x h => hMn x (ml h)) (hM.chg hc7))
 have hC := hC.trans hc7 (Ok.nil _ _)
 refine seg ha 1 [(0, .string (bstr a0)), (2, .pointer (some ⟨g3, 0, none⟩)), (4, .slice ao8 t7.length cap8)] (by kernel_rfl) fun a ha => ?_
 refine hK6 _ _ ?_; try clear hK6 K6
 refine wp_seq_k fun K9 hK9 => ?_
 refine wp_seq_k fun K10 hK10 => ?_
 refine wp_region_lit ?_
 refine seg ha 8 [(0, .string (bstr a0)), (2, .pointer (some ⟨g3, 0, none⟩)), (4, .slice ao8 t7.length cap8), (17, .bool (if (decide (((bstr a0).size : Int) > (43 : Int))) = true then true else ((t7.length : Int) != (2 : Int))))] (by kernel_rfl) fun a ha => ?_
 refine hK10 _ _ ?_; try clear hK10 K10
 refine cnd ha rfl (fun hc11 => ?_) (fun hc11 => ?_)
 ·have H := ite_t hc11 H
  refine wp_seq_k fun K12 hK12 => ?_
  refine wp_region_lit ?_
  refine opk (v := .agg (cS_api_Prefix (⟨(⟨(0 : Int), (List.replicate 16 (0 : Int))⟩ : S_api_Addr), (0 : Int)⟩ : S_api_Prefix)).toArray) ha rfl rfl rfl rfl rfl (fun w => by kernel_rfl) fun a ha => ?_
  refine stA (l := (cS_api_Prefix (⟨(⟨(0 : Int), (List.replicate 16 (0 : Int))⟩ : S_api_Addr), (0 : Int)⟩ : S_api_Prefix))) ha rfl rfl rfl (by kernel_rfl) rfl rfl hBg3 rfl fun a w13 ha hb2 hc14 _ => ?_
  have hM : MS (blkL ao8 ++ ([g3] ++ (M))) w13 := (hM.chg hc14)
  have hC := hC.trans hc14 (fun x h => .inr (e_i5 x h))
  have hBg3 : Box w13 g3 (cS_api_Prefix (⟨(⟨(0 : Int), (List.replicate 16 (0 : Int))⟩ : S_api_Addr), (0 : Int)⟩ : S_api_Prefix)) := hb2
  refine seg ha 1 [(2, .pointer (some ⟨g3, 0, none⟩)), (3, .int .i64 (4 : Int))] (by kernel_rfl) fun a ha => ?_
  refine hK12 _ _ ?_; try clear hK12 K12
  refine wp_ret ?_
  try simp only [Exit.then, Exit.inBlock]
  have hBg3 := hBg3.chg (Chg.refl [] _) (fun h => nomatch h)
  have hM : MS (M) w13 := (fun x h => hM.chg (Chg.refl [] _) x (mr (mr (h))))
  have hC := hC.trans (Chg.refl [] _) (Ok.nil _ _)
  obtain rfl := Option.some.inj H
  refine rtr ha (res2 rfl (roA ha rfl hBg3 (by kernel_rfl)) (roT ha rfl)) ?_
  exact ⟨rfl, hC, hM⟩
 ·have H := ite_f hc11 H
  refine wp_skip ?_
  refine hK9 _ _ ?_; try clear hK9 K9
  refine wp_seq_k fun K15 hK15 => ?_
  refine wp_region_lit ?_
  refine seg ha 1 [(0, .string (bstr a0)), (2, .pointer (some ⟨g3, 0, none⟩)), (4, .slice ao8 t7.length cap8), (20, .slice ao8 t7.length cap8)] (by kernel_rfl) fun a ha => ?_
  obtain ⟨⟨hx16, hx16'⟩, H⟩ := ite_some H
  refine ix (r := rStr) ha (by kernel_rfl) (by kernel_rfl) rfl rfl rfl rfl rfl (Own.toRSl (M' := []) f8 (Ok.nil _ _) (fun _ _ h => nomatch h)) hx16 hx16' fun a ge17 oe18 cs19 hn22 hR20 hE21 ha => ?_
  rw [rd_get] at hR20
  obtain rfl := hR20
  have hE21 : ∀ j v, ([.string (bstr (rd t7 (0 : Int)))] : List Value)[j]? = some v → w7.cell? ⟨ge17, oe18 + j, none⟩ = some v := hE21
  refine ld ha rfl (by kernel_rfl) rfl rfl rfl (hE21 0 (.string (bstr (rd t7 (0 : Int)))) (by kernel_rfl)) fun a ha => ?_
  obtain ⟨t23, H23, H⟩ := bind_some H
  refine cl ha (by rfl) (by kernel_rfl) (by rfl) (by rfl) (by rfl) (vineryref02_Parse.walk w7 _ hM (rd t7 (0 : Int)) k _ H23) ?_
  rintro _ w23 ⟨rfl, hc23, hMn⟩ a ha
  have o1 : Ok [] (blkL ao8 ++ ([g3] ++ (M))) w7.heap.size := Ok.nil _ _
  have o2 : Ok (blkL ao8 ++ ([g3] ++ (M))) (blkL ao8 ++ ([g3] ++ (M))) w7.heap.size := (Ok.refl _ _)
  have f8 := f8.chg hc23 o1 o2 (fun _ _ h => nomatch h) (fun _ h => ml h)
  have hBg3 := hBg3.chg hc23 (fun h => nomatch h)
  have hM : MS (blkL ao8 ++ ([g3] ++ (M))) w23 := (hM.chg hc23)
  have hC := hC.trans hc23 (Ok.nil _ _)
  refine seg ha 3 [(0, .string (bstr a0)), (2, .pointer (some ⟨g3, 0, none⟩)), (4, .slice ao8 t7.length cap8), (24, .agg (cS_api_Addr t23.1).toArray), (25, .int .i64 t23.2)] (by kernel_rfl) fun a ha => ?_
  refine al (cs := (cS_api_Addr (⟨(0 : Int), (List.replicate 16 (0 : Int))⟩ : S_api_Addr))) (z := .agg (cS_api_Addr (⟨(0 : Int), (List.replicate 16 (0 : Int))⟩ : S_api_Addr)).toArray) ha (fun w => by kernel_rfl) rfl rfl rfl rfl fun a w24 g25 hN26 ha => ?_
  have o1 : Ok [] (blkL ao8 ++ ([g3] ++ (M))) w23.heap.size := Ok.nil _ _
  have o2 : Ok ([g25] ++ (blkL ao8 ++ ([g3] ++ (M)))) (blkL ao8 ++ ([g3] ++ (M))) w23.heap.size := (Ok.app (hN26.ok _) (Ok.refl _ _))
  have f8 := f8.chg hN26.chg o1 o2 (fun _ _ h => nomatch h) (fun _ h => mr (ml h))
  have hBg3 := hBg3.chg hN26.chg (fun h => nomatch h)
  have p_i27_i8 : ∀ x ∈ [g25], x ∉ (blkL ao8) := fun x hx hy => absurd (hM x (ml hy)) (Nat.not_lt.2 ((hN26.ge1) x hx))
  have p_i27_i5 : ∀ x ∈ [g25], x ∉ ([g3]) := fun x hx hy => absurd (hM x (mr (ml hy))) (Nat.not_lt.2 ((hN26.ge1) x hx))
  have p_i27_M : ∀ x ∈ [g25], x ∉ M := fun x hx hy => absurd (hM x (mr (mr (hy)))) (Nat.not_lt.2 ((hN26.ge1) x hx))
  have e_i27 : ∀ x ∈ [g25], w.heap.size ≤ x := fun x hx => Nat.le_trans hC.size ((hN26.ge1) x hx)
  have hM : MS ([g25] ++ (blkL ao8 ++ ([g3] ++ (M)))) w24 := (MS.app hN26.ms (hM.chg hN26.chg))
  have hC := hC.trans hN26.chg (Ok.nil _ _)
  have hBg25 : Box w24 g25 (cS_api_Addr (⟨(0 : Int), (List.replicate 16 (0 : Int))⟩ : S_api_Addr)) := hN26.box
  refine stA (l := (cS_api_Addr t23.1)) ha rfl rfl rfl (by kernel_rfl) rfl rfl hBg25 rfl fun a w28 ha hb2 hc29 _ => ?_
  have o1 : Ok [g25] ([g25] ++ (blkL ao8 ++ ([g3] ++ (M)))) w24.heap.size := (fun _ h => .inl (ml h))
  have o2 : Ok ([g25] ++ (blkL ao8 ++ ([g3] ++ (M)))) ([g25] ++ (blkL ao8 ++ ([g3] ++ (M)))) w24.heap.size := (Ok.refl _ _)
  have f8 := f8.chg hc29 o1 o2 (fun x (hx : x ∈ blkL ao8) (hy : x ∈ [g25]) => p_i27_i8 x hy hx) (fun _ h => mr (ml h))
  have hBg3 := hBg3.chg hc29 ((fun x (hx : x ∈ [g3]) (hy : x ∈ [g25]) => p_i27_i5 x hy hx) g3 (by simp))
  have hM : MS ([g25] ++ (blkL ao8 ++ ([g3] ++ (M)))) w28 := (hM.chg hc29)
  have hC := hC.trans hc29 (fun x h => .inr (e_i27 x h))
  have hBg25 : Box w28 g25 (cS_api_Addr t23.1) := hb2
  refine seg ha 1 [(0, .string (bstr a0)), (2, .pointer (some ⟨g3, 0, none⟩)), (4, .slice ao8 t7.length cap8), (5, .pointer (some ⟨g25, 0, none⟩)), (6, .int .i64 t23.2)] (by kernel_rfl) fun a ha => ?_
  refine hK15 _ _ ?_; try clear hK15 K15
  refine wp_seq_k fun K30 hK30 => ?_
  have okS : Ok [] ([g25] ++ (blkL ao8 ++ ([g3] ++ (M)))) w28.heap.size := Ok.nil _ _
  have z_f8 := (Own.toRSl (M' := []) f8 (Ok.nil _ _) (fun _ _ h => nomatch h))
  have z_hBg3 := hBg3
  have z_hBg25 := hBg25
  refine drw (fun w' => Chg [] w28 w') (by kernel_rfl) fun w31 hc32 _ => ?_
  have hS : Chg [] w28 w31 := (Chg.refl [] _).trans hc32 (Ok.nil _ _)
  have o1 : Ok [] ([g25] ++ (blkL ao8 ++ ([g3] ++ (M)))) w28.heap.size := Ok.nil _ _
  have o2 : Ok ([g25] ++ (blkL ao8 ++ ([g3] ++ (M)))) ([g25] ++ (blkL ao8 ++ ([g3] ++ (M)))) w28.heap.size := (Ok.refl _ _)
  have f8 := f8.chg hc32 o1 o2 (fun _ _ h => nomatch h) (fun _ h => mr (ml h))
  have hBg3 := hBg3.chg hc32 (fun h => nomatch h)
  have hBg25 := hBg25.chg hc32 (fun h => nomatch h)
  have hM : MS ([g25] ++ (blkL ao8 ++ ([g3] ++ (M)))) w31 := (hM.chg hc32)
  have hC := hC.trans hc32 (Ok.nil _ _)
  obtain ⟨s33, H33, H⟩ := bind_some H
  have J33 : ∀ (a : Act) (w33 : World) (gd7 : Nat), Has a Tryd.f20.ntmps [(0, .string (bstr a0)), (2, .pointer (some ⟨g3, 0, none⟩)), (6, .int .i64 t23.2), (7, .pointer (some ⟨gd7, 0, none⟩))] → (Box w33 g3 (cS_api_Prefix (⟨(⟨(0 : Int), (List.replicate 16 (0 : Int))⟩ : S_api_Addr), (0 : Int)⟩ : S_api_Prefix))) → (Box w33 g25 (cS_api_Addr t23.1)) → (Box w33 gd7 (cS_api_Prefix (⟨t23.1, s33⟩ : S_api_Prefix))) → (∀ x ∈ [gd7], w.heap.size ≤ x) → (∀ x ∈ [gd7], x ∉ [g25]) → (∀ x ∈ [gd7], x ∉ [g3]) → (∀ x ∈ [gd7], x ∉ M) → (Chg [] w w33) → (MS ([gd7] ++ ([g25] ++ ([g3] ++ (M)))) w33) → K30 a w33 := by
   intro a w33 gd7 ha hBg3 hBg25 hBgd7 e_iD007 p_iD007_i27 p_iD007_i5 p_iD007_M hC hM
   refine hK30 _ _ ?_; try clear hK30 K30
   refine wp_seq_k fun K34 hK34 => ?_
   refine wp_seq_k fun K35 hK35 => ?_
   refine wp_region_lit ?_
   obtain ⟨s36, H36, H⟩ := bind_some H
   have J36 : ∀ (a : Act) (w36 : World), Has a Tryd.f20.ntmps [(2, .pointer (some ⟨g3, 0, none⟩)), (7, .pointer (some ⟨gd7, 0, none⟩)), (43, .bool s36)] → (Box w36 g3 (cS_api_Prefix (⟨(⟨(0 : Int), (List.replicate 16 (0 : Int))⟩ : S_api_Addr), (0 : Int)⟩ : S_api_Prefix))) → (Box w36 g25 (cS_api_Addr t23.1)) → (Box w36 gd7 (cS_api_Prefix (⟨t23.1, s33⟩ : S_api_Prefix))) → (Chg [] w w36) → (MS ([gd7] ++ ([g25] ++ ([g3] ++ (M)))) w36) → K35 a w36 := by
    intro a w36 ha hBg3 hBg25 hBgd7 hC hM
    refine hK35 _ _ ?_; try clear hK35 K35
    refine cnd ha rfl (fun hc37 => ?_) (fun hc37 => ?_)
    ·have H := ite_t hc37 H
     refine wp_seq_k fun K38 hK38 => ?_
     refine wp_region_lit ?_
     refine opk (v := .agg (cS_api_Prefix (⟨(⟨(0 : Int), (List.replicate 16 (0 : Int))⟩ : S_api_Addr), (0 : Int)⟩ : S_api_Prefix)).toArray) ha rfl rfl rfl rfl rfl (fun w => by kernel_rfl) fun a ha => ?_
     refine stA (l := (cS_api_Prefix (⟨(⟨(0 : Int), (List.replicate 16 (0 : Int))⟩ : S_api_Addr), (0 : Int)⟩ : S_api_Prefix))) ha rfl rfl rfl (by kernel_rfl) rfl rfl hBg3 rfl fun a w39 ha hb2 hc40 _ => ?_
     have hBg25 := hBg25.chg hc40 (p_i27_i5 g25 (by simp))
     have hBgd7 := hBgd7.chg hc40 (p_iD007_i5 gd7 (by simp))
     have hM : MS ([gd7] ++ ([g25] ++ ([g3] ++ (M)))) w39 := (hM.chg hc40)
     have hC := hC.trans hc40 (fun x h => .inr (e_i5 x h))
     have hBg3 : Box w39 g3 (cS_api_Prefix (⟨(⟨(0 : Int), (List.replicate 16 (0 : Int))⟩ : S_api_Addr), (0 : Int)⟩ : S_api_Prefix)) := hb2
     refine seg ha 1 [(2, .pointer (some ⟨g3, 0, none⟩)), (3, .int .i64 (4 : Int))] (by kernel_rfl) fun a ha => ?_
     refine hK38 _ _ ?_; try clear hK38 K38
     refine wp_ret ?_
     try simp only [Exit.then, Exit.inBlock]
     have hBg3 := hBg3.chg (Chg.refl [] _) (fun h => nomatch h)
     have hBg25 := hBg25.chg (Chg.refl [] _) (fun h => nomatch h)
     have hBgd7 := hBgd7.chg (Chg.refl [] _) (fun h => nomatch h)
     have hM : MS (M) w39 := (fun x h => hM.chg (Chg.refl [] _) x (mr (mr (mr (h)))))
     have hC := hC.trans (Chg.refl [] _) (Ok.nil _ _)
     obtain rfl := Option.some.inj H
     refine rtr ha (res2 rfl (roA ha rfl hBg3 (by kernel_rfl)) (roT ha rfl)) ?_
     exact ⟨rfl, hC, hM⟩
    ·have H := ite_f hc37 H
     refine wp_skip ?_
     refine hK34 _ _ ?_; try clear hK34 K34
     refine wp_seq_k fun K41 hK41 => ?_
     refine wp_region_lit ?_
     refine ldA (cs := (cS_api_Prefix (⟨t23.1, s33⟩ : S_api_Prefix))) ha rfl (by kernel_rfl) rfl rfl rfl (cells_sub (Box.cells hBgd7) (all := (cS_api_Prefix (⟨t23.1, s33⟩ : S_api_Prefix))) [] [] (by kernel_rfl)) fun a ha => ?_
     refine stA (l := (cS_api_Prefix (⟨t23.1, s33⟩ : S_api_Prefix))) ha rfl rfl rfl (by kernel_rfl) rfl rfl hBg3 rfl fun a w42 ha hb2 hc43 _ => ?_
     have hBg25 := hBg25.chg hc43 (p_i27_i5 g25 (by simp))
     have hBgd7 := hBgd7.chg hc43 (p_iD007_i5 gd7 (by simp))
     have hM : MS ([gd7] ++ ([g25] ++ ([g3] ++ (M)))) w42 := (hM.chg hc43)
     have hC := hC.trans hc43 (fun x h => .inr (e_i5 x h))
     have hBg3 : Box w42 g3 (cS_api_Prefix (⟨t23.1, s33⟩ : S_api_Prefix)) := hb2
     refine seg ha 1 [(2, .pointer (some ⟨g3, 0, none⟩)), (3, .int .i64 (0 : Int))] (by kernel_rfl) fun a ha => ?_
     refine hK41 _ _ ?_; try clear hK41 K41
     refine wp_ret ?_
     try simp only [Exit.then, Exit.inBlock]
     have hBg3 := hBg3.chg (Chg.refl [] _) (fun h => nomatch h)
     have hBg25 := hBg25.chg (Chg.refl [] _) (fun h => nomatch h)
     have hBgd7 := hBgd7.chg (Chg.refl [] _) (fun h => nomatch h)
     have hM : MS (M) w42 := (fun x h => hM.chg (Chg.refl [] _) x (mr (mr (mr (h)))))
     have hC := hC.trans (Chg.refl [] _) (Ok.nil _ _)
     obtain rfl := Option.some.inj H
     refine rtr ha (res2 rfl (roA ha rfl hBg3 (by kernel_rfl)) (roT ha rfl)) ?_
     exact ⟨rfl, hC, hM⟩
   have H := H36
   refine seg ha 3 [(34, .bool (t23.2 != (0 : Int))), (0, .string (bstr a0)), (2, .pointer (some ⟨g3, 0, none⟩)), (7, .pointer (some ⟨gd7, 0, none⟩))] (by kernel_rfl) fun a ha => ?_
   rcases Bool.eq_false_or_eq_true (t23.2 != (0 : Int)) with hb44 | hb44
   ·have ha := ha.lit hb44
    have H := ite_t hb44 H
    refine sgh ha 9 [1, 1, 3, 0, 1, 1, 1, 1, 3] [(2, .pointer (some ⟨g3, 0, none⟩)), (7, .pointer (some ⟨gd7, 0, none⟩)), (43, .bool true)] (by kernel_rfl) fun a ha => ?_
    obtain rfl := Option.some.inj H
    exact J36 _ _ (ha.sel (by kernel_rfl)) hBg3 hBg25 hBgd7 hC hM
   ·have ha := ha.lit hb44
    have H := ite_f hb44 H
    refine sgh ha 4 [2, 2, 4, 0] [(38, .bool ((bstr a0).toList == (bstr ([] : List UInt8)).toList)), (0, .string (bstr a0)), (2, .pointer (some ⟨g3, 0, none⟩)), (7, .pointer (some ⟨gd7, 0, none⟩))] (by kernel_rfl) fun a ha => ?_
    rcases Bool.eq_false_or_eq_true ((bstr a0).toList == (bstr ([] : List UInt8)).toList) with hb45 | hb45
    ·have ha := ha.lit hb45
     have H := ite_t hb45 H
     refine sgh ha 5 [1, 1, 1, 1, 3] [(2, .pointer (some ⟨g3, 0, none⟩)), (7, .pointer (some ⟨gd7, 0, none⟩)), (43, .bool true)] (by kernel_rfl) fun a ha => ?_
     obtain rfl := Option.some.inj H
     exact J36 _ _ (ha.sel (by kernel_rfl)) hBg3 hBg25 hBgd7 hC hM
    ·have ha := ha.lit hb45
     have H := ite_f hb45 H
     refine ldA (cs := (cS_api_Prefix (⟨t23.1, s33⟩ : S_api_Prefix))) ha rfl (by kernel_rfl) rfl rfl rfl (cells_sub (Box.cells hBgd7) (all := (cS_api_Prefix (⟨t23.1, s33⟩ : S_api_Prefix))) [] [] (by kernel_rfl)) fun a ha => ?_
     obtain ⟨t46, H46, H⟩ := bind_some H
     refine cl ha (by rfl) (by kernel_rfl) (by rfl) (by rfl) (by rfl) (vineryref02_PrefixText.walk w33 _ hM (⟨t23.1, s33⟩ : S_api_Prefix) k _ H46) ?_
     rintro _ w46 ⟨rfl, hc46, hMn⟩ a ha
     have hBg3 := hBg3.chg hc46 (fun h => nomatch h)
     have hBg25 := hBg25.chg hc46 (fun h => nomatch h)
     have hBgd7 := hBgd7.chg hc46 (fun h => nomatch h)
     have hM : MS ([gd7] ++ ([g25] ++ ([g3] ++ (M)))) w46 := (hM.chg hc46)
     have hC := hC.trans hc46 (Ok.nil _ _)
     refine sgh ha 3 [2, 2, 4] [(2, .pointer (some ⟨g3, 0, none⟩)), (7, .pointer (some ⟨gd7, 0, none⟩)), (43, .bool (!((bstr t46).toList == (bstr a0).toList)))] (by kernel_rfl) fun a ha => ?_
     obtain rfl := Option.some.inj H
     exact J36 _ _ (ha.sel (by kernel_rfl)) hBg3 hBg25 hBgd7 hC hM
  have H := H33
  refine tkz 0 ha (v := .agg (cS_api_Addr t23.1).toArray) (y := fun w' hs => ldA_run (cs := (cS_api_Addr t23.1)) ha rfl (by kernel_rfl) (cells_sub (Box.cells (Box.chg z_hBg25 hs (fun h => nomatch h))) (all := (cS_api_Addr t23.1)) [] [] (by kernel_rfl))) (s := hS) (q := fun a ha => ?_)
  refine tkpz 1 0 (.slice ao8 t7.length cap8) ha (s := hS) (q := fun a ha => ?_)
  obtain ⟨⟨hx47, hx47'⟩, H⟩ := ite_some H
  obtain ⟨ge48, oe490, cs50, hx47eq, hn53, hR51, hE52⟩ := RSl.elem z_f8 (Int.toNat (1 : Int)) (by omega)
  rw [rd_get] at hR51
  obtain rfl := hR51
  have hE52 : ∀ j v, ([.string (bstr (rd t7 (1 : Int)))] : List Value)[j]? = some v → w28.cell? ⟨ge48, (oe490 + (Int.toNat (1 : Int)) * rStr.sz) + j, none⟩ = some v := hE52
  refine tkz 2 ha (v := .pointer (some ⟨ge48, (oe490 + (Int.toNat (1 : Int)) * rStr.sz), none⟩)) (y := fun w' _ => ix_run (r := rStr) (T := 9) ha (by kernel_rfl) (by kernel_rfl) (by rfl) (by rfl) hx47eq hx47 hx47') (s := hS) (q := fun a ha => ?_)
  refine tkz 3 ha (v := .string (bstr (rd t7 (1 : Int)))) (y := fun w' hs => ld_run ha rfl (by kernel_rfl) (cell_keep hs (Ok.nil _ _) hn53 (hE52 0 (.string (bstr (rd t7 (1 : Int)))) (by kernel_rfl)))) (s := hS) (q := fun a ha => ?_)
  refine acs [4, 6] (by kernel_rfl) (by simp) fun i hi => ?_
  simp only [List.mem_cons, List.not_mem_nil, or_false] at hi
  rcases hi with rfl | rfl
  ·refine ⟨_, rfl, fun K54 hK54 => ?_⟩
   obtain ⟨t55, H55, H⟩ := bind_some H
   refine cl ha (by rfl) (by kernel_rfl) (by rfl) (by rfl) (by rfl) (vineryref02_Digits.walk w31 _ hM (rd t7 (1 : Int)) (10 : Int) (3 : Int) k _ H55) ?_
   rintro _ w55 ⟨rfl, hc55, hMn⟩ a ha
   have o1 : Ok [] ([g25] ++ (blkL ao8 ++ ([g3] ++ (M)))) w31.heap.size := Ok.nil _ _
   have o2 : Ok ([g25] ++ (blkL ao8 ++ ([g3] ++ (M)))) ([g25] ++ (blkL ao8 ++ ([g3] ++ (M)))) w31.heap.size := (Ok.refl _ _)
   have f8 := f8.chg hc55 o1 o2 (fun _ _ h => nomatch h) (fun _ h => mr (ml h))
   have hBg3 := hBg3.chg hc55 (fun h => nomatch h)
   have hBg25 := hBg25.chg hc55 (fun h => nomatch h)
   have hM : MS ([g25] ++ (blkL ao8 ++ ([g3] ++ (M)))) w55 := (hM.chg hc55)
   have hC := hC.trans hc55 (Ok.nil _ _)
   have hS := hS.trans hc55 (Ok.nil _ _)
   refine ae hK54 hS ?_; clear hK54 K54
   refine acs [5, 6] (by kernel_rfl) (by simp) fun i hi => ?_
   simp only [List.mem_cons, List.not_mem_nil, or_false] at hi
   rcases hi with rfl | rfl
   ·refine ⟨_, rfl, fun K56 hK56 => ?_⟩
    refine opk (v := .agg (cS_api_Prefix (⟨t23.1, t55⟩ : S_api_Prefix)).toArray) ha rfl rfl rfl rfl rfl (fun w => by kernel_rfl) fun a ha => ?_
    refine ae hK56 hS ?_; clear hK56 K56
    refine ac 6 (by kernel_rfl) (by rfl) fun K57 hK57 => ?_
    refine al (cs := (cS_api_Prefix (⟨(⟨(0 : Int), (List.replicate 16 (0 : Int))⟩ : S_api_Addr), (0 : Int)⟩ : S_api_Prefix))) (z := .agg (cS_api_Prefix (⟨(⟨(0 : Int), (List.replicate 16 (0 : Int))⟩ : S_api_Addr), (0 : Int)⟩ : S_api_Prefix)).toArray) ha (fun w => by kernel_rfl) rfl rfl rfl rfl fun a w58 gd7 hN59 ha => ?_
    have o1 : Ok [] ([g25] ++ (blkL ao8 ++ ([g3] ++ (M)))) w55.heap.size := Ok.nil _ _
    have o2 : Ok ([gd7] ++ ([g25] ++ (blkL ao8 ++ ([g3] ++ (M))))) ([g25] ++ (blkL ao8 ++ ([g3] ++ (M)))) w55.heap.size := (Ok.app (hN59.ok _) (Ok.refl _ _))
    have f8 := f8.chg hN59.chg o1 o2 (fun _ _ h => nomatch h) (fun _ h => mr (mr (ml h)))
    have hBg3 := hBg3.chg hN59.chg (fun h => nomatch h)
    have hBg25 := hBg25.chg hN59.chg (fun h => nomatch h)
    have p_i27_iD007 : ∀ x ∈ [g25], x ∉ ([gd7]) := fun x hy hx => absurd (hM x (ml hy)) (Nat.not_lt.2 ((hN59.ge1) x hx))
    have p_i8_iD007 : ∀ x ∈ blkL ao8, x ∉ ([gd7]) := fun x hy hx => absurd (hM x (mr (ml hy))) (Nat.not_lt.2 ((hN59.ge1) x hx))
    have p_iD007_i5 : ∀ x ∈ [gd7], x ∉ ([g3]) := fun x hx hy => absurd (hM x (mr (mr (ml hy)))) (Nat.not_lt.2 ((hN59.ge1) x hx))
    have p_iD007_M : ∀ x ∈ [gd7], x ∉ M := fun x hx hy => absurd (hM x (mr (mr (mr (hy))))) (Nat.not_lt.2 ((hN59.ge1) x hx))
    have e_iD007 : ∀ x ∈ [gd7], w.heap.size ≤ x := fun x hx => Nat.le_trans hC.size ((hN59.ge1) x hx)
    have hM : MS ([gd7] ++ ([g25] ++ (blkL ao8 ++ ([g3] ++ (M))))) w58 := (MS.app hN59.ms (hM.chg hN59.chg))
    have hC := hC.trans hN59.chg (Ok.nil _ _)
    have d_iD007 : Ok ([gd7]) [] w28.heap.size := fun x hx => .inr (Nat.le_trans hS.size ((hN59.ge1) x hx))
    have hS := hS.trans hN59.chg (Ok.nil _ _)
    have hBgd7 : Box w58 gd7 (cS_api_Prefix (⟨(⟨(0 : Int), (List.replicate 16 (0 : Int))⟩ : S_api_Addr), (0 : Int)⟩ : S_api_Prefix)) := hN59.box
    refine ae hK57 hS ?_; clear hK57 K57
    refine ac 7 (by kernel_rfl) (by rfl) fun K60 hK60 => ?_
    refine stA (l := (cS_api_Prefix (⟨t23.1, t55⟩ : S_api_Prefix))) ha rfl rfl rfl (by kernel_rfl) rfl rfl hBgd7 rfl fun a w61 ha hb2 hc62 _ => ?_
    have o1 : Ok [gd7] ([gd7] ++ ([g25] ++ (blkL ao8 ++ ([g3] ++ (M))))) w58.heap.size := (fun _ h => .inl (ml h))
    have o2 : Ok ([gd7] ++ ([g25] ++ (blkL ao8 ++ ([g3] ++ (M))))) ([gd7] ++ ([g25] ++ (blkL ao8 ++ ([g3] ++ (M))))) w58.heap.size := (Ok.refl _ _)
    have f8 := f8.chg hc62 o1 o2 p_i8_iD007 (fun _ h => mr (mr (ml h)))
    have hBg3 := hBg3.chg hc62 ((fun x (hx : x ∈ [g3]) (hy : x ∈ [gd7]) => p_iD007_i5 x hy hx) g3 (by simp))
    have hBg25 := hBg25.chg hc62 (p_i27_iD007 g25 (by simp))
    have hM : MS ([gd7] ++ ([g25] ++ (blkL ao8 ++ ([g3] ++ (M))))) w61 := (hM.chg hc62)
    have hC := hC.trans hc62 (fun x h => .inr (e_iD007 x h))
    have hS := hS.trans hc62 d_iD007
    have hBgd7 : Box w61 gd7 (cS_api_Prefix (⟨t23.1, t55⟩ : S_api_Prefix)) := hb2
    refine ae hK60 hS ?_; clear hK60 K60
    refine dn (by kernel_rfl) ?_
    obtain rfl := Option.some.inj H
    have hBg3 := hBg3.chg (Chg.refl [] _) (fun h => nomatch h)
    have hBg25 := hBg25.chg (Chg.refl [] _) (fun h => nomatch h)
    have hBgd7 := hBgd7.chg (Chg.refl [] _) (fun h => nomatch h)
    have hM : MS ([gd7] ++ ([g25] ++ ([g3] ++ (M)))) w61 := (MS.app (fun x h => hM.chg (Chg.refl [] _) x (ml h)) (MS.app (fun x h => hM.chg (Chg.refl [] _) x (mr (ml h))) (fun x h => hM.chg (Chg.refl [] _) x (mr (mr (mr (h)))))))
    have hC := hC.trans (Chg.refl [] _) (Ok.nil _ _)
    exact J33 _ _ gd7 (ha.sel (by kernel_rfl)) hBg3 hBg25 hBgd7 e_iD007 (fun x hx hy => p_i27_iD007 x hy hx) p_iD007_i5 p_iD007_M hC hM
   ·refine ⟨_, rfl, fun K63 hK63 => ?_⟩
    refine al (cs := (cS_api_Prefix (⟨(⟨(0 : Int), (List.replicate 16 (0 : Int))⟩ : S_api_Addr), (0 : Int)⟩ : S_api_Prefix))) (z := .agg (cS_api_Prefix (⟨(⟨(0 : Int), (List.replicate 16 (0 : Int))⟩ : S_api_Addr), (0 : Int)⟩ : S_api_Prefix)).toArray) ha (fun w => by kernel_rfl) rfl rfl rfl rfl fun a w64 gd7 hN65 ha => ?_
    have o1 : Ok [] ([g25] ++ (blkL ao8 ++ ([g3] ++ (M)))) w55.heap.size := Ok.nil _ _
    have o2 : Ok ([gd7] ++ ([g25] ++ (blkL ao8 ++ ([g3] ++ (M))))) ([g25] ++ (blkL ao8 ++ ([g3] ++ (M)))) w55.heap.size := (Ok.app (hN65.ok _) (Ok.refl _ _))
    have f8 := f8.chg hN65.chg o1 o2 (fun _ _ h => nomatch h) (fun _ h => mr (mr (ml h)))
    have hBg3 := hBg3.chg hN65.chg (fun h => nomatch h)
    have hBg25 := hBg25.chg hN65.chg (fun h => nomatch h)
    have p_i27_iD007 : ∀ x ∈ [g25], x ∉ ([gd7]) := fun x hy hx => absurd (hM x (ml hy)) (Nat.not_lt.2 ((hN65.ge1) x hx))
    have p_i8_iD007 : ∀ x ∈ blkL ao8, x ∉ ([gd7]) := fun x hy hx => absurd (hM x (mr (ml hy))) (Nat.not_lt.2 ((hN65.ge1) x hx))
    have p_iD007_i5 : ∀ x ∈ [gd7], x ∉ ([g3]) := fun x hx hy => absurd (hM x (mr (mr (ml hy)))) (Nat.not_lt.2 ((hN65.ge1) x hx))
    have p_iD007_M : ∀ x ∈ [gd7], x ∉ M := fun x hx hy => absurd (hM x (mr (mr (mr (hy))))) (Nat.not_lt.2 ((hN65.ge1) x hx))
    have e_iD007 : ∀ x ∈ [gd7], w.heap.size ≤ x := fun x hx => Nat.le_trans hC.size ((hN65.ge1) x hx)
    have hM : MS ([gd7] ++ ([g25] ++ (blkL ao8 ++ ([g3] ++ (M))))) w64 := (MS.app hN65.ms (hM.chg hN65.chg))
    have hC := hC.trans hN65.chg (Ok.nil _ _)
    have d_iD007 : Ok ([gd7]) [] w28.heap.size := fun x hx => .inr (Nat.le_trans hS.size ((hN65.ge1) x hx))
    have hS := hS.trans hN65.chg (Ok.nil _ _)
    have hBgd7 : Box w64 gd7 (cS_api_Prefix (⟨(⟨(0 : Int), (List.replicate 16 (0 : Int))⟩ : S_api_Addr), (0 : Int)⟩ : S_api_Prefix)) := hN65.box
    refine ae hK63 hS ?_; clear hK63 K63
    refine ac 5 (by kernel_rfl) (by rfl) fun K66 hK66 => ?_
    refine opk (v := .agg (cS_api_Prefix (⟨t23.1, t55⟩ : S_api_Prefix)).toArray) ha rfl rfl rfl rfl rfl (fun w => by kernel_rfl) fun a ha => ?_
    refine ae hK66 hS ?_; clear hK66 K66
    refine ac 7 (by kernel_rfl) (by rfl) fun K67 hK67 => ?_
    refine stA (l := (cS_api_Prefix (⟨t23.1, t55⟩ : S_api_Prefix))) ha rfl rfl rfl (by kernel_rfl) rfl rfl hBgd7 rfl fun a w68 ha hb2 hc69 _ => ?_
    have o1 : Ok [gd7] ([gd7] ++ ([g25] ++ (blkL ao8 ++ ([g3] ++ (M))))) w64.heap.size := (fun _ h => .inl (ml h))
    have o2 : Ok ([gd7] ++ ([g25] ++ (blkL ao8 ++ ([g3] ++ (M))))) ([gd7] ++ ([g25] ++ (blkL ao8 ++ ([g3] ++ (M))))) w64.heap.size := (Ok.refl _ _)
    have f8 := f8.chg hc69 o1 o2 p_i8_iD007 (fun _ h => mr (mr (ml h)))
    have hBg3 := hBg3.chg hc69 ((fun x (hx : x ∈ [g3]) (hy : x ∈ [gd7]) => p_iD007_i5 x hy hx) g3 (by simp))
    have hBg25 := hBg25.chg hc69 (p_i27_iD007 g25 (by simp))
    have hM : MS ([gd7] ++ ([g25] ++ (blkL ao8 ++ ([g3] ++ (M))))) w68 := (hM.chg hc69)
    have hC := hC.trans hc69 (fun x h => .inr (e_iD007 x h))
    have hS := hS.trans hc69 d_iD007
    have hBgd7 : Box w68 gd7 (cS_api_Prefix (⟨t23.1, t55⟩ : S_api_Prefix)) := hb2
    refine ae hK67 hS ?_; clear hK67 K67
    refine dn (by kernel_rfl) ?_
    obtain rfl := Option.some.inj H
    have hBg3 := hBg3.chg (Chg.refl [] _) (fun h => nomatch h)
    have hBg25 := hBg25.chg (Chg.refl [] _) (fun h => nomatch h)
    have hBgd7 := hBgd7.chg (Chg.refl [] _) (fun h => nomatch h)
    have hM : MS ([gd7] ++ ([g25] ++ ([g3] ++ (M)))) w68 := (MS.app (fun x h => hM.chg (Chg.refl [] _) x (ml h)) (MS.app (fun x h => hM.chg (Chg.refl [] _) x (mr (ml h))) (fun x h => hM.chg (Chg.refl [] _) x (mr (mr (mr (h)))))))
    have hC := hC.trans (Chg.refl [] _) (Ok.nil _ _)
    exact J33 _ _ gd7 (ha.sel (by kernel_rfl)) hBg3 hBg25 hBgd7 e_iD007 (fun x hx hy => p_i27_iD007 x hy hx) p_iD007_i5 p_iD007_M hC hM
  ·refine ⟨_, rfl, fun K70 hK70 => ?_⟩
   refine al (cs := (cS_api_Prefix (⟨(⟨(0 : Int), (List.replicate 16 (0 : Int))⟩ : S_api_Addr), (0 : Int)⟩ : S_api_Prefix))) (z := .agg (cS_api_Prefix (⟨(⟨(0 : Int), (List.replicate 16 (0 : Int))⟩ : S_api_Addr), (0 : Int)⟩ : S_api_Prefix)).toArray) ha (fun w => by kernel_rfl) rfl rfl rfl rfl fun a w71 gd7 hN72 ha => ?_
   have o1 : Ok [] ([g25] ++ (blkL ao8 ++ ([g3] ++ (M)))) w31.heap.size := Ok.nil _ _
   have o2 : Ok ([gd7] ++ ([g25] ++ (blkL ao8 ++ ([g3] ++ (M))))) ([g25] ++ (blkL ao8 ++ ([g3] ++ (M)))) w31.heap.size := (Ok.app (hN72.ok _) (Ok.refl _ _))
   have f8 := f8.chg hN72.chg o1 o2 (fun _ _ h => nomatch h) (fun _ h => mr (mr (ml h)))
   have hBg3 := hBg3.chg hN72.chg (fun h => nomatch h)
   have hBg25 := hBg25.chg hN72.chg (fun h => nomatch h)
   have p_i27_iD007 : ∀ x ∈ [g25], x ∉ ([gd7]) := fun x hy hx => absurd (hM x (ml hy)) (Nat.not_lt.2 ((hN72.ge1) x hx))
   have p_i8_iD007 : ∀ x ∈ blkL ao8, x ∉ ([gd7]) := fun x hy hx => absurd (hM x (mr (ml hy))) (Nat.not_lt.2 ((hN72.ge1) x hx))
   have p_iD007_i5 : ∀ x ∈ [gd7], x ∉ ([g3]) := fun x hx hy => absurd (hM x (mr (mr (ml hy)))) (Nat.not_lt.2 ((hN72.ge1) x hx))
   have p_iD007_M : ∀ x ∈ [gd7], x ∉ M := fun x hx hy => absurd (hM x (mr (mr (mr (hy))))) (Nat.not_lt.2 ((hN72.ge1) x hx))
   have e_iD007 : ∀ x ∈ [gd7], w.heap.size ≤ x := fun x hx => Nat.le_trans hC.size ((hN72.ge1) x hx)
   have hM : MS ([gd7] ++ ([g25] ++ (blkL ao8 ++ ([g3] ++ (M))))) w71 := (MS.app hN72.ms (hM.chg hN72.chg))
   have hC := hC.trans hN72.chg (Ok.nil _ _)
   have d_iD007 : Ok ([gd7]) [] w28.heap.size := fun x hx => .inr (Nat.le_trans hS.size ((hN72.ge1) x hx))
   have hS := hS.trans hN72.chg (Ok.nil _ _)
   have hBgd7 : Box w71 gd7 (cS_api_Prefix (⟨(⟨(0 : Int), (List.replicate 16 (0 : Int))⟩ : S_api_Addr), (0 : Int)⟩ : S_api_Prefix)) := hN72.box
   refine ae hK70 hS ?_; clear hK70 K70
   refine ac 4 (by kernel_rfl) (by rfl) fun K73 hK73 => ?_
   obtain ⟨t74, H74, H⟩ := bind_some H
   refine cl ha (by rfl) (by kernel_rfl) (by rfl) (by rfl) (by rfl) (vineryref02_Digits.walk w71 _ hM (rd t7 (1 : Int)) (10 : Int) (3 : Int) k _ H74) ?_
   rintro _ w74 ⟨rfl, hc74, hMn⟩ a ha
   have o1 : Ok [] ([gd7] ++ ([g25] ++ (blkL ao8 ++ ([g3] ++ (M))))) w71.heap.size := Ok.nil _ _
   have o2 : Ok ([gd7] ++ ([g25] ++ (blkL ao8 ++ ([g3] ++ (M))))) ([gd7] ++ ([g25] ++ (blkL ao8 ++ ([g3] ++ (M))))) w71.heap.size := (Ok.refl _ _)
   have f8 := f8.chg hc74 o1 o2 (fun _ _ h => nomatch h) (fun _ h => mr (mr (ml h)))
   have hBg3 := hBg3.chg hc74 (fun h => nomatch h)
   have hBg25 := hBg25.chg hc74 (fun h => nomatch h)
   have hBgd7 := hBgd7.chg hc74 (fun h => nomatch h)
   have hM : MS ([gd7] ++ ([g25] ++ (blkL ao8 ++ ([g3] ++ (M))))) w74 := (hM.chg hc74)
   have hC := hC.trans hc74 (Ok.nil _ _)
   have hS := hS.trans hc74 (Ok.nil _ _)
   refine ae hK73 hS ?_; clear hK73 K73
   refine ac 5 (by kernel_rfl) (by rfl) fun K75 hK75 => ?_
   refine opk (v := .agg (cS_api_Prefix (⟨t23.1, t74⟩ : S_api_Prefix)).toArray) ha rfl rfl rfl rfl rfl (fun w => by kernel_rfl) fun a ha => ?_
   refine ae hK75 hS ?_; clear hK75 K75
   refine ac 7 (by kernel_rfl) (by rfl) fun K76 hK76 => ?_
   refine stA (l := (cS_api_Prefix (⟨t23.1, t74⟩ : S_api_Prefix))) ha rfl rfl rfl (by kernel_rfl) rfl rfl hBgd7 rfl fun a w77 ha hb2 hc78 _ => ?_
   have o1 : Ok [gd7] ([gd7] ++ ([g25] ++ (blkL ao8 ++ ([g3] ++ (M))))) w74.heap.size := (fun _ h => .inl (ml h))
   have o2 : Ok ([gd7] ++ ([g25] ++ (blkL ao8 ++ ([g3] ++ (M))))) ([gd7] ++ ([g25] ++ (blkL ao8 ++ ([g3] ++ (M))))) w74.heap.size := (Ok.refl _ _)
   have f8 := f8.chg hc78 o1 o2 p_i8_iD007 (fun _ h => mr (mr (ml h)))
   have hBg3 := hBg3.chg hc78 ((fun x (hx : x ∈ [g3]) (hy : x ∈ [gd7]) => p_iD007_i5 x hy hx) g3 (by simp))
   have hBg25 := hBg25.chg hc78 (p_i27_iD007 g25 (by simp))
   have hM : MS ([gd7] ++ ([g25] ++ (blkL ao8 ++ ([g3] ++ (M))))) w77 := (hM.chg hc78)
   have hC := hC.trans hc78 (fun x h => .inr (e_iD007 x h))
   have hS := hS.trans hc78 d_iD007
   have hBgd7 : Box w77 gd7 (cS_api_Prefix (⟨t23.1, t74⟩ : S_api_Prefix)) := hb2
   refine ae hK76 hS ?_; clear hK76 K76
   refine dn (by kernel_rfl) ?_
   obtain rfl := Option.some.inj H
   have hBg3 := hBg3.chg (Chg.refl [] _) (fun h => nomatch h)
   have hBg25 := hBg25.chg (Chg.refl [] _) (fun h => nomatch h)
   have hBgd7 := hBgd7.chg (Chg.refl [] _) (fun h => nomatch h)
   have hM : MS ([gd7] ++ ([g25] ++ ([g3] ++ (M)))) w77 := (MS.app (fun x h => hM.chg (Chg.refl [] _) x (ml h)) (MS.app (fun x h => hM.chg (Chg.refl [] _) x (mr (ml h))) (fun x h => hM.chg (Chg.refl [] _) x (mr (mr (mr (h)))))))
   have hC := hC.trans (Chg.refl [] _) (Ok.nil _ _)
   exact J33 _ _ gd7 (ha.sel (by kernel_rfl)) hBg3 hBg25 hBgd7 e_iD007 (fun x hx hy => p_i27_iD007 x hy hx) p_iD007_i5 p_iD007_M hC hM
def vinerylaw02_AddrPrefixes.f (k : Nat) (a0 : S_api_Addr) (a1 : Int) (a2 : S_api_Prefix) (a3 : List UInt8) : Option (Bool) := (vinerylaw02_small.f k ).bind fun t13 => (addr_Cut.f k a0 a1).bind fun t15 => (vineryref02_Cut.f k a0 a1).bind fun t23 => (addr_ParsePrefix.f k a3).bind fun t31 => (vineryref02_ParsePrefix.f k a3).bind fun t39 => ((if t13 = true then (if (((t15.1.Addr.Size == t23.1.Addr.Size) && ((eqA 16 t15.1.Addr.B t23.1.Addr.B) && true)) && ((t15.1.Bits == t23.1.Bits) && true)) = true then (if (t15.2 == t23.2) = true then (if (((t31.1.Addr.Size == t39.1.Addr.Size) && ((eqA 16 t31.1.Addr.B t39.1.Addr.B) && true)) && ((t31.1.Bits == t39.1.Bits) && true)) = true then (if (t31.2 == t39.2) = true then (addr_PrefixText.f k a2).bind fun t53 => (vineryref02_PrefixText.f k a2).bind fun t54 => some ((bstr t53).toList == (bstr t54).toList : Bool) else some (false : Bool)) else some (false : Bool)) else some (false : Bool)) else some (false : Bool)) else some (false : Bool))).bind fun s47 => some ((s47 : Bool))
set_option maxRecDepth 100000 in
theorem vinerylaw02_AddrPrefixes.walk (w : World) (M : List Nat) (hM : MS M w) (hG : GF w M) (a0 : S_api_Addr) (a1 : Int) (a2 : S_api_Prefix) (a3 : List UInt8) (k : Nat) (r : Bool) (H : vinerylaw02_AddrPrefixes.f k a0 a1 a2 a3 = some r) :
    To Tryd.prog 6 [.agg (cS_api_Addr a0).toArray, .int .i64 a1, .agg (cS_api_Prefix a2).toArray, .string (bstr a3)] w fun v w' => v = .bool r ∧ Chg [] w w' ∧ MS (M) w' := by
 unfold vinerylaw02_AddrPrefixes.f at H
 refine ent Tryd.func6 rfl [(0, .agg (cS_api_Addr a0).toArray), (1, .int .i64 a1), (2, .agg (cS_api_Prefix a2).toArray), (3, .string (bstr a3))] rfl (by rfl) fun a ha => ?_
 have hC : Chg [] w w := Chg.refl _ _
 refine wp_seq_k fun K1 hK1 => ?_
 refine wp_region_lit ?_
 refine bx (cs := (cS_api_Addr a0)) ha rfl rfl rfl rfl rfl fun a w2 g3 hN4 ha => ?_
 have hn6 := hN4.notin hM
 have o1 : Ok [] (M) w.heap.size := Ok.nil _ _
 have o2 : Ok (M) (M) w.heap.size := (Ok.refl _ _)
 have hG := hG.chg hN4.chg o1 o2
 have hM : MS (M) w2 := (hM.chg hN4.chg)
 have hC := hC.trans hN4.chg (Ok.nil _ _)
 have hE5 : ∀ j v, (cS_api_Addr a0)[j]? = some v → w2.cell? ⟨g3, 0 + j, none⟩ = some v := Box.cells (New.box hN4)
 refine bx (cs := (cS_api_Prefix a2)) ha rfl rfl rfl rfl rfl fun a w7 g8 hN9 ha => ?_
 have hn11 := hN9.notin hM
 have o1 : Ok [] (M) w2.heap.size := Ok.nil _ _
 have o2 : Ok (M) (M) w2.heap.size := (Ok.refl _ _)
 have hG := hG.chg hN9.chg o1 o2
 have q_hn6 : g3 ∉ M := fun h => (o2 g3 h).elim hn6 (fun h => absurd (lt_cell (hE5 0 _ rfl)) (Nat.not_lt.2 h))
 have hE5 : ∀ j v, (cS_api_Addr a0)[j]? = some v → w7.cell? ⟨g3, 0 + j, none⟩ = some v := fun j v hv => (cell_keep hN9.chg o1 hn6 (hE5 j v hv))
 have hn6 := q_hn6
 have hM : MS (M) w7 := (hM.chg hN9.chg)
 have hC := hC.trans hN9.chg (Ok.nil _ _)
 have hE10 : ∀ j v, (cS_api_Prefix a2)[j]? = some v → w7.cell? ⟨g8, 0 + j, none⟩ = some v := Box.cells (New.box hN9)
 refine seg ha 1 [(1, .int .i64 a1), (3, .string (bstr a3)), (4, .pointer (some ⟨g3, 0, none⟩)), (6, .pointer (some ⟨g8, 0, none⟩))] (by kernel_rfl) fun a ha => ?_
 refine hK1 _ _ ?_; try clear hK1 K1
 refine wp_seq_k fun K12 hK12 => ?_
 refine wp_region_lit ?_
 obtain ⟨t13, H13, H⟩ := bind_some H
 refine cl ha (by rfl) (by kernel_rfl) (by rfl) (by rfl) (by rfl) (vinerylaw02_small.walk w7 _ hM hG  k _ H13) ?_
 rintro _ w13 ⟨rfl, hc13, hMn⟩ a ha
 have o1 : Ok [] (M) w7.heap.size := Ok.nil _ _
 have o2 : Ok (M) (M) w7.heap.size := (Ok.refl _ _)
 have hG := hG.chg hc13 o1 o2
 have q_hn6 : g3 ∉ M := fun h => (o2 g3 h).elim hn6 (fun h => absurd (lt_cell (hE5 0 _ rfl)) (Nat.not_lt.2 h))
 have hE5 : ∀ j v, (cS_api_Addr a0)[j]? = some v → w13.cell? ⟨g3, 0 + j, none⟩ = some v := fun j v hv => (cell_keep hc13 o1 hn6 (hE5 j v hv))
 have hn6 := q_hn6
 have q_hn11 : g8 ∉ M := fun h => (o2 g8 h).elim hn11 (fun h => absurd (lt_cell (hE10 0 _ rfl)) (Nat.not_lt.2 h))
 have hE10 : ∀ j v, (cS_api_Prefix a2)[j]? = some v → w13.cell? ⟨g8, 0 + j, none⟩ = some v := fun j v hv => (cell_keep hc13 o1 hn11 (hE10 j v hv))
 have hn11 := q_hn11
 have hM : MS (M) w13 := (hM.chg hc13)
 have hC := hC.trans hc13 (Ok.nil _ _)
 refine seg ha 1 [(1, .int .i64 a1), (3, .string (bstr a3)), (4, .pointer (some ⟨g3, 0, none⟩)), (6, .pointer (some ⟨g8, 0, none⟩)), (9, .bool t13)] (by kernel_rfl) fun a ha => ?_
 refine hK12 _ _ ?_; try clear hK12 K12
 refine wp_seq_k fun K14 hK14 => ?_
 refine wp_region_lit ?_
 refine ldA (cs := (cS_api_Addr a0)) ha rfl (by kernel_rfl) rfl rfl rfl (cells_sub hE5 (all := (cS_api_Addr a0)) [] [] (by kernel_rfl)) fun a ha => ?_
 refine seg ha 1 [(1, .int .i64 a1), (3, .string (bstr a3)), (4, .pointer (some ⟨g3, 0, none⟩)), (6, .pointer (some ⟨g8, 0, none⟩)), (9, .bool t13), (20, .agg (cS_api_Addr a0).toArray), (21, .int .i64 a1)] (by kernel_rfl) fun a ha => ?_
 obtain ⟨t15, H15, H⟩ := bind_some H
 refine cl ha (by rfl) (by kernel_rfl) (by rfl) (by rfl) (by rfl) (addr_Cut.walk w13 _ hM a0 a1 k _ H15) ?_
 rintro _ w15 ⟨rfl, hc15, hMn⟩ a ha
 have o1 : Ok [] (M) w13.heap.size := Ok.nil _ _
 have o2 : Ok (M) (M) w13.heap.size := (Ok.refl _ _)
 have hG := hG.chg hc15 o1 o2
 have q_hn6 : g3 ∉ M := fun h => (o2 g3 h).elim hn6 (fun h => absurd (lt_cell (hE5 0 _ rfl)) (Nat.not_lt.2 h))
 have hE5 : ∀ j v, (cS_api_Addr a0)[j]? = some v → w15.cell? ⟨g3, 0 + j, none⟩ = some v := fun j v hv => (cell_keep hc15 o1 hn6 (hE5 j v hv))
 have hn6 := q_hn6
 have q_hn11 : g8 ∉ M := fun h => (o2 g8 h).elim hn11 (fun h => absurd (lt_cell (hE10 0 _ rfl)) (Nat.not_lt.2 h))
 have hE10 : ∀ j v, (cS_api_Prefix a2)[j]? = some v → w15.cell? ⟨g8, 0 + j, none⟩ = some v := fun j v hv => (cell_keep hc15 o1 hn11 (hE10 j v hv))
 have hn11 := q_hn11
 have hM : MS (M) w15 := (hM.chg hc15)
 have hC := hC.trans hc15 (Ok.nil _ _)
 refine seg ha 3 [(1, .int .i64 a1), (3, .string (bstr a3)), (4, .pointer (some ⟨g3, 0, none⟩)), (6, .pointer (some ⟨g8, 0, none⟩)), (9, .bool t13), (23, .agg (cS_api_Prefix t15.1).toArray), (24, .int .i64 t15.2)] (by kernel_rfl) fun a ha => ?_
 refine al (cs := (cS_api_Prefix (⟨(⟨(0 : Int), (List.replicate 16 (0 : Int))⟩ : S_api_Addr), (0 : Int)⟩ : S_api_Prefix))) (z := .agg (cS_api_Prefix (⟨(⟨(0 : Int), (List.replicate 16 (0 : Int))⟩ : S_api_Addr), (0 : Int)⟩ : S_api_Prefix)).toArray) ha (fun w => by kernel_rfl) rfl rfl rfl rfl fun a w16 g17 hN18 ha => ?_
 have o1 : Ok [] (M) w15.heap.size := Ok.nil _ _
 have o2 : Ok ([g17] ++ (M)) (M) w15.heap.size := (Ok.app (hN18.ok _) (Ok.refl _ _))
 have hG := hG.chg hN18.chg o1 o2
 have q_hn6 : g3 ∉ [g17] ++ (M) := fun h => (o2 g3 h).elim hn6 (fun h => absurd (lt_cell (hE5 0 _ rfl)) (Nat.not_lt.2 h))
 have hE5 : ∀ j v, (cS_api_Addr a0)[j]? = some v → w16.cell? ⟨g3, 0 + j, none⟩ = some v := fun j v hv => (cell_keep hN18.chg o1 hn6 (hE5 j v hv))
 have hn6 := q_hn6
 have q_hn11 : g8 ∉ [g17] ++ (M) := fun h => (o2 g8 h).elim hn11 (fun h => absurd (lt_cell (hE10 0 _ rfl)) (Nat.not_lt.2 h))
 have hE10 : ∀ j v, (cS_api_Prefix a2)[j]? = some v → w16.cell? ⟨g8, 0 + j, none⟩ = some v := fun j v hv => (cell_keep hN18.chg o1 hn11 (hE10 j v hv))
 have hn11 := q_hn11
 have p_i19_M : ∀ x ∈ [g17], x ∉ M := fun x hx hy => absurd (hM x (hy)) (Nat.not_lt.2 ((hN18.ge1) x hx))
 have e_i19 : ∀ x ∈ [g17], w.heap.size ≤ x := fun x hx => Nat.le_trans hC.size ((hN18.ge1) x hx)
 have hM : MS ([g17] ++ (M)) w16 := (MS.app hN18.ms (hM.chg hN18.chg))
 have hC := hC.trans hN18.chg (Ok.nil _ _)
 have hBg17 : Box w16 g17 (cS_api_Prefix (⟨(⟨(0 : Int), (List.replicate 16 (0 : Int))⟩ : S_api_Addr), (0 : Int)⟩ : S_api_Prefix)) := hN18.box
 refine stA (l := (cS_api_Prefix t15.1)) ha rfl rfl rfl (by kernel_rfl) rfl rfl hBg17 rfl fun a w20 ha hb2 hc21 _ => ?_
 have o1 : Ok [g17] ([g17] ++ (M)) w16.heap.size := (fun _ h => .inl (ml h))
 have o2 : Ok ([g17] ++ (M)) ([g17] ++ (M)) w16.heap.size := (Ok.refl _ _)
 have hG := hG.chg hc21 o1 o2
 have q_hn6 : g3 ∉ [g17] ++ (M) := fun h => (o2 g3 h).elim hn6 (fun h => absurd (lt_cell (hE5 0 _ rfl)) (Nat.not_lt.2 h))
 have hE5 : ∀ j v, (cS_api_Addr a0)[j]? = some v → w20.cell? ⟨g3, 0 + j, none⟩ = some v := fun j v hv => (cell_keep hc21 o1 hn6 (hE5 j v hv))
 have hn6 := q_hn6
 have q_hn11 : g8 ∉ [g17] ++ (M) := fun h => (o2 g8 h).elim hn11 (fun h => absurd (lt_cell (hE10 0 _ rfl)) (Nat.not_lt.2 h))
 have hE10 : ∀ j v, (cS_api_Prefix a2)[j]? = some v → w20.cell? ⟨g8, 0 + j, none⟩ = some v := fun j v hv => (cell_keep hc21 o1 hn11 (hE10 j v hv))
 have hn11 := q_hn11
 have hM : MS ([g17] ++ (M)) w20 := (hM.chg hc21)
 have hC := hC.trans hc21 (fun x h => .inr (e_i19 x h))
 have hBg17 : Box w20 g17 (cS_api_Prefix t15.1) := hb2
 refine seg ha 1 [(1, .int .i64 a1), (3, .string (bstr a3)), (4, .pointer (some ⟨g3, 0, none⟩)), (6, .pointer (some ⟨g8, 0, none⟩)), (9, .bool t13), (10, .pointer (some ⟨g17, 0, none⟩)), (11, .int .i64 t15.2)] (by kernel_rfl) fun a ha => ?_
 refine hK14 _ _ ?_; try clear hK14 K14
 refine wp_seq_k fun K22 hK22 => ?_
 refine wp_region_lit ?_
 refine ldA (cs := (cS_api_Addr a0)) ha rfl (by kernel_rfl) rfl rfl rfl (cells_sub hE5 (all := (cS_api_Addr a0)) [] [] (by kernel_rfl)) fun a ha => ?_
 refine seg ha 1 [(3, .string (bstr a3)), (6, .pointer (some ⟨g8, 0, none⟩)), (9, .bool t13), (10, .pointer (some ⟨g17, 0, none⟩)), (11, .int .i64 t15.2), (26, .agg (cS_api_Addr a0).toArray), (27, .int .i64 a1)] (by kernel_rfl) fun a ha => ?_
 obtain ⟨t23, H23, H⟩ := bind_some H
 refine cl ha (by rfl) (by kernel_rfl) (by rfl) (by rfl) (by rfl) (vineryref02_Cut.walk w20 _ hM a0 a1 k _ H23) ?_
 rintro _ w23 ⟨rfl, hc23, hMn⟩ a ha
 have o1 : Ok [] ([g17] ++ (M)) w20.heap.size := Ok.nil _ _
 have o2 : Ok ([g17] ++ (M)) ([g17] ++ (M)) w20.heap.size := (Ok.refl _ _)
 have hG := hG.chg hc23 o1 o2
 have hBg17 := hBg17.chg hc23 (fun h => nomatch h)
 have q_hn11 : g8 ∉ [g17] ++ (M) := fun h => (o2 g8 h).elim hn11 (fun h => absurd (lt_cell (hE10 0 _ rfl)) (Nat.not_lt.2 h))
 have hE10 : ∀ j v, (cS_api_Prefix a2)[j]? = some v → w23.cell? ⟨g8, 0 + j, none⟩ = some v := fun j v hv => (cell_keep hc23 o1 hn11 (hE10 j v hv))
 have hn11 := q_hn11
 have hM : MS ([g17] ++ (M)) w23 := (hM.chg hc23)
 have hC := hC.trans hc23 (Ok.nil _ _)
 refine seg ha 3 [(3, .string (bstr a3)), (6, .pointer (some ⟨g8, 0, none⟩)), (9, .bool t13), (10, .pointer (some ⟨g17, 0, none⟩)), (11, .int .i64 t15.2), (29, .agg (cS_api_Prefix t23.1).toArray), (30, .int .i64 t23.2)] (by kernel_rfl) fun a ha => ?_
 refine al (cs := (cS_api_Prefix (⟨(⟨(0 : Int), (List.replicate 16 (0 : Int))⟩ : S_api_Addr), (0 : Int)⟩ : S_api_Prefix))) (z := .agg (cS_api_Prefix (⟨(⟨(0 : Int), (List.replicate 16 (0 : Int))⟩ : S_api_Addr), (0 : Int)⟩ : S_api_Prefix)).toArray) ha (fun w => by kernel_rfl) rfl rfl rfl rfl fun a w24 g25 hN26 ha => ?_
 have o1 : Ok [] ([g17] ++ (M)) w23.heap.size := Ok.nil _ _
 have o2 : Ok ([g25] ++ ([g17] ++ (M))) ([g17] ++ (M)) w23.heap.size := (Ok.app (hN26.ok _) (Ok.refl _ _))
 have hG := hG.chg hN26.chg o1 o2
 have hBg17 := hBg17.chg hN26.chg (fun h => nomatch h)
 have q_hn11 : g8 ∉ [g25] ++ ([g17] ++ (M)) := fun h => (o2 g8 h).elim hn11 (fun h => absurd (lt_cell (hE10 0 _ rfl)) (Nat.not_lt.2 h))
 have hE10 : ∀ j v, (cS_api_Prefix a2)[j]? = some v → w24.cell? ⟨g8, 0 + j, none⟩ = some v := fun j v hv => (cell_keep hN26.chg o1 hn11 (hE10 j v hv))
 have hn11 := q_hn11
 have p_i27_i19 : ∀ x ∈ [g25], x ∉ ([g17]) := fun x hx hy => absurd (hM x (ml hy)) (Nat.not_lt.2 ((hN26.ge1) x hx))
 have p_i27_M : ∀ x ∈ [g25], x ∉ M := fun x hx hy => absurd (hM x (mr (hy))) (Nat.not_lt.2 ((hN26.ge1) x hx))
 have e_i27 : ∀ x ∈ [g25], w.heap.size ≤ x := fun x hx => Nat.le_trans hC.size ((hN26.ge1) x hx)
 have hM : MS ([g25] ++ ([g17] ++ (M))) w24 := (MS.app hN26.ms (hM.chg hN26.chg))
 have hC := hC.trans hN26.chg (Ok.nil _ _)
 have hBg25 : Box w24 g25 (cS_api_Prefix (⟨(⟨(0 : Int), (List.replicate 16 (0 : Int))⟩ : S_api_Addr), (0 : Int)⟩ : S_api_Prefix)) := hN26.box
 refine stA (l := (cS_api_Prefix t23.1)) ha rfl rfl rfl (by kernel_rfl) rfl rfl hBg25 rfl fun a w28 ha hb2 hc29 _ => ?_
 have o1 : Ok [g25] ([g25] ++ ([g17] ++ (M))) w24.heap.size := (fun _ h => .inl (ml h))
 have o2 : Ok ([g25] ++ ([g17] ++ (M))) ([g25] ++ ([g17] ++ (M))) w24.heap.size := (Ok.refl _ _)
 have hG := hG.chg hc29 o1 o2
 have hBg17 := hBg17.chg hc29 ((fun x (hx : x ∈ [g17]) (hy : x ∈ [g25]) => p_i27_i19 x hy hx) g17 (by simp))
 have q_hn11 : g8 ∉ [g25] ++ ([g17] ++ (M)) := fun h => (o2 g8 h).elim hn11 (fun h => absurd (lt_cell (hE10 0 _ rfl)) (Nat.not_lt.2 h))
 have hE10 : ∀ j v, (cS_api_Prefix a2)[j]? = some v → w28.cell? ⟨g8, 0 + j, none⟩ = some v := fun j v hv => (cell_keep hc29 o1 hn11 (hE10 j v hv))
 have hn11 := q_hn11
 have hM : MS ([g25] ++ ([g17] ++ (M))) w28 := (hM.chg hc29)
 have hC := hC.trans hc29 (fun x h => .inr (e_i27 x h))
 have hBg25 : Box w28 g25 (cS_api_Prefix t23.1) := hb2
 refine seg ha 1 [(3, .string (bstr a3)), (6, .pointer (some ⟨g8, 0, none⟩)), (9, .bool t13), (10, .pointer (some ⟨g17, 0, none⟩)), (11, .int .i64 t15.2), (12, .pointer (some ⟨g25, 0, none⟩)), (13, .int .i64 t23.2)] (by kernel_rfl) fun a ha => ?_
 refine hK22 _ _ ?_; try clear hK22 K22
 refine wp_seq_k fun K30 hK30 => ?_
 refine wp_region_lit ?_
 refine seg ha 1 [(3, .string (bstr a3)), (6, .pointer (some ⟨g8, 0, none⟩)), (9, .bool t13), (10, .pointer (some ⟨g17, 0, none⟩)), (11, .int .i64 t15.2), (12, .pointer (some ⟨g25, 0, none⟩)), (13, .int .i64 t23.2), (32, .string (bstr a3))] (by kernel_rfl) fun a ha => ?_
 obtain ⟨t31, H31, H⟩ := bind_some H
 refine cl ha (by rfl) (by kernel_rfl) (by rfl) (by rfl) (by rfl) (addr_ParsePrefix.walk w28 _ hM hG a3 k _ H31) ?_
 rintro _ w31 ⟨rfl, hc31, hMn⟩ a ha
 have o1 : Ok [] ([g25] ++ ([g17] ++ (M))) w28.heap.size := Ok.nil _ _
 have o2 : Ok ([g25] ++ ([g17] ++ (M))) ([g25] ++ ([g17] ++ (M))) w28.heap.size := (Ok.refl _ _)
 have hG := hG.chg hc31 o1 o2
 have hBg17 := hBg17.chg hc31 (fun h => nomatch h)
 have hBg25 := hBg25.chg hc31 (fun h => nomatch h)
 have q_hn11 : g8 ∉ [g25] ++ ([g17] ++ (M)) := fun h => (o2 g8 h).elim hn11 (fun h => absurd (lt_cell (hE10 0 _ rfl)) (Nat.not_lt.2 h))
 have hE10 : ∀ j v, (cS_api_Prefix a2)[j]? = some v → w31.cell? ⟨g8, 0 + j, none⟩ = some v := fun j v hv => (cell_keep hc31 o1 hn11 (hE10 j v hv))
 have hn11 := q_hn11
 have hM : MS ([g25] ++ ([g17] ++ (M))) w31 := (hM.chg hc31)
 have hC := hC.trans hc31 (Ok.nil _ _)
 refine seg ha 3 [(3, .string (bstr a3)), (6, .pointer (some ⟨g8, 0, none⟩)), (9, .bool t13), (10, .pointer (some ⟨g17, 0, none⟩)), (11, .int .i64 t15.2), (12, .pointer (some ⟨g25, 0, none⟩)), (13, .int .i64 t23.2), (34, .agg (cS_api_Prefix t31.1).toArray), (35, .int .i64 t31.2)] (by kernel_rfl) fun a ha => ?_
 refine al (cs := (cS_api_Prefix (⟨(⟨(0 : Int), (List.replicate 16 (0 : Int))⟩ : S_api_Addr), (0 : Int)⟩ : S_api_Prefix))) (z := .agg (cS_api_Prefix (⟨(⟨(0 : Int), (List.replicate 16 (0 : Int))⟩ : S_api_Addr), (0 : Int)⟩ : S_api_Prefix)).toArray) ha (fun w => by kernel_rfl) rfl rfl rfl rfl fun a w32 g33 hN34 ha => ?_
 have o1 : Ok [] ([g25] ++ ([g17] ++ (M))) w31.heap.size := Ok.nil _ _
 have o2 : Ok ([g33] ++ ([g25] ++ ([g17] ++ (M)))) ([g25] ++ ([g17] ++ (M))) w31.heap.size := (Ok.app (hN34.ok _) (Ok.refl _ _))
 have hG := hG.chg hN34.chg o1 o2
 have hBg17 := hBg17.chg hN34.chg (fun h => nomatch h)
 have hBg25 := hBg25.chg hN34.chg (fun h => nomatch h)
 have q_hn11 : g8 ∉ [g33] ++ ([g25] ++ ([g17] ++ (M))) := fun h => (o2 g8 h).elim hn11 (fun h => absurd (lt_cell (hE10 0 _ rfl)) (Nat.not_lt.2 h))
 have hE10 : ∀ j v, (cS_api_Prefix a2)[j]? = some v → w32.cell? ⟨g8, 0 + j, none⟩ = some v := fun j v hv => (cell_keep hN34.chg o1 hn11 (hE10 j v hv))
 have hn11 := q_hn11
 have p_i35_i27 : ∀ x ∈ [g33], x ∉ ([g25]) := fun x hx hy => absurd (hM x (ml hy)) (Nat.not_lt.2 ((hN34.ge1) x hx))
 have p_i35_i19 : ∀ x ∈ [g33], x ∉ ([g17]) := fun x hx hy => absurd (hM x (mr (ml hy))) (Nat.not_lt.2 ((hN34.ge1) x hx))
 have p_i35_M : ∀ x ∈ [g33], x ∉ M := fun x hx hy => absurd (hM x (mr (mr (hy)))) (Nat.not_lt.2 ((hN34.ge1) x hx))
 have e_i35 : ∀ x ∈ [g33], w.heap.size ≤ x := fun x hx => Nat.le_trans hC.size ((hN34.ge1) x hx)
 have hM : MS ([g33] ++ ([g25] ++ ([g17] ++ (M)))) w32 := (MS.app hN34.ms (hM.chg hN34.chg))
 have hC := hC.trans hN34.chg (Ok.nil _ _)
 have hBg33 : Box w32 g33 (cS_api_Prefix (⟨(⟨(0 : Int), (List.replicate 16 (0 : Int))⟩ : S_api_Addr), (0 : Int)⟩ : S_api_Prefix)) := hN34.box
 refine stA (l := (cS_api_Prefix t31.1)) ha rfl rfl rfl (by kernel_rfl) rfl rfl hBg33 rfl fun a w36 ha hb2 hc37 _ => ?_
 have o1 : Ok [g33] ([g33] ++ ([g25] ++ ([g17] ++ (M)))) w32.heap.size := (fun _ h => .inl (ml h))
 have o2 : Ok ([g33] ++ ([g25] ++ ([g17] ++ (M)))) ([g33] ++ ([g25] ++ ([g17] ++ (M)))) w32.heap.size := (Ok.refl _ _)
 have hG := hG.chg hc37 o1 o2
 have hBg17 := hBg17.chg hc37 ((fun x (hx : x ∈ [g17]) (hy : x ∈ [g33]) => p_i35_i19 x hy hx) g17 (by simp))
 have hBg25 := hBg25.chg hc37 ((fun x (hx : x ∈ [g25]) (hy : x ∈ [g33]) => p_i35_i27 x hy hx) g25 (by simp))
 have q_hn11 : g8 ∉ [g33] ++ ([g25] ++ ([g17] ++ (M))) := fun h => (o2 g8 h).elim hn11 (fun h => absurd (lt_cell (hE10 0 _ rfl)) (Nat.not_lt.2 h))
 have hE10 : ∀ j v, (cS_api_Prefix a2)[j]? = some v → w36.cell? ⟨g8, 0 + j, none⟩ = some v := fun j v hv => (cell_keep hc37 o1 hn11 (hE10 j v hv))
 have hn11 := q_hn11
 have hM : MS ([g33] ++ ([g25] ++ ([g17] ++ (M)))) w36 := (hM.chg hc37)
 have hC := hC.trans hc37 (fun x h => .inr (e_i35 x h))
 have hBg33 : Box w36 g33 (cS_api_Prefix t31.1) := hb2
 refine seg ha 1 [(3, .string (bstr a3)), (6, .pointer (some ⟨g8, 0, none⟩)), (9, .bool t13), (10, .pointer (some ⟨g17, 0, none⟩)), (11, .int .i64 t15.2), (12, .pointer (some ⟨g25, 0, none⟩)), (13, .int .i64 t23.2), (14, .pointer (some ⟨g33, 0, none⟩)), (15, .int .i64 t31.2)] (by kernel_rfl) fun a ha => ?_
 refine hK30 _ _ ?_; try clear hK30 K30
 refine wp_seq_k fun K38 hK38 => ?_
 refine wp_region_lit ?_
 refine seg ha 1 [(6, .pointer (some ⟨g8, 0, none⟩)), (9, .bool t13), (10, .pointer (some ⟨g17, 0, none⟩)), (11, .int .i64 t15.2), (12, .pointer (some ⟨g25, 0, none⟩)), (13, .int .i64 t23.2), (14, .pointer (some ⟨g33, 0, none⟩)), (15, .int .i64 t31.2), (37, .string (bstr a3))] (by kernel_rfl) fun a ha => ?_
 obtain ⟨t39, H39, H⟩ := bind_some H
 refine cl ha (by rfl) (by kernel_rfl) (by rfl) (by rfl) (by rfl) (vineryref02_ParsePrefix.walk w36 _ hM a3 k _ H39) ?_
 rintro _ w39 ⟨rfl, hc39, hMn⟩ a ha
 have o1 : Ok [] ([g33] ++ ([g25] ++ ([g17] ++ (M)))) w36.heap.size := Ok.nil _ _
 have o2 : Ok ([g33] ++ ([g25] ++ ([g17] ++ (M)))) ([g33] ++ ([g25] ++ ([g17] ++ (M)))) w36.heap.size := (Ok.refl _ _)
 have hG := hG.chg hc39 o1 o2
 have hBg17 := hBg17.chg hc39 (fun h => nomatch h)
 have hBg25 := hBg25.chg hc39 (fun h => nomatch h)
 have hBg33 := hBg33.chg hc39 (fun h => nomatch h)
 have q_hn11 : g8 ∉ [g33] ++ ([g25] ++ ([g17] ++ (M))) := fun h => (o2 g8 h).elim hn11 (fun h => absurd (lt_cell (hE10 0 _ rfl)) (Nat.not_lt.2 h))
 have hE10 : ∀ j v, (cS_api_Prefix a2)[j]? = some v → w39.cell? ⟨g8, 0 + j, none⟩ = some v := fun j v hv => (cell_keep hc39 o1 hn11 (hE10 j v hv))
 have hn11 := q_hn11
 have hM : MS ([g33] ++ ([g25] ++ ([g17] ++ (M)))) w39 := (hM.chg hc39)
 have hC := hC.trans hc39 (Ok.nil _ _)
 refine seg ha 3 [(6, .pointer (some ⟨g8, 0, none⟩)), (9, .bool t13), (10, .pointer (some ⟨g17, 0, none⟩)), (11, .int .i64 t15.2), (12, .pointer (some ⟨g25, 0, none⟩)), (13, .int .i64 t23.2), (14, .pointer (some ⟨g33, 0, none⟩)), (15, .int .i64 t31.2), (39, .agg (cS_api_Prefix t39.1).toArray), (40, .int .i64 t39.2)] (by kernel_rfl) fun a ha => ?_
 refine al (cs := (cS_api_Prefix (⟨(⟨(0 : Int), (List.replicate 16 (0 : Int))⟩ : S_api_Addr), (0 : Int)⟩ : S_api_Prefix))) (z := .agg (cS_api_Prefix (⟨(⟨(0 : Int), (List.replicate 16 (0 : Int))⟩ : S_api_Addr), (0 : Int)⟩ : S_api_Prefix)).toArray) ha (fun w => by kernel_rfl) rfl rfl rfl rfl fun a w40 g41 hN42 ha => ?_
 have o1 : Ok [] ([g33] ++ ([g25] ++ ([g17] ++ (M)))) w39.heap.size := Ok.nil _ _
 have o2 : Ok ([g41] ++ ([g33] ++ ([g25] ++ ([g17] ++ (M))))) ([g33] ++ ([g25] ++ ([g17] ++ (M)))) w39.heap.size := (Ok.app (hN42.ok _) (Ok.refl _ _))
 have hG := hG.chg hN42.chg o1 o2
 have hBg17 := hBg17.chg hN42.chg (fun h => nomatch h)
 have hBg25 := hBg25.chg hN42.chg (fun h => nomatch h)
 have hBg33 := hBg33.chg hN42.chg (fun h => nomatch h)
 have q_hn11 : g8 ∉ [g41] ++ ([g33] ++ ([g25] ++ ([g17] ++ (M)))) := fun h => (o2 g8 h).elim hn11 (fun h => absurd (lt_cell (hE10 0 _ rfl)) (Nat.not_lt.2 h))
 have hE10 : ∀ j v, (cS_api_Prefix a2)[j]? = some v → w40.cell? ⟨g8, 0 + j, none⟩ = some v := fun j v hv => (cell_keep hN42.chg o1 hn11 (hE10 j v hv))
 have hn11 := q_hn11
 have p_i43_i35 : ∀ x ∈ [g41], x ∉ ([g33]) := fun x hx hy => absurd (hM x (ml hy)) (Nat.not_lt.2 ((hN42.ge1) x hx))
 have p_i43_i27 : ∀ x ∈ [g41], x ∉ ([g25]) := fun x hx hy => absurd (hM x (mr (ml hy))) (Nat.not_lt.2 ((hN42.ge1) x hx))
 have p_i43_i19 : ∀ x ∈ [g41], x ∉ ([g17]) := fun x hx hy => absurd (hM x (mr (mr (ml hy)))) (Nat.not_lt.2 ((hN42.ge1) x hx))
 have p_i43_M : ∀ x ∈ [g41], x ∉ M := fun x hx hy => absurd (hM x (mr (mr (mr (hy))))) (Nat.not_lt.2 ((hN42.ge1) x hx))
 have e_i43 : ∀ x ∈ [g41], w.heap.size ≤ x := fun x hx => Nat.le_trans hC.size ((hN42.ge1) x hx)
 have hM : MS ([g41] ++ ([g33] ++ ([g25] ++ ([g17] ++ (M))))) w40 := (MS.app hN42.ms (hM.chg hN42.chg))
 have hC := hC.trans hN42.chg (Ok.nil _ _)
 have hBg41 : Box w40 g41 (cS_api_Prefix (⟨(⟨(0 : Int), (List.replicate 16 (0 : Int))⟩ : S_api_Addr), (0 : Int)⟩ : S_api_Prefix)) := hN42.box
 refine stA (l := (cS_api_Prefix t39.1)) ha rfl rfl rfl (by kernel_rfl) rfl rfl hBg41 rfl fun a w44 ha hb2 hc45 _ => ?_
 have o1 : Ok [g41] ([g41] ++ ([g33] ++ ([g25] ++ ([g17] ++ (M))))) w40.heap.size := (fun _ h => .inl (ml h))
 have o2 : Ok ([g41] ++ ([g33] ++ ([g25] ++ ([g17] ++ (M))))) ([g41] ++ ([g33] ++ ([g25] ++ ([g17] ++ (M))))) w40.heap.size := (Ok.refl _ _)
 have hG := hG.chg hc45 o1 o2
 have hBg17 := hBg17.chg hc45 ((fun x (hx : x ∈ [g17]) (hy : x ∈ [g41]) => p_i43_i19 x hy hx) g17 (by simp))
 have hBg25 := hBg25.chg hc45 ((fun x (hx : x ∈ [g25]) (hy : x ∈ [g41]) => p_i43_i27 x hy hx) g25 (by simp))
 have hBg33 := hBg33.chg hc45 ((fun x (hx : x ∈ [g33]) (hy : x ∈ [g41]) => p_i43_i35 x hy hx) g33 (by simp))
 have q_hn11 : g8 ∉ [g41] ++ ([g33] ++ ([g25] ++ ([g17] ++ (M)))) := fun h => (o2 g8 h).elim hn11 (fun h => absurd (lt_cell (hE10 0 _ rfl)) (Nat.not_lt.2 h))
 have hE10 : ∀ j v, (cS_api_Prefix a2)[j]? = some v → w44.cell? ⟨g8, 0 + j, none⟩ = some v := fun j v hv => (cell_keep hc45 o1 hn11 (hE10 j v hv))
 have hn11 := q_hn11
 have hM : MS ([g41] ++ ([g33] ++ ([g25] ++ ([g17] ++ (M))))) w44 := (hM.chg hc45)
 have hC := hC.trans hc45 (fun x h => .inr (e_i43 x h))
 have hBg41 : Box w44 g41 (cS_api_Prefix t39.1) := hb2
 refine seg ha 1 [(6, .pointer (some ⟨g8, 0, none⟩)), (9, .bool t13), (10, .pointer (some ⟨g17, 0, none⟩)), (11, .int .i64 t15.2), (12, .pointer (some ⟨g25, 0, none⟩)), (13, .int .i64 t23.2), (14, .pointer (some ⟨g33, 0, none⟩)), (15, .int .i64 t31.2), (16, .pointer (some ⟨g41, 0, none⟩)), (17, .int .i64 t39.2)] (by kernel_rfl) fun a ha => ?_
 refine hK38 _ _ ?_; try clear hK38 K38
 refine wp_seq_k fun K46 hK46 => ?_
 refine drq0 (fun w' => Chg [] w44 w') (by kernel_rfl) (by kernel_rfl) (fun _ h => h) ?_
 obtain ⟨s47, H47, H⟩ := bind_some H
 have J47 : ∀ (a : Act) (w47 : World), Has a Tryd.f6.ntmps [(8, .bool s47)] → (Box w47 g17 (cS_api_Prefix t15.1)) → (Box w47 g25 (cS_api_Prefix t23.1)) → (Box w47 g33 (cS_api_Prefix t31.1)) → (Box w47 g41 (cS_api_Prefix t39.1)) → (GF w47 ([g41] ++ ([g33] ++ ([g25] ++ ([g17] ++ (M)))))) → (Chg [] w w47) → (MS ([g41] ++ ([g33] ++ ([g25] ++ ([g17] ++ (M))))) w47) → K46 a w47 := by
  intro a w47 ha hBg17 hBg25 hBg33 hBg41 hG hC hM
  refine hK46 _ _ ?_; try clear hK46 K46
  refine wp_ret ?_
  try simp only [Exit.then, Exit.inBlock]
  have o1 : Ok [] ([g41] ++ ([g33] ++ ([g25] ++ ([g17] ++ (M))))) w47.heap.size := Ok.nil _ _
  have o2 : Ok (M) ([g41] ++ ([g33] ++ ([g25] ++ ([g17] ++ (M))))) w47.heap.size := (fun _ h => .inl (mr (mr (mr (mr (h))))))
  have hG := hG.chg (Chg.refl [] _) o1 o2
  have hBg17 := hBg17.chg (Chg.refl [] _) (fun h => nomatch h)
  have hBg25 := hBg25.chg (Chg.refl [] _) (fun h => nomatch h)
  have hBg33 := hBg33.chg (Chg.refl [] _) (fun h => nomatch h)
  have hBg41 := hBg41.chg (Chg.refl [] _) (fun h => nomatch h)
  have hM : MS (M) w47 := (fun x h => hM.chg (Chg.refl [] _) x (mr (mr (mr (mr (h))))))
  have hC := hC.trans (Chg.refl [] _) (Ok.nil _ _)
  obtain rfl := Option.some.inj H
  refine rt1 ha rfl rfl ?_
  exact ⟨rfl, hC, hM⟩
 have H := H47
 refine qp 0 (.bool t13) ha rfl rfl rfl (by kernel_rfl) fun a ha => ?_
 refine qp 0 (.bool t13) ha rfl rfl rfl (by kernel_rfl) fun a ha => ?_
 have ha := ha.sel (env' := [(42, .bool t13), (6, .pointer (some ⟨g8, 0, none⟩)), (10, .pointer (some ⟨g17, 0, none⟩)), (11, .int .i64 t15.2), (12, .pointer (some ⟨g25, 0, none⟩)), (13, .int .i64 t23.2), (14, .pointer (some ⟨g33, 0, none⟩)), (15, .int .i64 t31.2), (16, .pointer (some ⟨g41, 0, none⟩)), (17, .int .i64 t39.2)]) (by kernel_rfl)
 rcases Bool.eq_false_or_eq_true (t13) with hb48 | hb48
 ·have ha := ha.lit hb48
  have H := ite_t hb48 H
  refine qv (v := .agg (cS_api_Prefix t15.1).toArray) ha rfl rfl rfl (fun w' hs => ldA_run (cs := (cS_api_Prefix t15.1)) ha rfl (by kernel_rfl) (cells_sub (Box.cells (Box.chg hBg17 hs (fun h => nomatch h))) (all := (cS_api_Prefix t15.1)) [] [] (by kernel_rfl))) fun a ha => ?_
  refine qv (v := .agg (cS_api_Prefix t23.1).toArray) ha rfl rfl rfl (fun w' hs => ldA_run (cs := (cS_api_Prefix t23.1)) ha rfl (by kernel_rfl) (cells_sub (Box.cells (Box.chg hBg25 hs (fun h => nomatch h))) (all := (cS_api_Prefix t23.1)) [] [] (by kernel_rfl))) fun a ha => ?_
  refine qv (v := .bool (((t15.1.Addr.Size == t23.1.Addr.Size) && ((eqA 16 t15.1.Addr.B t23.1.Addr.B) && true)) && ((t15.1.Bits == t23.1.Bits) && true))) ha rfl rfl rfl (fun w' hs => eqs_run (r := (((t15.1.Addr.Size == t23.1.Addr.Size) && ((eqA 16 t15.1.Addr.B t23.1.Addr.B) && true)) && ((t15.1.Bits == t23.1.Bits) && true))) (m := 9) ha rfl rfl (by kernel_rfl) rfl (by kernel_rfl) w') fun a ha => ?_
  refine qp 3 (.bool (((t15.1.Addr.Size == t23.1.Addr.Size) && ((eqA 16 t15.1.Addr.B t23.1.Addr.B) && true)) && ((t15.1.Bits == t23.1.Bits) && true))) ha rfl rfl rfl (by kernel_rfl) fun a ha => ?_
  refine qp 0 (.bool (((t15.1.Addr.Size == t23.1.Addr.Size) && ((eqA 16 t15.1.Addr.B t23.1.Addr.B) && true)) && ((t15.1.Bits == t23.1.Bits) && true))) ha rfl rfl rfl (by kernel_rfl) fun a ha => ?_
  have ha := ha.sel (env' := [(47, .bool (((t15.1.Addr.Size == t23.1.Addr.Size) && ((eqA 16 t15.1.Addr.B t23.1.Addr.B) && true)) && ((t15.1.Bits == t23.1.Bits) && true))), (6, .pointer (some ⟨g8, 0, none⟩)), (11, .int .i64 t15.2), (13, .int .i64 t23.2), (14, .pointer (some ⟨g33, 0, none⟩)), (15, .int .i64 t31.2), (16, .pointer (some ⟨g41, 0, none⟩)), (17, .int .i64 t39.2)]) (by kernel_rfl)
  rcases Bool.eq_false_or_eq_true ((((t15.1.Addr.Size == t23.1.Addr.Size) && ((eqA 16 t15.1.Addr.B t23.1.Addr.B) && true)) && ((t15.1.Bits == t23.1.Bits) && true))) with hb49 | hb49
  ·have ha := ha.lit hb49
   have H := ite_t hb49 H
   refine qp 0 (.int .i64 t15.2) ha rfl rfl rfl (by kernel_rfl) fun a ha => ?_
   refine qp 0 (.int .i64 t23.2) ha rfl rfl rfl (by kernel_rfl) fun a ha => ?_
   refine qp 0 (.bool (t15.2 == t23.2)) ha rfl rfl rfl (by kernel_rfl) fun a ha => ?_
   refine qp 3 (.bool (t15.2 == t23.2)) ha rfl rfl rfl (by kernel_rfl) fun a ha => ?_
   refine qp 0 (.bool (t15.2 == t23.2)) ha rfl rfl rfl (by kernel_rfl) fun a ha => ?_
   have ha := ha.sel (env' := [(52, .bool (t15.2 == t23.2)), (6, .pointer (some ⟨g8, 0, none⟩)), (14, .pointer (some ⟨g33, 0, none⟩)), (15, .int .i64 t31.2), (16, .pointer (some ⟨g41, 0, none⟩)), (17, .int .i64 t39.2)]) (by kernel_rfl)
   rcases Bool.eq_false_or_eq_true (t15.2 == t23.2) with hb50 | hb50
   ·have ha := ha.lit hb50
    have H := ite_t hb50 H
    refine qv (v := .agg (cS_api_Prefix t31.1).toArray) ha rfl rfl rfl (fun w' hs => ldA_run (cs := (cS_api_Prefix t31.1)) ha rfl (by kernel_rfl) (cells_sub (Box.cells (Box.chg hBg33 hs (fun h => nomatch h))) (all := (cS_api_Prefix t31.1)) [] [] (by kernel_rfl))) fun a ha => ?_
    refine qv (v := .agg (cS_api_Prefix t39.1).toArray) ha rfl rfl rfl (fun w' hs => ldA_run (cs := (cS_api_Prefix t39.1)) ha rfl (by kernel_rfl) (cells_sub (Box.cells (Box.chg hBg41 hs (fun h => nomatch h))) (all := (cS_api_Prefix t39.1)) [] [] (by kernel_rfl))) fun a ha => ?_
    refine qv (v := .bool (((t31.1.Addr.Size == t39.1.Addr.Size) && ((eqA 16 t31.1.Addr.B t39.1.Addr.B) && true)) && ((t31.1.Bits == t39.1.Bits) && true))) ha rfl rfl rfl (fun w' hs => eqs_run (r := (((t31.1.Addr.Size == t39.1.Addr.Size) && ((eqA 16 t31.1.Addr.B t39.1.Addr.B) && true)) && ((t31.1.Bits == t39.1.Bits) && true))) (m := 9) ha rfl rfl (by kernel_rfl) rfl (by kernel_rfl) w') fun a ha => ?_
    refine qp 3 (.bool (((t31.1.Addr.Size == t39.1.Addr.Size) && ((eqA 16 t31.1.Addr.B t39.1.Addr.B) && true)) && ((t31.1.Bits == t39.1.Bits) && true))) ha rfl rfl rfl (by kernel_rfl) fun a ha => ?_
    refine qp 0 (.bool (((t31.1.Addr.Size == t39.1.Addr.Size) && ((eqA 16 t31.1.Addr.B t39.1.Addr.B) && true)) && ((t31.1.Bits == t39.1.Bits) && true))) ha rfl rfl rfl (by kernel_rfl) fun a ha => ?_
    have ha := ha.sel (env' := [(57, .bool (((t31.1.Addr.Size == t39.1.Addr.Size) && ((eqA 16 t31.1.Addr.B t39.1.Addr.B) && true)) && ((t31.1.Bits == t39.1.Bits) && true))), (6, .pointer (some ⟨g8, 0, none⟩)), (15, .int .i64 t31.2), (17, .int .i64 t39.2)]) (by kernel_rfl)
    rcases Bool.eq_false_or_eq_true ((((t31.1.Addr.Size == t39.1.Addr.Size) && ((eqA 16 t31.1.Addr.B t39.1.Addr.B) && true)) && ((t31.1.Bits == t39.1.Bits) && true))) with hb51 | hb51
    ·have ha := ha.lit hb51
     have H := ite_t hb51 H
     refine qp 0 (.int .i64 t31.2) ha rfl rfl rfl (by kernel_rfl) fun a ha => ?_
     refine qp 0 (.int .i64 t39.2) ha rfl rfl rfl (by kernel_rfl) fun a ha => ?_
     refine qp 0 (.bool (t31.2 == t39.2)) ha rfl rfl rfl (by kernel_rfl) fun a ha => ?_
     refine qp 3 (.bool (t31.2 == t39.2)) ha rfl rfl rfl (by kernel_rfl) fun a ha => ?_
     refine qp 0 (.bool (t31.2 == t39.2)) ha rfl rfl rfl (by kernel_rfl) fun a ha => ?_
     have ha := ha.sel (env' := [(62, .bool (t31.2 == t39.2)), (6, .pointer (some ⟨g8, 0, none⟩))]) (by kernel_rfl)
     rcases Bool.eq_false_or_eq_true (t31.2 == t39.2) with hb52 | hb52
     ·have ha := ha.lit hb52
      have H := ite_t hb52 H
      refine qv (v := .agg (cS_api_Prefix a2).toArray) ha rfl rfl rfl (fun w' hs => ldA_run (cs := (cS_api_Prefix a2)) ha rfl (by kernel_rfl) (cells_sub (fun j v hv => hs.keep (hE10 j v hv)) (all := (cS_api_Prefix a2)) [] [] (by kernel_rfl))) fun a ha => ?_
      obtain ⟨t53, H53, H⟩ := bind_some H
      refine qc (.string (bstr t53)) ha (by rfl) (by kernel_rfl) (by rfl) (by rfl) (by rfl) (fun w' hs => (addr_PrefixText.walk w' [] (MS.nil _) (hG.chg (M' := []) hs (Ok.nil _ _) (Ok.nil _ _)) a2 k _ H53).mono fun v w'' ⟨hv, hc, _⟩ => ⟨hv, hs.trans hc (Ok.nil _ _)⟩) fun a ha => ?_
      refine qv (v := .agg (cS_api_Prefix a2).toArray) ha rfl rfl rfl (fun w' hs => ldA_run (cs := (cS_api_Prefix a2)) ha rfl (by kernel_rfl) (cells_sub (fun j v hv => hs.keep (hE10 j v hv)) (all := (cS_api_Prefix a2)) [] [] (by kernel_rfl))) fun a ha => ?_
      obtain ⟨t54, H54, H⟩ := bind_some H
      refine qc (.string (bstr t54)) ha (by rfl) (by kernel_rfl) (by rfl) (by rfl) (by rfl) (fun w' hs => (vineryref02_PrefixText.walk w' [] (MS.nil _) a2 k _ H54).mono fun v w'' ⟨hv, hc, _⟩ => ⟨hv, hs.trans hc (Ok.nil _ _)⟩) fun a ha => ?_
      refine qp 0 (.bool ((bstr t53).toList == (bstr t54).toList)) ha rfl rfl rfl (by kernel_rfl) fun a ha => ?_
      refine qp 3 (.bool ((bstr t53).toList == (bstr t54).toList)) ha rfl rfl rfl (by kernel_rfl) fun a ha => ?_
      refine qp 0 (.bool ((bstr t53).toList == (bstr t54).toList)) ha rfl rfl rfl (by kernel_rfl) fun a ha => ?_
      refine wpQuiet_nil ?_
      intro w55 hc56
      have o1 : Ok [] ([g41] ++ ([g33] ++ ([g25] ++ ([g17] ++ (M))))) w44.heap.size := Ok.nil _ _
      have o2 : Ok ([g41] ++ ([g33] ++ ([g25] ++ ([g17] ++ (M))))) ([g41] ++ ([g33] ++ ([g25] ++ ([g17] ++ (M))))) w44.heap.size := (Ok.refl _ _)
      have hG := hG.chg hc56 o1 o2
      have hBg17 := hBg17.chg hc56 (fun h => nomatch h)
      have hBg25 := hBg25.chg hc56 (fun h => nomatch h)
      have hBg33 := hBg33.chg hc56 (fun h => nomatch h)
      have hBg41 := hBg41.chg hc56 (fun h => nomatch h)
      have q_hn11 : g8 ∉ [g41] ++ ([g33] ++ ([g25] ++ ([g17] ++ (M)))) := fun h => (o2 g8 h).elim hn11 (fun h => absurd (lt_cell (hE10 0 _ rfl)) (Nat.not_lt.2 h))
      have hE10 : ∀ j v, (cS_api_Prefix a2)[j]? = some v → w55.cell? ⟨g8, 0 + j, none⟩ = some v := fun j v hv => (cell_keep hc56 o1 hn11 (hE10 j v hv))
      have hn11 := q_hn11
      have hM : MS ([g41] ++ ([g33] ++ ([g25] ++ ([g17] ++ (M))))) w55 := (hM.chg hc56)
      have hC := hC.trans hc56 (Ok.nil _ _)
      refine wpl_end ?_
      obtain rfl := Option.some.inj H
      exact J47 _ _ (ha.sel (by kernel_rfl)) hBg17 hBg25 hBg33 hBg41 hG hC hM
     ·have ha := ha.lit hb52
      have H := ite_f hb52 H
      refine qo ha rfl rfl rfl fun a ha => ?_
      refine qo ha rfl rfl rfl fun a ha => ?_
      refine qo ha rfl rfl rfl fun a ha => ?_
      refine qo ha rfl rfl rfl fun a ha => ?_
      refine qo ha rfl rfl rfl fun a ha => ?_
      refine qp 4 (.bool false) ha rfl rfl rfl (by kernel_rfl) fun a ha => ?_
      refine qp 0 (.bool false) ha rfl rfl rfl (by kernel_rfl) fun a ha => ?_
      refine wpQuiet_nil ?_
      intro w57 hc58
      have o1 : Ok [] ([g41] ++ ([g33] ++ ([g25] ++ ([g17] ++ (M))))) w44.heap.size := Ok.nil _ _
      have o2 : Ok ([g41] ++ ([g33] ++ ([g25] ++ ([g17] ++ (M))))) ([g41] ++ ([g33] ++ ([g25] ++ ([g17] ++ (M))))) w44.heap.size := (Ok.refl _ _)
      have hG := hG.chg hc58 o1 o2
      have hBg17 := hBg17.chg hc58 (fun h => nomatch h)
      have hBg25 := hBg25.chg hc58 (fun h => nomatch h)
      have hBg33 := hBg33.chg hc58 (fun h => nomatch h)
      have hBg41 := hBg41.chg hc58 (fun h => nomatch h)
      have q_hn11 : g8 ∉ [g41] ++ ([g33] ++ ([g25] ++ ([g17] ++ (M)))) := fun h => (o2 g8 h).elim hn11 (fun h => absurd (lt_cell (hE10 0 _ rfl)) (Nat.not_lt.2 h))
      have hE10 : ∀ j v, (cS_api_Prefix a2)[j]? = some v → w57.cell? ⟨g8, 0 + j, none⟩ = some v := fun j v hv => (cell_keep hc58 o1 hn11 (hE10 j v hv))
      have hn11 := q_hn11
      have hM : MS ([g41] ++ ([g33] ++ ([g25] ++ ([g17] ++ (M))))) w57 := (hM.chg hc58)
      have hC := hC.trans hc58 (Ok.nil _ _)
      refine wpl_end ?_
      obtain rfl := Option.some.inj H
      exact J47 _ _ (ha.sel (by kernel_rfl)) hBg17 hBg25 hBg33 hBg41 hG hC hM
    ·have ha := ha.lit hb51
     have H := ite_f hb51 H
     refine qo ha rfl rfl rfl fun a ha => ?_
     refine qo ha rfl rfl rfl fun a ha => ?_
     refine qo ha rfl rfl rfl fun a ha => ?_
     refine qp 4 (.bool false) ha rfl rfl rfl (by kernel_rfl) fun a ha => ?_
     refine qp 0 (.bool false) ha rfl rfl rfl (by kernel_rfl) fun a ha => ?_
     refine qo ha rfl rfl rfl fun a ha => ?_
     refine qo ha rfl rfl rfl fun a ha => ?_
     refine qo ha rfl rfl rfl fun a ha => ?_
     refine qo ha rfl rfl rfl fun a ha => ?_
     refine qo ha rfl rfl rfl fun a ha => ?_
     refine qp 4 (.bool false) ha rfl rfl rfl (by kernel_rfl) fun a ha => ?_
     refine qp 0 (.bool false) ha rfl rfl rfl (by kernel_rfl) fun a ha => ?_
     refine wpQuiet_nil ?_
     intro w59 hc60
     have o1 : Ok [] ([g41] ++ ([g33] ++ ([g25] ++ ([g17] ++ (M))))) w44.heap.size := Ok.nil _ _
     have o2 : Ok ([g41] ++ ([g33] ++ ([g25] ++ ([g17] ++ (M))))) ([g41] ++ ([g33] ++ ([g25] ++ ([g17] ++ (M))))) w44.heap.size := (Ok.refl _ _)
     have hG := hG.chg hc60 o1 o2
     have hBg17 := hBg17.chg hc60 (fun h => nomatch h)
     have hBg25 := hBg25.chg hc60 (fun h => nomatch h)
     have hBg33 := hBg33.chg hc60 (fun h => nomatch h)
     have hBg41 := hBg41.chg hc60 (fun h => nomatch h)
     have q_hn11 : g8 ∉ [g41] ++ ([g33] ++ ([g25] ++ ([g17] ++ (M)))) := fun h => (o2 g8 h).elim hn11 (fun h => absurd (lt_cell (hE10 0 _ rfl)) (Nat.not_lt.2 h))
     have hE10 : ∀ j v, (cS_api_Prefix a2)[j]? = some v → w59.cell? ⟨g8, 0 + j, none⟩ = some v := fun j v hv => (cell_keep hc60 o1 hn11 (hE10 j v hv))
     have hn11 := q_hn11
     have hM : MS ([g41] ++ ([g33] ++ ([g25] ++ ([g17] ++ (M))))) w59 := (hM.chg hc60)
     have hC := hC.trans hc60 (Ok.nil _ _)
     refine wpl_end ?_
     obtain rfl := Option.some.inj H
     exact J47 _ _ (ha.sel (by kernel_rfl)) hBg17 hBg25 hBg33 hBg41 hG hC hM
   ·have ha := ha.lit hb50
    have H := ite_f hb50 H
    refine qo ha rfl rfl rfl fun a ha => ?_
    refine qo ha rfl rfl rfl fun a ha => ?_
    refine qo ha rfl rfl rfl fun a ha => ?_
    refine qp 4 (.bool false) ha rfl rfl rfl (by kernel_rfl) fun a ha => ?_
    refine qp 0 (.bool false) ha rfl rfl rfl (by kernel_rfl) fun a ha => ?_
    refine qo ha rfl rfl rfl fun a ha => ?_
    refine qo ha rfl rfl rfl fun a ha => ?_
    refine qo ha rfl rfl rfl fun a ha => ?_
    refine qp 4 (.bool false) ha rfl rfl rfl (by kernel_rfl) fun a ha => ?_
    refine qp 0 (.bool false) ha rfl rfl rfl (by kernel_rfl) fun a ha => ?_
    refine qo ha rfl rfl rfl fun a ha => ?_
    refine qo ha rfl rfl rfl fun a ha => ?_
    refine qo ha rfl rfl rfl fun a ha => ?_
    refine qo ha rfl rfl rfl fun a ha => ?_
    refine qo ha rfl rfl rfl fun a ha => ?_
    refine qp 4 (.bool false) ha rfl rfl rfl (by kernel_rfl) fun a ha => ?_
    refine qp 0 (.bool false) ha rfl rfl rfl (by kernel_rfl) fun a ha => ?_
    refine wpQuiet_nil ?_
    intro w61 hc62
    have o1 : Ok [] ([g41] ++ ([g33] ++ ([g25] ++ ([g17] ++ (M))))) w44.heap.size := Ok.nil _ _
    have o2 : Ok ([g41] ++ ([g33] ++ ([g25] ++ ([g17] ++ (M))))) ([g41] ++ ([g33] ++ ([g25] ++ ([g17] ++ (M))))) w44.heap.size := (Ok.refl _ _)
    have hG := hG.chg hc62 o1 o2
    have hBg17 := hBg17.chg hc62 (fun h => nomatch h)
    have hBg25 := hBg25.chg hc62 (fun h => nomatch h)
    have hBg33 := hBg33.chg hc62 (fun h => nomatch h)
    have hBg41 := hBg41.chg hc62 (fun h => nomatch h)
    have q_hn11 : g8 ∉ [g41] ++ ([g33] ++ ([g25] ++ ([g17] ++ (M)))) := fun h => (o2 g8 h).elim hn11 (fun h => absurd (lt_cell (hE10 0 _ rfl)) (Nat.not_lt.2 h))
    have hE10 : ∀ j v, (cS_api_Prefix a2)[j]? = some v → w61.cell? ⟨g8, 0 + j, none⟩ = some v := fun j v hv => (cell_keep hc62 o1 hn11 (hE10 j v hv))
    have hn11 := q_hn11
    have hM : MS ([g41] ++ ([g33] ++ ([g25] ++ ([g17] ++ (M))))) w61 := (hM.chg hc62)
    have hC := hC.trans hc62 (Ok.nil _ _)
    refine wpl_end ?_
    obtain rfl := Option.some.inj H
    exact J47 _ _ (ha.sel (by kernel_rfl)) hBg17 hBg25 hBg33 hBg41 hG hC hM
  ·have ha := ha.lit hb49
   have H := ite_f hb49 H
   refine qo ha rfl rfl rfl fun a ha => ?_
   refine qo ha rfl rfl rfl fun a ha => ?_
   refine qo ha rfl rfl rfl fun a ha => ?_
   refine qp 4 (.bool false) ha rfl rfl rfl (by kernel_rfl) fun a ha => ?_
   refine qp 0 (.bool false) ha rfl rfl rfl (by kernel_rfl) fun a ha => ?_
   refine qo ha rfl rfl rfl fun a ha => ?_
   refine qo ha rfl rfl rfl fun a ha => ?_
   refine qo ha rfl rfl rfl fun a ha => ?_
   refine qp 4 (.bool false) ha rfl rfl rfl (by kernel_rfl) fun a ha => ?_
   refine qp 0 (.bool false) ha rfl rfl rfl (by kernel_rfl) fun a ha => ?_
   refine qo ha rfl rfl rfl fun a ha => ?_
   refine qo ha rfl rfl rfl fun a ha => ?_
   refine qo ha rfl rfl rfl fun a ha => ?_
   refine qp 4 (.bool false) ha rfl rfl rfl (by kernel_rfl) fun a ha => ?_
   refine qp 0 (.bool false) ha rfl rfl rfl (by kernel_rfl) fun a ha => ?_
   refine qo ha rfl rfl rfl fun a ha => ?_
   refine qo ha rfl rfl rfl fun a ha => ?_
   refine qo ha rfl rfl rfl fun a ha => ?_
   refine qo ha rfl rfl rfl fun a ha => ?_
   refine qo ha rfl rfl rfl fun a ha => ?_
   refine qp 4 (.bool false) ha rfl rfl rfl (by kernel_rfl) fun a ha => ?_
   refine qp 0 (.bool false) ha rfl rfl rfl (by kernel_rfl) fun a ha => ?_
   refine wpQuiet_nil ?_
   intro w63 hc64
   have o1 : Ok [] ([g41] ++ ([g33] ++ ([g25] ++ ([g17] ++ (M))))) w44.heap.size := Ok.nil _ _
   have o2 : Ok ([g41] ++ ([g33] ++ ([g25] ++ ([g17] ++ (M))))) ([g41] ++ ([g33] ++ ([g25] ++ ([g17] ++ (M))))) w44.heap.size := (Ok.refl _ _)
   have hG := hG.chg hc64 o1 o2
   have hBg17 := hBg17.chg hc64 (fun h => nomatch h)
   have hBg25 := hBg25.chg hc64 (fun h => nomatch h)
   have hBg33 := hBg33.chg hc64 (fun h => nomatch h)
   have hBg41 := hBg41.chg hc64 (fun h => nomatch h)
   have q_hn11 : g8 ∉ [g41] ++ ([g33] ++ ([g25] ++ ([g17] ++ (M)))) := fun h => (o2 g8 h).elim hn11 (fun h => absurd (lt_cell (hE10 0 _ rfl)) (Nat.not_lt.2 h))
   have hE10 : ∀ j v, (cS_api_Prefix a2)[j]? = some v → w63.cell? ⟨g8, 0 + j, none⟩ = some v := fun j v hv => (cell_keep hc64 o1 hn11 (hE10 j v hv))
   have hn11 := q_hn11
   have hM : MS ([g41] ++ ([g33] ++ ([g25] ++ ([g17] ++ (M))))) w63 := (hM.chg hc64)
   have hC := hC.trans hc64 (Ok.nil _ _)
   refine wpl_end ?_
   obtain rfl := Option.some.inj H
   exact J47 _ _ (ha.sel (by kernel_rfl)) hBg17 hBg25 hBg33 hBg41 hG hC hM
 ·have ha := ha.lit hb48
  have H := ite_f hb48 H
  refine qo ha rfl rfl rfl fun a ha => ?_
  refine qo ha rfl rfl rfl fun a ha => ?_
  refine qo ha rfl rfl rfl fun a ha => ?_
  refine qp 4 (.bool false) ha rfl rfl rfl (by kernel_rfl) fun a ha => ?_
  refine qp 0 (.bool false) ha rfl rfl rfl (by kernel_rfl) fun a ha => ?_
  refine qo ha rfl rfl rfl fun a ha => ?_
  refine qo ha rfl rfl rfl fun a ha => ?_
  refine qo ha rfl rfl rfl fun a ha => ?_
  refine qp 4 (.bool false) ha rfl rfl rfl (by kernel_rfl) fun a ha => ?_
  refine qp 0 (.bool false) ha rfl rfl rfl (by kernel_rfl) fun a ha => ?_
  refine qo ha rfl rfl rfl fun a ha => ?_
  refine qo ha rfl rfl rfl fun a ha => ?_
  refine qo ha rfl rfl rfl fun a ha => ?_
  refine qp 4 (.bool false) ha rfl rfl rfl (by kernel_rfl) fun a ha => ?_
  refine qp 0 (.bool false) ha rfl rfl rfl (by kernel_rfl) fun a ha => ?_
  refine qo ha rfl rfl rfl fun a ha => ?_
  refine qo ha rfl rfl rfl fun a ha => ?_
  refine qo ha rfl rfl rfl fun a ha => ?_
  refine qp 4 (.bool false) ha rfl rfl rfl (by kernel_rfl) fun a ha => ?_
  refine qp 0 (.bool false) ha rfl rfl rfl (by kernel_rfl) fun a ha => ?_
  refine qo ha rfl rfl rfl fun a ha => ?_
  refine qo ha rfl rfl rfl fun a ha => ?_
  refine qo ha rfl rfl rfl fun a ha => ?_
  refine qo ha rfl rfl rfl fun a ha => ?_
  refine qo ha rfl rfl rfl fun a ha => ?_
  refine qp 4 (.bool false) ha rfl rfl rfl (by kernel_rfl) fun a ha => ?_
  refine qp 0 (.bool false) ha rfl rfl rfl (by kernel_rfl) fun a ha => ?_
  refine wpQuiet_nil ?_
  intro w65 hc66
  have o1 : Ok [] ([g41] ++ ([g33] ++ ([g25] ++ ([g17] ++ (M))))) w44.heap.size := Ok.nil _ _
  have o2 : Ok ([g41] ++ ([g33] ++ ([g25] ++ ([g17] ++ (M))))) ([g41] ++ ([g33] ++ ([g25] ++ ([g17] ++ (M))))) w44.heap.size := (Ok.refl _ _)
  have hG := hG.chg hc66 o1 o2
  have hBg17 := hBg17.chg hc66 (fun h => nomatch h)
  have hBg25 := hBg25.chg hc66 (fun h => nomatch h)
  have hBg33 := hBg33.chg hc66 (fun h => nomatch h)
  have hBg41 := hBg41.chg hc66 (fun h => nomatch h)
  have q_hn11 : g8 ∉ [g41] ++ ([g33] ++ ([g25] ++ ([g17] ++ (M)))) := fun h => (o2 g8 h).elim hn11 (fun h => absurd (lt_cell (hE10 0 _ rfl)) (Nat.not_lt.2 h))
  have hE10 : ∀ j v, (cS_api_Prefix a2)[j]? = some v → w65.cell? ⟨g8, 0 + j, none⟩ = some v := fun j v hv => (cell_keep hc66 o1 hn11 (hE10 j v hv))
  have hn11 := q_hn11
  have hM : MS ([g41] ++ ([g33] ++ ([g25] ++ ([g17] ++ (M))))) w65 := (hM.chg hc66)
  have hC := hC.trans hc66 (Ok.nil _ _)
  refine wpl_end ?_
  obtain rfl := Option.some.inj H
  exact J47 _ _ (ha.sel (by kernel_rfl)) hBg17 hBg25 hBg33 hBg41 hG hC hM
end Go.E
